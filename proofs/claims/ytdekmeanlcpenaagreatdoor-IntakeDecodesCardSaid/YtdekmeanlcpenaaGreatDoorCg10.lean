import Derived.Test.YtdekmeanlcpenaaGreatDoorCg9
import Derived.Test.YtdekmeanlcpenaaGreatDoorCg6
import Derived.Test.YtdekmeanlcpenaaGreatDoorCg8
import Derived.Test.YtdekmeanlcpenaaGreatDoorCg5
import Derived.Lib.ConvBytes
set_option linter.unusedSimpArgs false
set_option linter.unusedVariables false
namespace Go.Proofs.YtdekmeanlcpenaaGreatDoor.Block
end Go.Proofs.YtdekmeanlcpenaaGreatDoor.Block
namespace Go.Proofs.YtdekmeanlcpenaaGreatDoor.Mid
end Go.Proofs.YtdekmeanlcpenaaGreatDoor.Mid
namespace Go.Proofs.YtdekmeanlcpenaaGreatDoor.Codec
open Go.RowKit Go.Proofs.YtdekmeanlcpenaaGreatDoorW.PrintWords Go.Proofs.YtdekmeanlcpenaaGreatDoorW.PrintLast Go.Proofs.YtdekmeanlcpenaaGreatDoorW.PrintMore Go.Proofs.YtdekmeanlcpenaaGreatDoor.Mid Go.Proofs.YtdekmeanlcpenaaGreatDoor.Block
attribute [local go_sem ↓ high] load33_eq load29_eq
attribute [local simp] rowOf_drew rowOf_drewN
attribute [local go_sem high] load33_row load29_row rowOf_drew rowOf_drewN
set_option maxHeartbeats 4000000
set_option maxRecDepth 100000
set_option linter.unusedVariables false
set_option linter.unusedSimpArgs false
theorem add_0 (a : Addr) : a.add 0 = a := by unfold Addr.add; simp
theorem ret_false {n : Nat} {args : Array Value} {w : World} {p : Prop} (h : Calls Tryz.prog n args w fun e w' => RetB e p ∧ Below w.heap.size w w') (hp : ¬ p) : Calls Tryz.prog n args w fun e w' => e = .returned (.bool false) ∧ Below w.heap.size w w' := h.mono fun _ _ ⟨h1, h2⟩ => ⟨RetB.is_false h1 hp, h2⟩
theorem p8_nil (W : World) (A : Option Addr) (c : Nat) : Calls Tryz.prog 68 #[.slice A 0 c] W (RetP8 W []) := by
  go_enter Tryz.func68, Tryz.ntmps68
  go_wp2
  go_ret2
  exact .no (fun rs T ok h => by have := (tab_shape T ok h).1; simp only [List.length_nil] at this; omega) rfl (Below.refl _ _)
theorem p8_big (W : World) (A : Option Addr) (c : Nat) (l : List Int) (hC : Kd.C (Kd.int .u8) W A l.length l) (hb : Byt l) (hl : l.length ≤ 140737488351232) (h0 : 0 < l.length) (hx : 32 < rd l 0) : Calls Tryz.prog 68 #[.slice A l.length c] W (RetP8 W l) := by
  obtain ⟨ad, e0, hx0⟩ := Kd.at_int hC (0 : Int) (by omega) (by omega)
  cases e0
  have hxb : 0 ≤ rd l 0 ∧ rd l 0 ≤ 255 := rd_bnd hb 0
  have HN : Aside0 (∀ rs, Table rs → (∀ r ∈ rs, ResOk r) → tabW rs ≠ l) := ⟨fun rs T ok h => by have := tab_shape T ok h; omega⟩
  obtain ⟨x, hxn⟩ : ∃ x : Nat, rd l 0 = (x : Int) := ⟨(rd l 0).toNat, by omega⟩
  rw [hxn] at hx hx0 hxb
  simp only [Int.toNat_zero, add_0] at hx0
  have hln : ¬ (l.length : Int) = 0 := by omega
  have hln2 : ¬ l.length = 0 := by omega
  clear hC hxn hb
  go_enter Tryz.func68, Tryz.ntmps68
  go_wp2
  go_ret2
  exact .no HN.out rfl (Below.refl _ _)
theorem p8_len (W : World) (A : Option Addr) (c : Nat) (l : List Int) (hC : Kd.C (Kd.int .u8) W A l.length l) (hb : Byt l) (hl : l.length ≤ 140737488351232) (h0 : 0 < l.length) (hx : ¬ 32 < rd l 0) (hn : ¬ (l.length : Int) = 1 + 65 * rd l 0) : Calls Tryz.prog 68 #[.slice A l.length c] W (RetP8 W l) := by
  have HN : Aside0 (∀ rs, Table rs → (∀ r ∈ rs, ResOk r) → tabW rs ≠ l) := ⟨fun rs T ok h => by have := tab_shape T ok h; omega⟩
  obtain ⟨ad, e0, hx0⟩ := Kd.at_int hC (0 : Int) (by omega) (by omega)
  cases e0
  have hxb : 0 ≤ rd l 0 ∧ rd l 0 ≤ 255 := rd_bnd hb 0
  obtain ⟨n, hxn⟩ : ∃ n : Nat, rd l 0 = (n : Int) := ⟨(rd l 0).toNat, by omega⟩
  rw [hxn] at hx hx0 hxb
  simp only [Int.toNat_zero, add_0] at hx0
  have hln : ¬ (l.length : Int) = 0 := by omega
  have hln2 : ¬ l.length = 0 := by omega
  rw [hxn] at hn
  have hw1 : IntKind.i64.wrap (65 * (n : Int)) = 65 * (n : Int) := IntWalk.i64_in _ (by omega)
  have hw2 : IntKind.i64.wrap (1 + 65 * (n : Int)) = 1 + 65 * (n : Int) := IntWalk.i64_in _ (by omega)
  have hd1 : ((l.length : Int) == 0) = false := by rw [beq_eq_false_iff_ne]; omega
  have hd2 : ((l.length : Int) != 1 + 65 * (n : Int)) = true := by simp [bne_iff_ne]; omega
  clear hC hxn hb
  go_enter Tryz.func68, Tryz.ntmps68
  go_wp2
  go_ret2
  exact .no HN.out rfl (Below.refl _ _)
theorem p8_on (W : World) (A : Option Addr) (c : Nat) (l : List Int) (hC : Kd.C (Kd.int .u8) W A l.length l) (hb : Byt l) (hl : l.length ≤ 140737488351232) (h0 : 0 < l.length) (hx : ¬ 32 < rd l 0) (hn : (l.length : Int) = 1 + 65 * rd l 0) : Calls Tryz.prog 68 #[.slice A l.length c] W (RetP8 W l) := by
  have HC := Aside0.mk hC
  have HBy := Aside0.mk hb
  obtain ⟨ad, e0, hx0⟩ := Kd.at_int hC (0 : Int) (by omega) (by omega)
  cases e0
  have hxb : 0 ≤ rd l 0 ∧ rd l 0 ≤ 255 := rd_bnd hb 0
  obtain ⟨n, hxn⟩ : ∃ n : Nat, rd l 0 = (n : Int) := ⟨(rd l 0).toNat, by omega⟩
  rw [hxn] at hx hx0 hxb
  simp only [Int.toNat_zero, add_0] at hx0
  have hln : ¬ (l.length : Int) = 0 := by omega
  have hln2 : ¬ l.length = 0 := by omega
  rw [hxn] at hn
  have hll : l.length = 1 + 65 * n := by omega
  have HLL := Aside0.mk hll
  have HXN : Aside0 (rd l 0 = (n : Int) ∧ n ≤ 32) := ⟨hxn, by omega⟩
  have hw1 : IntKind.i64.wrap (65 * (n : Int)) = 65 * (n : Int) := IntWalk.i64_in _ (by omega)
  have hw2 : IntKind.i64.wrap (1 + 65 * (n : Int)) = 1 + 65 * (n : Int) := IntWalk.i64_in _ (by omega)
  have hd1 : ((l.length : Int) == 0) = false := by rw [beq_eq_false_iff_ne]; omega
  have hd2 : ((l.length : Int) != 1 + 65 * (n : Int)) = false := by rw [bne_eq_false_iff_eq]; omega
  have hlm : l.length ≤ 2081 := by omega
  clear hC hxn hb hll hn
  go_enter Tryz.func68, Tryz.ntmps68
  go_upto_region 5 with (fail)
  clear hw1 hw2 hd1 hd2
  go_loopg [4, 5] n (fun k v4 v5 w' => ∃ (i : Nat) (X : Nat), v5 = .int .i64 X ∧ X + 65 * k = l.length ∧ Aside0 (X = 1 + 65 * i ∧ i + k = n) ∧ Aside0 (resK.R 33 w' W.heap.size (fun _ => True) v4 (rowsTo l i)) ∧ Aside0 (Below W.heap.size W w'))
  case atStart => exact ⟨0, 1, rfl, by have := HLL.out; omega, ⟨by omega⟩, ⟨Kd.R_nil _ _ _ _ _⟩, ⟨Below.refl _ _⟩⟩
  case round =>
    obtain ⟨i, X, rfl, hXk, HX, HR, HB⟩ := hrel
    cases gk with
    | zero =>
      have hXl : X = l.length := by omega
      subst hXl
      have hi : Aside0 (i = n) := ⟨by have := HX.out; omega⟩
      have hlen : (rowsTo l i).length = i := rowsTo_len l i
      obtain ⟨rs, hrs⟩ : ∃ rs, rowsTo l i = rs := ⟨_, rfl⟩
      rw [hrs] at HR hlen
      obtain ⟨A4, c4, e4⟩ := Kd.R_slice HR.out
      subst e4
      have C4 := Aside0.mk (Kd.R_reads' HR.out)
      have HRS : Aside0 (rowsTo l n = rs) := ⟨by rw [← hi.out]; exact hrs⟩
      have Hok : Aside0 (∀ r ∈ rs, ResOk r) := ⟨by rw [← HRS.out]; exact rowsTo_ok HBy.out HLL.out _ (Nat.le_refl _)⟩
      clear hrs hlen HX hi hXk
      by_cases hT : Table rs
      · have HT := Aside0.mk hT
        clear hT
        go_wp2_with (first
          | (go_at_call 28; refine (ret_true (ref_valid A4 c4 rs wr C4.out.2.2 C4.out.2.1 (by have := HT.out.most; omega)) HT.out).mono ?_; rintro e w1 ⟨rfl, hb⟩; have HB1 := Aside0.mk hb; clear hb)
          | go_in)
        go_ret2
        exact .yes rs A4 c4 HT.out Hok.out (by rw [← HRS.out]; exact rowsTo_tab HLL.out HXN.out.2 HXN.out.1) rfl (Kd.R_below HR.out HB1.out) (below_step HB.out HB1.out)
      · have HT := Aside0.mk hT
        have Hrl : Aside0 (rs.length ≤ 140737488355328) := ⟨by rw [← HRS.out, rowsTo_len]; have := HXN.out.2; omega⟩
        clear hT
        have hcall := ret_false (ref_valid A4 c4 rs wr C4.out.2.2 C4.out.2.1 Hrl.out) HT.out
        clear hcall
        go_wp2_with (first
          | (go_at_call 28; refine (ret_false (ref_valid A4 c4 rs wr C4.out.2.2 C4.out.2.1 Hrl.out) HT.out).mono ?_; rintro e w1 ⟨rfl, hb⟩; have HB1 := Aside0.mk hb; clear hb)
          | go_in)
        go_ret2
        refine .no (fun qs T ok h => HT.out ?_) rfl (below_step HB.out HB1.out)
        have h4 := tab_shape T ok h
        have h5 : qs.length = n := by have := HLL.out; omega
        rw [h5] at h4
        rw [← HRS.out, ← h4.2.2.2]
        exact T
    | succ q =>
      have hXl : X < l.length := by omega
      have hXl1 : (X : Int) < (l.length : Int) := by omega
      have hXn : X + 65 ≤ l.length := by omega
      go_upto_region 9 with (fail)
      obtain ⟨q8, hq8⟩ : ∃ q8, wr.heap.size = q8 := ⟨_, rfl⟩
      obtain ⟨w8, hw8⟩ : ∃ w8, wr.alloc (.cells Tryz.zeroCells33 33) = w8 := ⟨_, rfl⟩
      obtain ⟨x, hx⟩ : ∃ x, (l.drop X).take 32 = x := ⟨_, rfl⟩
      obtain ⟨y, hy⟩ : ∃ y, (l.drop (X + 32)).take 32 = y := ⟨_, rfl⟩
      have hxl : x.length = 32 := by rw [← hx, List.length_take, List.length_drop]; omega
      have hyl : y.length = 32 := by rw [← hy, List.length_take, List.length_drop]; omega
      have K8 : Aside0 (w8.heap[q8]? = some (.cells (fillC x y 0 0).toArray 33 (0, 0))) := ⟨by rw [← hw8, ← hq8, zero33, fillC_zero]; exact heap_alloc_new wr _⟩
      have R8 : Aside0 (resK.R 33 w8 W.heap.size (fun _ => True) u4 (rowsTo l i)) := ⟨by rw [← hw8]; exact Kd.R_below HR.out (below_alloc (Below.refl _ _) _)⟩
      have B8 : Aside0 (Below W.heap.size W w8) := ⟨by rw [← hw8]; exact below_alloc HB.out _⟩
      have N8 : Aside0 (W.heap.size ≤ q8 ∧ some q8 ≠ u4.ownBlock) := ⟨by rw [← hq8]; exact ⟨HB.out.size, fun e => absurd (Kd.R_lt HR.out _ e.symm) (Nat.lt_irrefl _)⟩⟩
      have XY := Aside0.mk (And.intro hx (And.intro hy (And.intro hxl hyl)))
      rw [hw8, hq8]
      clear hw8 hq8 HR HB hx hy hxl hyl
      obtain ⟨wo, rfl⟩ : ∃ wo : World, wo = wr := ⟨_, rfl⟩
      go_loopg [7] 32 (fun k v7 w' => ∃ (j : Nat), v7 = .int .i64 j ∧ j + k = 32 ∧ Aside0 (w'.heap[q8]? = some (.cells (fillC x y j j).toArray 33 (0, 0))) ∧ Aside0 (resK.R 33 w' W.heap.size (fun _ => True) u4 (rowsTo l i)) ∧ Aside0 (Below W.heap.size W w'))
      case atStart => exact ⟨0, rfl, by omega, K8, R8, B8⟩
      case round =>
        clear K8 R8 B8
        obtain ⟨j, rfl, hjk, K8, R8, B8⟩ := hrel
        cases gk with
        | zero =>
          have hj : j = 32 := by omega
          subst hj
          clear hjk
          obtain ⟨Y, hY⟩ : ∃ Y : Nat, Y = X + 64 := ⟨_, rfl⟩
          obtain ⟨vz, hvz⟩ : ∃ vz : Nat, rd l (Y : Int) = (vz : Int) := ⟨(rd l (Y : Int)).toNat, by have := rd_bnd HBy.out Y; omega⟩
          have hvb : vz ≤ 255 := by have := rd_bnd HBy.out Y; omega
          obtain ⟨ad2, e0, hz0⟩ := Kd.at_int (Kd.C_below HC.out B8.out) (Y : Int) (by omega) (by omega)
          cases e0
          rw [hvz, Int.toNat_natCast] at hz0
          have hYi : (X : Int) + 64 = (Y : Int) := by omega
          have hYl : (Y : Int) < (l.length : Int) := by omega
          have hYl2 : Y < l.length := by omega
          have K8c : wr.cell? ⟨q8, 64, none⟩ = some (.int .i64 0) := (blk_cell K8.out _).trans (fill_last XY.out.2.2.1 XY.out.2.2.2)
          have K8f : wr.frozen? ⟨q8, 64, none⟩ = false := blk_frozen K8.out _
          have HY : Aside0 (Y = X + 64 ∧ rd l (Y : Int) = (vz : Int)) := ⟨hY, hvz⟩
          clear hY hvz
          go_upto_region 14 with (fail)
          have K12 : Aside0 ((wr.setCell ⟨q8, 64, none⟩ (.int .i64 vz)).heap[q8]? = some (.cells (resC ⟨x, y, vz⟩).toArray 33 (0, 0))) := ⟨by have h9 := blk_at (i := 64) (v := .int .i64 vz) K8.out; rw [fillC_full XY.out.2.2.1 XY.out.2.2.2] at h9; exact h9⟩
          have R12 : Aside0 (resK.R 33 (wr.setCell ⟨q8, 64, none⟩ (.int .i64 vz)) W.heap.size (fun _ => True) u4 (rowsTo l i)) := ⟨Kd.R_grown1 R8.out rfl (grown_set wr ⟨q8, 64, none⟩ _) N8.out.2⟩
          have B12 : Aside0 (Below W.heap.size W (wr.setCell ⟨q8, 64, none⟩ (.int .i64 vz))) := ⟨B8.out.setCell (p := ⟨q8, 64, none⟩) N8.out.1 _⟩
          obtain ⟨w12, hw12⟩ : ∃ w12, wr.setCell ⟨q8, 64, none⟩ (.int .i64 vz) = w12 := ⟨_, rfl⟩
          rw [hw12] at K12 R12 B12 ⊢
          have hin : i < n := by have := HX.out; omega
          have hrow : rowAt l i = ⟨x, y, vz⟩ := by
            have h1 := HX.out.1
            have h2 := HY.out
            rw [rowAt, show 33 + 65 * i = X + 32 by omega, show 65 + 65 * i = Y by omega, ← h1, XY.out.1, XY.out.2.1, h2.2]
          obtain ⟨r, hr⟩ : ∃ r, rowAt l i = r := ⟨_, rfl⟩
          have hro : ResOk r := by rw [← hr]; exact rowAt_ok HBy.out HLL.out hin
          rw [← hrow, hr] at K12
          have hld : rowOf w12 ⟨q8, 0, none⟩ 65 = some (resC r) := (At.blk K12.out).res hro
          have HN2 : Aside0 (rowsTo l (i + 1) = rowsTo l i ++ [r]) := ⟨by rw [rowsTo_succ, hr]⟩
          have HI : Aside0 ((rowsTo l i).length = i ∧ i ≤ 32) := ⟨rowsTo_len l i, by have := HXN.out.2; omega⟩
          have Hro := Aside0.mk hro
          obtain ⟨z, hz1, hz2⟩ := info33full
          have Hz := Aside0.mk (And.intro hz1 hz2)
          clear hz1 hz2 hr hro hw12 hrow K8c K8f K12 hz0 hYi hYl hYl2 hvb R8 B8 K8
          go_wp2_with (first
            | (refine wpList_build33 rfl _ rfl r Hro.out rfl ?_)
            | (at_builtin; refine Kd.R_append resK (w0 := w12) W.heap.size rfl (.tmp 66) (.tmp 68) 22 33 z 72 rfl Tryz.underlying22 Hz.out.1 Hz.out.2 (by decide) (by decide) u4 (rowsTo l i) r (resC r) (fun _ => True) (fun _ => False) rfl rfl (res_M Hro.out) (fun _ h => h.elim) (fun _ _ => trivial) R12.out (Below.refl _ _) B12.out.size (by rw [HI.out.1]; have := HI.out.2; omega) ?_
               intro v13 w13 h1 h2 h3 h4
               have P13 := Aside0.mk (And.intro h1 (B12.out.trans (h2.mono (Nat.le_refl _))))
               clear h1 h2 h3 h4)
            | go_in)
          go_roundg q
          case measure => omega
          case rel => exact ⟨i + 1, X + 65, by go_num, by omega, ⟨by have := HX.out; omega⟩, ⟨by rw [HN2.out]; exact P13.out.1⟩, ⟨P13.out.2⟩⟩
        | succ q2 =>
          have hj : j < 32 := by omega
          have hj1 : (j : Int) < 32 := by omega
          obtain ⟨Z, hZ⟩ : ∃ Z : Nat, Z = X + 32 := ⟨_, rfl⟩
          obtain ⟨b1, hb1⟩ : ∃ b1, rd l ((X + j : Nat) : Int) = b1 := ⟨_, rfl⟩
          obtain ⟨b2, hb2⟩ : ∃ b2, rd l ((Z + j : Nat) : Int) = b2 := ⟨_, rfl⟩
          obtain ⟨ad2, e0, hz1⟩ := Kd.at_int (Kd.C_below HC.out B8.out) ((X + j : Nat) : Int) (by omega) (by omega)
          cases e0
          rw [Int.toNat_natCast, hb1] at hz1
          obtain ⟨cv1, cv1h⟩ := fillC_cell (x := x) (y := y) (a := j) (b := j) XY.out.2.2.1 XY.out.2.2.2 (by omega) (by omega) (i := j) (by omega)
          obtain ⟨cv2, cv2h⟩ := fillC_cell (x := x) (y := y) (a := j + 1) (b := j) XY.out.2.2.1 XY.out.2.2.2 (by omega) (by omega) (i := 32 + j) (by omega)
          have K8c : wr.cell? ⟨q8, j, none⟩ = some cv1 := (blk_cell K8.out _).trans (by rw [List.getElem?_toArray]; exact cv1h)
          have K8f : wr.frozen? ⟨q8, j, none⟩ = false := blk_frozen K8.out _
          have HB12 : Aside0 (x.getD j 0 = b1 ∧ y.getD j 0 = b2) := ⟨by rw [← XY.out.1, drop_getD hj]; exact hb1, by rw [← XY.out.2.1, drop_getD hj, ← hZ]; exact hb2⟩
          have C2 := Aside0.mk cv2h
          have HZ : Aside0 (Z = X + 32 ∧ rd l ((Z + j : Nat) : Int) = b2) := ⟨hZ, hb2⟩
          clear cv1h cv2h hb1 hb2 hZ
          go_upto_region 12 with (fail)
          have K1 : Aside0 ((wr.setCell ⟨q8, j, none⟩ (.int .u8 b1)).heap[q8]? = some (.cells (fillC x y (j + 1) j).toArray 33 (0, 0))) := ⟨by have h9 := blk_at (i := j) (v := .int .u8 b1) K8.out; rw [← HB12.out.1, fillC_fst XY.out.2.2.1 hj, HB12.out.1] at h9; exact h9⟩
          have R1 : Aside0 (resK.R 33 (wr.setCell ⟨q8, j, none⟩ (.int .u8 b1)) W.heap.size (fun _ => True) u4 (rowsTo l i)) := ⟨Kd.R_grown1 R8.out rfl (grown_set wr ⟨q8, j, none⟩ _) N8.out.2⟩
          have B1 : Aside0 (Below W.heap.size W (wr.setCell ⟨q8, j, none⟩ (.int .u8 b1))) := ⟨B8.out.setCell (p := ⟨q8, j, none⟩) N8.out.1 _⟩
          obtain ⟨w12, hw12⟩ : ∃ w12, wr.setCell ⟨q8, j, none⟩ (.int .u8 b1) = w12 := ⟨_, rfl⟩
          rw [hw12] at K1 R1 B1 ⊢
          have hZX := HZ.out.1
          obtain ⟨ad2, e0, hz2⟩ := Kd.at_int (Kd.C_below HC.out B1.out) ((Z + j : Nat) : Int) (by omega) (by omega)
          cases e0
          rw [Int.toNat_natCast, HZ.out.2] at hz2
          have hZi : (X : Int) + 32 = (Z : Int) := by omega
          have hZl : (Z : Int) + (j : Int) < (l.length : Int) := by omega
          have K1c : w12.cell? ⟨q8, 32 + j, none⟩ = some cv2 := (blk_cell K1.out _).trans (by rw [List.getElem?_toArray]; exact C2.out)
          have K1f : w12.frozen? ⟨q8, 32 + j, none⟩ = false := blk_frozen K1.out _
          have K2 : Aside0 ((w12.setCell ⟨q8, 32 + j, none⟩ (.int .u8 b2)).heap[q8]? = some (.cells (fillC x y (j + 1) (j + 1)).toArray 33 (0, 0))) := ⟨by have h9 := blk_at (i := 32 + j) (v := .int .u8 b2) K1.out; rw [← HB12.out.2, fillC_snd XY.out.2.2.1 XY.out.2.2.2 hj hj, HB12.out.2] at h9; exact h9⟩
          have R2 : Aside0 (resK.R 33 (w12.setCell ⟨q8, 32 + j, none⟩ (.int .u8 b2)) W.heap.size (fun _ => True) u4 (rowsTo l i)) := ⟨Kd.R_grown1 R1.out rfl (grown_set w12 ⟨q8, 32 + j, none⟩ _) N8.out.2⟩
          have B2 : Aside0 (Below W.heap.size W (w12.setCell ⟨q8, 32 + j, none⟩ (.int .u8 b2))) := ⟨B1.out.setCell (p := ⟨q8, 32 + j, none⟩) N8.out.1 _⟩
          clear hZX hw12 hz1 K8c K8f R8 B8 K8
          go_wp2
          go_roundg q2
          case measure => omega
          case rel => exact ⟨j + 1, by go_num, by omega, K2, R2, B2⟩
theorem p8_any (W : World) (A : Option Addr) (c : Nat) (l : List Int) (hC : Kd.C (Kd.int .u8) W A l.length l) (hb : Byt l) (hl : l.length ≤ 140737488351232) : Calls Tryz.prog 68 #[.slice A l.length c] W (RetP8 W l) := by
  by_cases h0 : 0 < l.length
  · by_cases hx : 32 < rd l 0
    · exact p8_big W A c l hC hb hl h0 hx
    · by_cases hn : (l.length : Int) = 1 + 65 * rd l 0
      · exact p8_on W A c l hC hb hl h0 hx hn
      · exact p8_len W A c l hC hb hl h0 hx hn
  · obtain rfl : l = [] := List.eq_nil_of_length_eq_zero (by omega)
    exact p8_nil W A c
end Go.Proofs.YtdekmeanlcpenaaGreatDoor.Codec

namespace Go.Proofs.YtdekmeanlcpenaaGreatDoor.Codec
open Go.RowKit Go.Proofs.YtdekmeanlcpenaaGreatDoorW.PrintWords Go.Proofs.YtdekmeanlcpenaaGreatDoor.Mid
set_option maxHeartbeats 1000000
set_option maxRecDepth 100000
theorem fixed1_any (b0 g : Nat) (u : Value) (out : List Int) (v : Nat) (w : World) (hW : Wr b0 w g u out) (hv : v < 256) (hl : out.length ≤ 900000000) :
    Calls Tryz.prog 51 #[.pointer (some ⟨g, 0, none⟩), .int .i64 v, .int .i64 1] w fun e w' => e = .returned (.tuple #[]) ∧ NxE b0 w g u (out ++ fixW v 1) w' := by
  have HW := Aside0.mk hW
  have HV := Aside0.mk hv
  have hb1 : decide ((v : Int) < 0) = false := by simp
  have hb2 : decide ((256 : Int) ≤ (v : Int)) = false := by simp; omega
  clear hW hv
  go_enter Tryz.func51, Tryz.ntmps51
  go_upto_region 1 with (fail)
  go_wp2_with fail
  refine wp_loop_rounds 2 ?_
  rw [rounds_succ]
  go_wp2_with (first
    | (at_builtin; refine Kd.R_append (Kd.int .u8) (w0 := w) w.heap.size rfl (.tmp 35) (.tmp 41) 47 5 (.int .u8 0) 1 rfl Tryz.underlying47 info5 rfl (by decide) (by omega) (.slice none 0 0) ([] : List Int) ((v : Int) % 256) [.int .u8 ((v : Int) % 256)] (fun _ => True) (fun _ => False) rfl rfl (u8_M _) (fun _ hk => hk.elim) (fun _ _ => trivial) (Kd.R_nil _ _ _ _ _) (Below.refl _ _) (Nat.le_refl _) (by decide) ?_
       intro v1 w1 ho hb hg hat
       obtain ⟨d1, hd⟩ : ∃ d, d = ([] : List Int) ++ [(v : Int) % 256] := ⟨_, rfl⟩
       have D1 := Aside0.mk hd
       rw [← hd] at ho
       clear hd
       obtain ⟨A1, k1, e1⟩ := Kd.R_slice ho
       subst e1
       have H1 := Aside0.mk (⟨ho, hb⟩ : _ ∧ _)
       clear ho hb hg hat))
  have hl1 : d1.length ≤ 1 := by rw [D1.out]; simp
  rw [rounds_succ]
  go_wp2_with (go_at_call 99; (with_reducible refine (put_any b0 g u out d1 A1 d1.length k1 _ (HW.out.below H1.out.2) (Kd.R_reads' H1.out.1).2.2 (by omega)).mono ?_); rintro e w9 ⟨rfl, h1⟩; have H9 := Aside0.mk h1; clear h1)
  go_end0
  have e : fixW v 1 = d1 := by rw [D1.out]; simp [fixW]; first | done | (have := HV.out; omega)
  rw [e]
  obtain ⟨A9, k9, h9⟩ := H9.out
  exact ⟨rfl, A9, k9, Nx.from_below HW.out H1.out.2 h9⟩
theorem fixed4_any (b0 g : Nat) (u : Value) (out : List Int) (v : Nat) (w : World) (hW : Wr b0 w g u out) (hv : v < 4294967296) (hl : out.length ≤ 900000000) :
    Calls Tryz.prog 51 #[.pointer (some ⟨g, 0, none⟩), .int .i64 v, .int .i64 4] w fun e w' => e = .returned (.tuple #[]) ∧ NxE b0 w g u (out ++ fixW v 4) w' := by
  have HW := Aside0.mk hW
  have HV := Aside0.mk hv
  have hb1 : decide ((v : Int) < 0) = false := by simp
  have hb2 : decide ((4294967296 : Int) ≤ (v : Int)) = false := by simp; omega
  clear hW hv
  go_enter Tryz.func51, Tryz.ntmps51
  go_upto_region 1 with (fail)
  go_wp2_with fail
  refine wp_loop_rounds 5 ?_
  rw [rounds_succ]
  go_wp2_with (first
    | (at_builtin; refine Kd.R_append (Kd.int .u8) (w0 := w) w.heap.size rfl (.tmp 35) (.tmp 41) 47 5 (.int .u8 0) 1 rfl Tryz.underlying47 info5 rfl (by decide) (by omega) (.slice none 0 0) ([] : List Int) ((v : Int) / 16777216 % 256) [.int .u8 ((v : Int) / 16777216 % 256)] (fun _ => True) (fun _ => False) rfl rfl (u8_M _) (fun _ hk => hk.elim) (fun _ _ => trivial) (Kd.R_nil _ _ _ _ _) (Below.refl _ _) (Nat.le_refl _) (by decide) ?_
       intro v1 w1 ho hb hg hat
       obtain ⟨d1, hd⟩ : ∃ d, d = ([] : List Int) ++ [(v : Int) / 16777216 % 256] := ⟨_, rfl⟩
       have D1 := Aside0.mk hd
       rw [← hd] at ho
       clear hd
       obtain ⟨A1, k1, e1⟩ := Kd.R_slice ho
       subst e1
       have H1 := Aside0.mk (⟨ho, hb⟩ : _ ∧ _)
       clear ho hb hg hat))
  have hl1 : d1.length ≤ 1 := by rw [D1.out]; simp
  rw [rounds_succ]
  go_wp2_with (first
    | (at_builtin; refine Kd.R_append (Kd.int .u8) (w0 := w) w.heap.size rfl (.tmp 35) (.tmp 41) 47 5 (.int .u8 0) 1 rfl Tryz.underlying47 info5 rfl (by decide) (by omega) (.slice A1 d1.length k1) d1 ((v : Int) / 65536 % 256) [.int .u8 ((v : Int) / 65536 % 256)] (fun _ => True) (fun _ => False) rfl rfl (u8_M _) (fun _ hk => hk.elim) (fun _ _ => trivial) H1.out.1 H1.out.2 H1.out.2.size (by omega) ?_
       intro v2 w2 ho hb hg hat
       obtain ⟨d2, hd⟩ : ∃ d, d = d1 ++ [(v : Int) / 65536 % 256] := ⟨_, rfl⟩
       have D2 := Aside0.mk hd
       rw [← hd] at ho
       clear hd
       obtain ⟨A2, k2, e2⟩ := Kd.R_slice ho
       subst e2
       have H2 := Aside0.mk (⟨ho, hb⟩ : _ ∧ _)
       clear ho hb hg hat))
  have hl2 : d2.length ≤ 2 := by rw [D2.out]; simp; omega
  rw [rounds_succ]
  go_wp2_with (first
    | (at_builtin; refine Kd.R_append (Kd.int .u8) (w0 := w) w.heap.size rfl (.tmp 35) (.tmp 41) 47 5 (.int .u8 0) 1 rfl Tryz.underlying47 info5 rfl (by decide) (by omega) (.slice A2 d2.length k2) d2 ((v : Int) / 256 % 256) [.int .u8 ((v : Int) / 256 % 256)] (fun _ => True) (fun _ => False) rfl rfl (u8_M _) (fun _ hk => hk.elim) (fun _ _ => trivial) H2.out.1 H2.out.2 H2.out.2.size (by omega) ?_
       intro v3 w3 ho hb hg hat
       obtain ⟨d3, hd⟩ : ∃ d, d = d2 ++ [(v : Int) / 256 % 256] := ⟨_, rfl⟩
       have D3 := Aside0.mk hd
       rw [← hd] at ho
       clear hd
       obtain ⟨A3, k3, e3⟩ := Kd.R_slice ho
       subst e3
       have H3 := Aside0.mk (⟨ho, hb⟩ : _ ∧ _)
       clear ho hb hg hat))
  have hl3 : d3.length ≤ 3 := by rw [D3.out]; simp; omega
  rw [rounds_succ]
  go_wp2_with (first
    | (at_builtin; refine Kd.R_append (Kd.int .u8) (w0 := w) w.heap.size rfl (.tmp 35) (.tmp 41) 47 5 (.int .u8 0) 1 rfl Tryz.underlying47 info5 rfl (by decide) (by omega) (.slice A3 d3.length k3) d3 ((v : Int) % 256) [.int .u8 ((v : Int) % 256)] (fun _ => True) (fun _ => False) rfl rfl (u8_M _) (fun _ hk => hk.elim) (fun _ _ => trivial) H3.out.1 H3.out.2 H3.out.2.size (by omega) ?_
       intro v4 w4 ho hb hg hat
       obtain ⟨d4, hd⟩ : ∃ d, d = d3 ++ [(v : Int) % 256] := ⟨_, rfl⟩
       have D4 := Aside0.mk hd
       rw [← hd] at ho
       clear hd
       obtain ⟨A4, k4, e4⟩ := Kd.R_slice ho
       subst e4
       have H4 := Aside0.mk (⟨ho, hb⟩ : _ ∧ _)
       clear ho hb hg hat))
  have hl4 : d4.length ≤ 4 := by rw [D4.out]; simp; omega
  rw [rounds_succ]
  go_wp2_with (go_at_call 99; (with_reducible refine (put_any b0 g u out d4 A4 d4.length k4 _ (HW.out.below H4.out.2) (Kd.R_reads' H4.out.1).2.2 (by omega)).mono ?_); rintro e w9 ⟨rfl, h1⟩; have H9 := Aside0.mk h1; clear h1)
  go_end0
  have e : fixW v 4 = d4 := by rw [D4.out, D3.out, D2.out, D1.out]; simp [fixW]; first | done | (have := HV.out; omega)
  rw [e]
  obtain ⟨A9, k9, h9⟩ := H9.out
  exact ⟨rfl, A9, k9, Nx.from_below HW.out H4.out.2 h9⟩
end Go.Proofs.YtdekmeanlcpenaaGreatDoor.Codec

namespace Go.Proofs.YtdekmeanlcpenaaGreatDoor.Codec
open Go.RowKit Go.Proofs.YtdekmeanlcpenaaGreatDoorW.PrintWords Go.Proofs.YtdekmeanlcpenaaGreatDoor.Mid
set_option maxHeartbeats 1000000
set_option maxRecDepth 100000
theorem text_any (b0 g : Nat) (u : Value) (out xs : List Int) (A : Option Addr) (m c : Nat) (w : World) (hW : Wr b0 w g u out) (hx : Kd.C (Kd.int .u8) w A m xs) (hA : ∀ ad, A = some ad → 0 < m → ¬ Ws g u ad.block) (hm : m ≤ 1000000) (hl : out.length ≤ 800000000) :
    Calls Tryz.prog 97 #[.pointer (some ⟨g, 0, none⟩), .slice A m c] w fun e w' => e = .returned (.tuple #[]) ∧ NxE b0 w g u (out ++ txtW xs) w' := by
  have HW := Aside0.mk hW
  have HX := Aside0.mk hx
  have HA := Aside0.mk hA
  have hnl := numW_max (v := m) (by omega)
  clear hW hx hA
  go_enter Tryz.func97, Tryz.ntmps97
  go_wp2_with (first
    | (go_at_call 98; refine (number_any b0 g u out m _ HW.out (by omega) (by omega)).mono ?_; rintro e w1 ⟨rfl, A1, k1, h1⟩; have H1 := Aside0.mk h1; clear h1)
    | (go_at_call 50; refine (raw_any b0 g (.slice A1 (out ++ numW m).length k1) (out ++ numW m) xs A m c _ H1.out.wr (C_away HX.out H1.out.kept HA.out) (by rw [List.length_append]; omega)).mono ?_; rintro e w2 ⟨rfl, A2, k2, h2⟩; have H2 := Aside0.mk h2; clear h2))
  go_end0
  have e : out ++ numW m ++ xs = out ++ txtW xs := by rw [List.append_assoc, txtW, HX.out.1]
  rw [← e]
  exact ⟨rfl, A2, k2, H1.out.trans H2.out⟩
end Go.Proofs.YtdekmeanlcpenaaGreatDoor.Codec

namespace Go.Proofs.YtdekmeanlcpenaaGreatDoor.Codec
open Go.RowKit Go.Proofs.YtdekmeanlcpenaaGreatDoorW.PrintWords Go.Proofs.YtdekmeanlcpenaaGreatDoor.Mid
/-- Bytes that lie somewhere, as a row that reads. -/
theorem C_at {w : World} {p : Addr} {xs : List Int} (h : At w p (u8s xs)) (hm : xs.length ≤ 9223372036854775807) : Kd.C (Kd.int .u8) w (some p) xs.length xs := by
  refine ⟨rfl, hm, fun _ => ⟨p, rfl, fun j x hj => ⟨[.int .u8 x], rfl, rfl, fun i u hu => ?_⟩⟩⟩
  cases i with
  | zero =>
    simp at hu
    subst hu
    have h1 := h j (.int .u8 x) (by rw [u8s, List.getElem?_map, hj]; rfl)
    rw [← Addr.add_add, show j * (Kd.int IntKind.u8).sz = j from Nat.mul_one j]
    have e : (p.add j).add 0 = p.add j := by rw [Addr.add_add]; rfl
    rw [e]
    exact h1
  | succ i => simp at hu
theorem C_id {w : World} {p : Addr} {x : List Int} (hx : IdOk x) (h : At w p (u8s x)) : Kd.C (Kd.int .u8) w (some p) 32 x := by
  have := C_at h (by rw [hx.len]; decide)
  rwa [hx.len] at this
theorem Nx.off {b0 g k : Nat} {W W1 : World} {v v1 : Value} {out1 : List Int} (h : Nx b0 W g v W1 v1 out1) (hk : k < W.heap.size) (hn : ¬ Ws g v k) : ¬ Ws g v1 k := fun hk1 => by
  rcases h.ws hk1 with h | h
  · exact hn h
  · omega
theorem Wr.off_new {b0 g k : Nat} {W : World} {v : Value} {out : List Int} (h : Wr b0 W g v out) (hk : W.heap.size ≤ k) : ¬ Ws g v k := fun hk1 => by have := (h.ws_lt hk1).2; omega
theorem Wr.off_old {b0 g k : Nat} {W : World} {v : Value} {out : List Int} (h : Wr b0 W g v out) (hk : k < b0) : ¬ Ws g v k := fun hk1 => by have := (h.ws_lt hk1).1; omega
/-- What is written of a table behind so many results. -/
def tabUp (rs : List Res) (i : Nat) : List Int := numW rs.length ++ (rs.take i).flatMap resW
theorem tabUp_all (rs : List Res) (i : Nat) (h : rs.length ≤ i) : tabUp rs i = tabW rs := by rw [tabUp, List.take_of_length_le h, tabW]
theorem tabUp_step {rs : List Res} {i : Nat} {r : Res} (h : rs[i]? = some r) : tabUp rs (i + 1) = tabUp rs i ++ resW r := by
  rw [tabUp, tabUp, List.take_add_one, h, List.flatMap_append, ← List.append_assoc]; simp
theorem tabUp_len {rs : List Res} (ok : ∀ r ∈ rs, ResOk r) (i : Nat) (hm : rs.length ≤ 32) : (tabUp rs i).length ≤ 2085 := by
  rw [tabUp, List.length_append, flatRes_length (fun r hr => ok r (List.mem_of_mem_take hr)), List.length_take]
  have := numW_max (v := rs.length) (by omega)
  omega
attribute [local go_sem ↓ high] load33_eq load29_eq
attribute [local simp] rowOf_drew rowOf_drewN
attribute [local go_sem high] load33_row load29_row rowOf_drew rowOf_drewN
set_option maxHeartbeats 2000000
set_option maxRecDepth 100000
theorem tab_yes (A : Option Addr) (c : Nat) (rs : List Res) (w : World) (hC : resK.C w A rs.length rs) (hc : rs.length ≤ c) (hok : ∀ r ∈ rs, ResOk r) (hT : Table rs) :
    Calls Tryz.prog 96 #[.slice A rs.length c] w fun e w' => ∃ A1 k1, e = .returned (.tuple #[.slice A1 (tabW rs).length k1, .int .i64 0]) ∧ Kd.R (Kd.int .u8) 5 w' w.heap.size (fun _ => True) (.slice A1 (tabW rs).length k1) (tabW rs) ∧ Below w.heap.size w w' := by
  have HT := Aside0.mk hT
  have HC := Aside0.mk hC
  have HO := Aside0.mk hok
  have hm := hT.most
  clear hT hC hok
  go_enter Tryz.func96, Tryz.ntmps96
  go_wp2_with (first
    | (go_at_call 31; refine (table_valid A c rs _ HC.out hc).mono ?_; rintro e w1 ⟨⟨b, rfl, hb⟩, h1⟩; have h0 : b = true := hb.2 HT.out; subst h0; have H1 := Aside0.mk h1; have HS := Aside0.mk (Wr.start w1); clear h1 hb)
    | (go_at_call 98; refine (number_any w1.heap.size w1.heap.size (.slice none 0 0) [] rs.length _ HS.out (by omega) (by decide)).mono ?_; rintro e w2 ⟨rfl, A2, k2, h2⟩; have H2 := Aside0.mk h2; clear h2)
    | go_in)
  have HB2 : Aside0 (Below w.heap.size w w2) := ⟨(below_alloc H1.out (.cells #[.int .i64 0, .int .i64 0, .slice none 0 0] 114)).trans (H2.out.bel.mono H1.out.size)⟩
  have HN2 : Aside0 (∃ A k, Nx w1.heap.size (w1.alloc (.cells #[.int .i64 0, .int .i64 0, .slice none 0 0] 114)) w1.heap.size (.slice none 0 0) w2 (.slice A (tabUp rs 0).length k) (tabUp rs 0)) := ⟨A2, k2, by rw [show tabUp rs 0 = [] ++ numW rs.length by simp [tabUp]]; exact H2.out⟩
  have HS1 := Aside0.mk H1.out.size
  clear H2 H1 HS
  go_loopg [15] rs.length (fun k v15 w' => ∃ i : Nat, v15 = .int .i64 i ∧ i + k = rs.length ∧ Aside0 (Below w.heap.size w w') ∧ Aside0 (∃ A k, Nx w1.heap.size (w1.alloc (.cells #[.int .i64 0, .int .i64 0, .slice none 0 0] 114)) w1.heap.size (.slice none 0 0) w' (.slice A (tabUp rs i).length k) (tabUp rs i)))
  case atStart => exact ⟨0, rfl, by omega, HB2, HN2⟩
  case round =>
    clear HN2 HB2
    obtain ⟨i, rfl, hik, HB, HN⟩ := hrel
    cases gk with
    | zero =>
      have hd : decide (i < rs.length) = false := by simp; omega
      have hi : Aside0 (rs.length ≤ i) := ⟨by omega⟩
      obtain ⟨A3, k3, h3⟩ := HN.out
      rw [tabUp_all rs i hi.out] at h3
      have H3 := Aside0.mk h3
      have hl3 := tab_le HT.out HO.out
      clear hik h3 HN
      go_wp2_with (go_at_call 53; refine (data_any w1.heap.size w1.heap.size (.slice A3 (tabW rs).length k3) (tabW rs) _ H3.out.wr (by omega)).mono ?_; rintro e w4 ⟨A4, k4, rfl, h4, h5⟩; have H4 := Aside0.mk (⟨h4, h5⟩ : _ ∧ _); clear h4 h5)
      go_ret2
      exact ⟨A4, k4, rfl, Kd.R_lower H4.out.1 HB.out.size, HB.out.trans (H4.out.2.mono HB.out.size)⟩
    | succ k =>
      have hi : i < rs.length := by omega
      have hi1 : (i : Int) < (rs.length : Int) := by omega
      have hi32 : (i : Int) < 32 := by omega
      obtain ⟨ad, r, rfl, hr, ho, hat⟩ := res_at (Kd.C_below HC.out HB.out) i hi
      have hld := hat.res ho
      obtain ⟨A3, k3, h3⟩ := HN.out
      have hTc := HT.out.code r (List.mem_of_getElem? hr)
      obtain ⟨cn, hcn⟩ : ∃ cn : Nat, r.code = (cn : Int) := ⟨r.code.toNat, by omega⟩
      have hcn2 : cn < 256 := by omega
      obtain ⟨W, hW⟩ : ∃ W, W = wr.alloc (.cells (resC r).toArray 33) := ⟨_, rfl⟩
      have hbk : W.heap[wr.heap.size]? = some (.cells (resC r).toArray 33 (0, 0)) := hW ▸ heap_alloc_new wr _
      have hBW : Below wr.heap.size wr W := hW ▸ below_alloc (Below.refl _ _) _
      have HWr : Aside0 (Wr w1.heap.size W w1.heap.size (.slice A3 (tabUp rs i).length k3) (tabUp rs i)) := ⟨h3.wr.below hBW⟩
      have hoff := h3.wr.off_new (Nat.le_refl wr.heap.size)
      have hlt := blk_lt hbk
      have hul := tabUp_len HO.out i hm
      have HN3 := Aside0.mk h3
      have HBW := Aside0.mk hBW
      have HW := Aside0.mk hW
      have HBK := Aside0.mk hbk
      have HOF := Aside0.mk hoff
      have HLT := Aside0.mk hlt
      have Hr := Aside0.mk hr
      have Ho := Aside0.mk ho
      have HCN := Aside0.mk hcn
      have hal := ho.act.len
      have hrl := ho.root.len
      have HAL := Aside0.mk (⟨hal, hrl⟩ : _ ∧ _)
      clear hW hbk hBW hoff h3 hr ho hat hTc hcn hlt hal hrl HN
      go_upto_region 8 with (first | (refine store33_new rfl rfl _ _ rfl r Ho.out rfl rfl ?_; rw [← HW.out]) | fail)
      go_wp2_with (first
        | (go_at_call 50; (with_reducible refine (raw_any w1.heap.size w1.heap.size (.slice A3 (tabUp rs i).length k3) (tabUp rs i) r.act (some ⟨wr.heap.size, 0, none⟩) 32 32 W HWr.out (C_id Ho.out.act (res_act (At.blk HBK.out))) (by omega)).mono ?_)
           rintro e w4 ⟨rfl, A4, k4, h4⟩
           have HBK4 := Aside0.mk (blk_kept HBK.out h4.kept HOF.out)
           have HOF4 := Aside0.mk (h4.off HLT.out HOF.out)
           have H4 := Aside0.mk h4
           clear h4)
        | (go_at_call 50; (with_reducible refine (raw_any w1.heap.size w1.heap.size (.slice A4 (tabUp rs i ++ r.act).length k4) (tabUp rs i ++ r.act) r.root (some ⟨wr.heap.size, 32, none⟩) 32 32 w4 H4.out.wr (C_id Ho.out.root (by have h := res_root Ho.out (At.blk HBK4.out); rwa [Addr.add_mid] at h)) (by rw [List.length_append]; have := HAL.out.1; omega)).mono ?_)
           rintro e w5 ⟨rfl, A5, k5, h5⟩
           have HBK5 := Aside0.mk (blk_kept HBK4.out h5.kept HOF4.out)
           have q5 : w5.cell? ⟨wr.heap.size, 64, none⟩ = some (.int .i64 cn) := by have h := res_code Ho.out (At.blk HBK5.out); rw [Addr.add_mid, HCN.out] at h; exact h
           have H5 := Aside0.mk h5
           clear h5)
        | (go_at_call 51; (with_reducible refine (fixed1_any w1.heap.size w1.heap.size (.slice A5 (tabUp rs i ++ r.act ++ r.root).length k5) (tabUp rs i ++ r.act ++ r.root) cn w5 H5.out.wr hcn2 (by rw [List.length_append, List.length_append]; have := HAL.out; omega)).mono ?_)
           rintro e w6 ⟨rfl, A6, k6, h6⟩
           have H6 := Aside0.mk h6
           clear h6 q5))
      have e6 : Aside0 (tabUp rs i ++ r.act ++ r.root ++ fixW cn 1 = tabUp rs (i + 1)) := ⟨by rw [tabUp_step Hr.out, resW, HCN.out]; simp [fixW]; omega⟩
      have HN6 : Aside0 (∃ A k, Nx w1.heap.size (w1.alloc (.cells #[.int .i64 0, .int .i64 0, .slice none 0 0] 114)) w1.heap.size (.slice none 0 0) w6 (.slice A (tabUp rs (i + 1)).length k) (tabUp rs (i + 1))) := ⟨A6, k6, by rw [← e6.out]; exact ((((HN3.out.then_below HBW.out).trans H4.out).trans H5.out).trans H6.out)⟩
      have HB6 : Aside0 (Below w.heap.size w w6) := ⟨HB.out.trans (((HBW.out.mono HB.out.size).trans ((H4.out.bel.mono HS1.out))).trans ((H5.out.bel.mono HS1.out).trans (H6.out.bel.mono HS1.out)))⟩
      clear HN3 H4 H5 H6
      go_roundg k
      case measure => omega
      case rel => exact ⟨i + 1, by go_num, by omega, HB6, HN6⟩
end Go.Proofs.YtdekmeanlcpenaaGreatDoor.Codec

namespace Go.Proofs.YtdekmeanlcpenaaGreatDoor.Codec
open Go.RowKit Go.Proofs.YtdekmeanlcpenaaGreatDoorW.PrintWords Go.Proofs.YtdekmeanlcpenaaGreatDoor.Mid
theorem Nx.cell {b0 g : Nat} {W W1 : World} {v v1 : Value} {o : List Int} (h : Nx b0 W g v W1 v1 o) {a : Addr} {u : Value} (hc : W.cell? a = some u) (ha : a.block < b0) : W1.cell? a = some u := by
  rw [World.cell?, h.bel.block _ ha]; exact hc
theorem C_str (W : World) (s : ByteArray) (hs : s.size ≤ 9223372036854775807) : Kd.C (Kd.int .u8) (Lib.bytesWorld W 5 s) (some ⟨W.heap.size, 0, none⟩) s.size (sBytes s) :=
  Kd.C_of_reads (enc := Value.int .u8) (d := (0 : Int)) (h1 := fun _ => rfl) (bytes_reads W 5 s hs)
/-- A row of one's own reads as long as its block lies below. -/
theorem R_low {b b0 : Nat} {W W1 : World} {v : Value} {xs : List Int} (h : Kd.R (Kd.int .u8) 5 W b (fun _ => True) v xs) (hl : ∀ k, v.ownBlock = some k → k < b0) (hb : Below b0 W W1) : Kd.R (Kd.int .u8) 5 W1 b (fun _ => True) v xs := by
  refine Kd.R_mono (Kd.R_move (ok := fun k => some k = v.ownBlock) (Kd.R_tight rfl h) (fun k hk => hb.block k (hl k hk.symm))) (fun _ _ => trivial)
section
variable {b0 g : Nat} {W w0 w : World} {u : Value} {out : List Int}
theorem NxE.below {w1 : World} (h : NxE b0 W g u out w) (hb : Below w.heap.size w w1) : NxE b0 W g u out w1 := by
  obtain ⟨A, k, h⟩ := h
  exact ⟨A, k, h.then_below hb⟩
theorem NxE.bel (h : NxE b0 W g u out w) : Below b0 W w := by
  obtain ⟨A, k, h⟩ := h
  exact h.bel
theorem NxE.size (h : NxE b0 W g u out w) : b0 ≤ w.heap.size := by
  obtain ⟨A, k, h⟩ := h
  exact h.wr.size
theorem NxE.cell (h : NxE b0 W g u out w) {a : Addr} {v : Value} (hc : W.cell? a = some v) (ha : a.block < b0) : w.cell? a = some v := by
  obtain ⟨A, k, h⟩ := h
  exact h.cell hc ha
theorem NxE.start (w : World) : NxE w.heap.size (w.alloc (.cells #[.int .i64 0, .int .i64 0, .slice none 0 0] 114)) w.heap.size (.slice none 0 0) [] (w.alloc (.cells #[.int .i64 0, .int .i64 0, .slice none 0 0] 114)) :=
  ⟨none, 0, Wr.start w, Kept.refl _ _, .inl rfl, Below.refl _ _⟩
theorem sx_fixed1 (h : NxE b0 W g u out w) (v : Nat) (hv : v < 256) (hl : out.length ≤ 900000000) : Calls Tryz.prog 51 #[.pointer (some ⟨g, 0, none⟩), .int .i64 v, .int .i64 1] w fun e w' => e = .returned (.tuple #[]) ∧ NxE b0 W g u (out ++ fixW v 1) w' := by
  obtain ⟨A, k, h⟩ := h
  exact (fixed1_any b0 g _ out v w h.wr hv hl).mono fun e w' ⟨he, A', k', h'⟩ => ⟨he, A', k', h.trans h'⟩
theorem sx_mark (h : NxE b0 W g u out w) (hl : out.length ≤ 900000000) : Calls Tryz.prog 51 #[.pointer (some ⟨g, 0, none⟩), .int .i64 74, .int .i64 1] w fun e w' => e = .returned (.tuple #[]) ∧ NxE b0 W g u (out ++ fixW 74 1) w' := sx_fixed1 h 74 (by decide) hl
theorem sx_fixed4 (h : NxE b0 W g u out w) (v : Nat) (hv : v < 4294967296) (hl : out.length ≤ 900000000) : Calls Tryz.prog 51 #[.pointer (some ⟨g, 0, none⟩), .int .i64 v, .int .i64 4] w fun e w' => e = .returned (.tuple #[]) ∧ NxE b0 W g u (out ++ fixW v 4) w' := by
  obtain ⟨A, k, h⟩ := h
  exact (fixed4_any b0 g _ out v w h.wr hv hl).mono fun e w' ⟨he, A', k', h'⟩ => ⟨he, A', k', h.trans h'⟩
theorem sx_number (h : NxE b0 W g u out w) (v : Nat) (hv : v ≤ 2147483647) (hl : out.length ≤ 900000000) : Calls Tryz.prog 98 #[.pointer (some ⟨g, 0, none⟩), .int .i64 v] w fun e w' => e = .returned (.tuple #[]) ∧ NxE b0 W g u (out ++ numW v) w' := by
  obtain ⟨A, k, h⟩ := h
  exact (number_any b0 g _ out v w h.wr hv hl).mono fun e w' ⟨he, A', k', h'⟩ => ⟨he, A', k', h.trans h'⟩
theorem sx_raw (h : NxE b0 W g u out w) (A : Option Addr) (m c : Nat) (xs : List Int) (hx : Kd.C (Kd.int .u8) w A m xs) (hl : out.length + m ≤ 1000000000) : Calls Tryz.prog 50 #[.pointer (some ⟨g, 0, none⟩), .slice A m c] w fun e w' => e = .returned (.tuple #[]) ∧ NxE b0 W g u (out ++ xs) w' := by
  obtain ⟨A1, k, h⟩ := h
  exact (raw_any b0 g _ out xs A m c w h.wr hx hl).mono fun e w' ⟨he, A', k', h'⟩ => ⟨he, A', k', h.trans h'⟩
theorem sx_text_new (h : NxE b0 W g u out w0) (hb : Below w0.heap.size w0 w) (A : Option Addr) (m c : Nat) (xs : List Int) (hx : Kd.C (Kd.int .u8) w A m xs) (hA : ∀ ad, A = some ad → w0.heap.size ≤ ad.block) (hm : m ≤ 1000000) (hl : out.length ≤ 800000000) :
    Calls Tryz.prog 97 #[.pointer (some ⟨g, 0, none⟩), .slice A m c] w fun e w' => e = .returned (.tuple #[]) ∧ NxE b0 W g u (out ++ txtW xs) w' := by
  obtain ⟨A1, k, h⟩ := h
  have h2 := h.then_below hb
  exact (text_any b0 g _ out xs A m c w h2.wr hx (fun ad he _ => h.wr.off_new (hA ad he)) hm hl).mono fun e w' ⟨he, A', k', h'⟩ => ⟨he, A', k', h2.trans h'⟩
theorem sx_text_old (h : NxE b0 W g u out w) (A : Option Addr) (m c : Nat) (xs : List Int) (hx : Kd.C (Kd.int .u8) w A m xs) (hA : ∀ ad, A = some ad → ad.block < b0) (hm : m ≤ 1000000) (hl : out.length ≤ 800000000) :
    Calls Tryz.prog 97 #[.pointer (some ⟨g, 0, none⟩), .slice A m c] w fun e w' => e = .returned (.tuple #[]) ∧ NxE b0 W g u (out ++ txtW xs) w' := by
  obtain ⟨A1, k, h⟩ := h
  exact (text_any b0 g _ out xs A m c w h.wr hx (fun ad he _ => h.wr.off_old (hA ad he)) hm hl).mono fun e w' ⟨he, A', k', h'⟩ => ⟨he, A', k', h.trans h'⟩
theorem sx_data (h : NxE b0 W g u out w) (hl : out.length ≤ 1000000000) :
    Calls Tryz.prog 53 #[.pointer (some ⟨g, 0, none⟩)] w fun e w' => ∃ A k, e = .returned (.tuple #[.slice A out.length k, .int .i64 0]) ∧ Kd.R (Kd.int .u8) 5 w' w.heap.size (fun _ => True) (.slice A out.length k) out ∧ Below w.heap.size w w' := by
  obtain ⟨A1, k, h⟩ := h
  exact data_any b0 g _ out w h.wr hl
end
/-- The address of a row of one's own lies where its block does. -/
theorem row_block {W : World} {b : Nat} {A : Option Addr} {n k : Nat} {xs : List Int} (h : Kd.R (Kd.int .u8) 5 W b (fun _ => True) (.slice A n k) xs) : ∀ ad, A = some ad → ad.block < W.heap.size := fun ad he => by
  subst he
  exact Kd.R_lt h ad.block rfl
/-- A journal's form, so far: behind so many ids. -/
def bodyUp (j : Jn) (i : Nat) : List Int := fixW 74 1 ++ txtW (sBytes j.name) ++ fixW j.ent.toNat 4 ++ fixW j.idx.toNat 4 ++ txtW (tabW j.res) ++ numW j.need.length ++ (j.need.take i).flatten
theorem bodyUp_step {j : Jn} {i : Nat} {x : List Int} (h : j.need[i]? = some x) : bodyUp j (i + 1) = bodyUp j i ++ x := by
  rw [bodyUp, bodyUp, List.take_add_one, h, List.flatten_append, ← List.append_assoc]; simp
theorem bodyUp_all (j : Jn) (i : Nat) (h : j.need.length ≤ i) : bodyUp j i ++ txtW (tabW j.tab) = bodyW j := by
  rw [bodyUp, List.take_of_length_le h, bodyW]; simp only [List.append_assoc]
theorem bodyUp_le {j : Jn} (V : JnV j) (K : JnOk j) (i : Nat) : (bodyUp j i).length ≤ 8000 := by
  have h1 := txt_le (l := sBytes j.name) (m := 112) (by rw [sBytes_length]; exact V.name.most) (by omega)
  have h2 := txt_le (tab_le V.res K.res) (by omega)
  have h4 := numW_max (v := j.need.length) (by have := V.most; omega)
  have h5 := ids_length (ids := j.need.take i) (fun x hx => K.need x (List.mem_of_mem_take hx))
  have h6 := V.most
  rw [List.length_take] at h5
  simp only [bodyUp, List.length_append, fixW_length]
  omega
attribute [local go_sem ↓ high] load33_eq load29_eq
attribute [local simp] rowOf_drew rowOf_drewN
attribute [local go_sem high] load33_row load29_row rowOf_drew rowOf_drewN
set_option maxHeartbeats 4000000
set_option maxRecDepth 100000
theorem written_any (j : Jn) (A1 : Option Addr) (c1 : Nat) (A2 : Option Addr) (c2 : Nat) (A3 : Option Addr) (c3 : Nat) (w : World) (hJ : JAt w j A1 c1 A2 c2 A3 c3) (V : JnV j) :
    Calls Tryz.prog 49 #[.agg (jC j A1 c1 A2 c2 A3 c3).toArray] w fun e w' => ∃ A k, e = .returned (.slice A (bodyW j).length k) ∧ Kd.R (Kd.int .u8) 5 w' w.heap.size (fun _ => True) (.slice A (bodyW j).length k) (bodyW j) ∧ Below w.heap.size w w' := by
  obtain ⟨W, hW⟩ : ∃ W, W = w.alloc (.cells (jC j A1 c1 A2 c2 A3 c3).toArray 60) := ⟨_, rfl⟩
  have hbk : W.heap[w.heap.size]? = some (.cells (jC j A1 c1 A2 c2 A3 c3).toArray 60 (0, 0)) := hW ▸ heap_alloc_new w _
  have hBW : Below w.heap.size w W := hW ▸ below_alloc (Below.refl _ _) _
  have c3' : W.cell? ⟨w.heap.size, 3, none⟩ = some (.slice A1 j.res.length c1) := (blk_cell hbk _).trans rfl
  have HW := Aside0.mk hW
  have HBW := Aside0.mk hBW
  have HBK := Aside0.mk hbk
  have HJ := Aside0.mk (hJ.below hBW)
  have HV := Aside0.mk V
  have hcv : ∀ u, (convert 9 47 (.string j.name)).run Tryz.prog u = .ok (.slice (some ⟨u.heap.size, 0, none⟩) j.name.size (grownCap u j.name.size 0 5)) (Lib.bytesWorld u 5 j.name) := fun u => print_bytes (u := .string) 9 47 5 (by kernel_rfl) Tryz.underlying47 Tryz.underlying5 j.name u
  clear hW hBW hbk hJ V
  go_enter Tryz.func49, Tryz.ntmps49
  go_upto_region 1 with (fail)
  rw [← HW.out]
  go_upto_region 4 with (first
    | (have X := HB1; go_at_call 96; refine (tab_yes A3 c3 j.tab _ (Kd.C_below HJ.out.r3 HB1.out) HJ.out.l3 HJ.out.ok.tab HV.out.tab).mono ?_
       rintro e w2 ⟨B2, k2, rfl, hr2, hb2⟩
       have H2 := Aside0.mk (⟨Kd.R_below HR1.out hb2, hr2⟩ : _ ∧ _)
       have HB2 := Aside0.mk (below_step HB1.out hb2)
       have HS := Aside0.mk (Wr.start w2)
       clear hr2 hb2)
    | (go_at_call 96; refine (tab_yes A1 c1 j.res _ HJ.out.r1 HJ.out.l1 HJ.out.ok.res HV.out.res).mono ?_
       rintro e w1 ⟨B1, k1, rfl, hr1, hb1⟩
       have s5 : w1.cell? ⟨w.heap.size, 5, none⟩ = some (.slice A3 j.tab.length c3) := pw_cell_below hb1 ((blk_cell HBK.out _).trans rfl)
       have HR1 := Aside0.mk hr1
       have HB1 := Aside0.mk hb1
       clear hr1 hb1)
    | fail)
  obtain ⟨b0, hb0⟩ : ∃ b0, w2.heap.size = b0 := ⟨_, rfl⟩
  have HX : Aside0 (NxE b0 (w2.alloc (.cells #[.int .i64 0, .int .i64 0, .slice none 0 0] 114)) b0 (.slice none 0 0) [] (w2.alloc (.cells #[.int .i64 0, .int .i64 0, .slice none 0 0] 114))) := ⟨by have h := NxE.start w2; rw [hb0] at h; exact h⟩
  rw [hb0]
  have HB3 : Aside0 (Below W.heap.size W (w2.alloc (.cells #[.int .i64 0, .int .i64 0, .slice none 0 0] 114))) := ⟨below_alloc HB2.out _⟩
  have HR : Aside0 (Kd.R (Kd.int .u8) 5 (w2.alloc (.cells #[.int .i64 0, .int .i64 0, .slice none 0 0] 114)) 0 (fun _ => True) (.slice B1 (tabW j.res).length k1) (tabW j.res) ∧ Kd.R (Kd.int .u8) 5 (w2.alloc (.cells #[.int .i64 0, .int .i64 0, .slice none 0 0] 114)) 0 (fun _ => True) (.slice B2 (tabW j.tab).length k2) (tabW j.tab)) :=
    ⟨Kd.R_lower (Kd.R_alloc H2.out.1 _) (Nat.zero_le _), Kd.R_lower (Kd.R_alloc H2.out.2 _) (Nat.zero_le _)⟩
  have HA : Aside0 ((∀ ad, B1 = some ad → ad.block < b0) ∧ (∀ ad, B2 = some ad → ad.block < b0)) := ⟨fun ad he => hb0 ▸ row_block H2.out.1 ad he, fun ad he => hb0 ▸ row_block H2.out.2 ad he⟩
  have HO : Aside0 ((∀ k, (Value.slice B1 (tabW j.res).length k1).ownBlock = some k → k < b0) ∧ (∀ k, (Value.slice B2 (tabW j.tab).length k2).ownBlock = some k → k < b0)) := ⟨fun k hk => hb0 ▸ Kd.R_lt H2.out.1 k hk, fun k hk => hb0 ▸ Kd.R_lt H2.out.2 k hk⟩
  have hg0 : w.heap.size < b0 := by have h1 := blk_lt HBK.out; have h2 := HB2.out.size; omega
  have Hb0 : Aside0 (W.heap.size ≤ b0 ∧ w2.heap.size = b0) := ⟨by rw [← hb0]; exact HB2.out.size, hb0⟩
  clear HS H2 HR1 HB1 HB2 s5 hb0 X
  generalize w2.alloc (.cells #[.int .i64 0, .int .i64 0, .slice none 0 0] 114) = W3 at HX HB3 HR ⊢
  have d0 : W3.cell? ⟨w.heap.size, 0, none⟩ = some (.string j.name) := pw_cell_below HB3.out ((blk_cell HBK.out _).trans rfl)
  have d1 : W3.cell? ⟨w.heap.size, 1, none⟩ = some (.int .i64 j.ent) := pw_cell_below HB3.out ((blk_cell HBK.out _).trans rfl)
  have d2 : W3.cell? ⟨w.heap.size, 2, none⟩ = some (.int .i64 j.idx) := pw_cell_below HB3.out ((blk_cell HBK.out _).trans rfl)
  have d4 : W3.cell? ⟨w.heap.size, 4, none⟩ = some (.slice A2 j.need.length c2) := pw_cell_below HB3.out ((blk_cell HBK.out _).trans rfl)
  obtain ⟨en, hen⟩ : ∃ en : Nat, j.ent = (en : Int) := ⟨j.ent.toNat, by have := HV.out.ent; omega⟩
  obtain ⟨ix, hix⟩ : ∃ ix : Nat, j.idx = (ix : Int) := ⟨j.idx.toNat, by have := HV.out.idx; omega⟩
  have HE : Aside0 (en < 4294967296 ∧ ix < 4294967296 ∧ j.ent.toNat = en ∧ j.idx.toNat = ix) := ⟨by have := HV.out.ent; omega, by have := HV.out.idx; omega, by omega, by omega⟩
  rw [hen] at d1
  rw [hix] at d2
  have hn1 := HV.out.name.most
  have HN1 : Aside0 ((sBytes j.name).length = j.name.size) := ⟨sBytes_length _⟩
  have D0 := Aside0.mk d0
  have D1 := Aside0.mk d1
  have D2 := Aside0.mk d2
  have D4 := Aside0.mk d4
  clear d0 d1 d2 d4 hen hix
  have hn2 := HV.out.most
  have HT : Aside0 ((tabW j.res).length ≤ 2081 ∧ (tabW j.tab).length ≤ 2081) := ⟨tab_le HV.out.res HJ.out.ok.res, tab_le HV.out.tab HJ.out.ok.tab⟩
  go_wp2_with (first
    | (go_at_call 98; (with_reducible refine (sx_number H8.out j.need.length (by omega) (by have := L8.out; omega)).mono ?_)
       rintro e w9 ⟨rfl, h9⟩
       have q9 := h9.cell D4.out hg0
       have H9 := Aside0.mk h9
       clear h9)
    | (have X := H7; go_at_call 97; (with_reducible refine (sx_text_old H7.out B1 (tabW j.res).length k1 (tabW j.res) (Kd.R_reads' (R_low HR.out.1 HO.out.1 H7.out.bel)).2.2 HA.out.1 (by have := HT.out.1; omega) (by have := L7.out; omega)).mono ?_)
       rintro e w8 ⟨rfl, h8⟩
       have q8 := h8.cell D4.out hg0
       have H8 := Aside0.mk h8
       have L8 : Aside0 (([] ++ fixW 74 1 ++ txtW (sBytes j.name) ++ fixW en 4 ++ fixW ix 4 ++ txtW (tabW j.res)).length ≤ 3000) := ⟨by rw [List.length_append]; have h1 := L7.out; have h2 := txt_le (l := tabW j.res) HT.out.1 (by omega); omega⟩
       clear h8)
    | (have X := H6; go_at_call 51; (with_reducible refine (sx_fixed4 H6.out ix HE.out.2.1 (by have := L6.out; omega)).mono ?_)
       rintro e w7 ⟨rfl, h7⟩
       have H7 := Aside0.mk h7
       have L7 : Aside0 (([] ++ fixW 74 1 ++ txtW (sBytes j.name) ++ fixW en 4 ++ fixW ix 4).length ≤ 200) := ⟨by rw [List.length_append, fixW_length]; have := L6.out; omega⟩
       clear h7)
    | (have X := H5; go_at_call 51; (with_reducible refine (sx_fixed4 H5.out en HE.out.1 (by have := L5.out; omega)).mono ?_)
       rintro e w6 ⟨rfl, h6⟩
       have q2 := h6.cell D2.out hg0
       have H6 := Aside0.mk h6
       have L6 : Aside0 (([] ++ fixW 74 1 ++ txtW (sBytes j.name) ++ fixW en 4).length ≤ 180) := ⟨by rw [List.length_append, fixW_length]; have := L5.out; omega⟩
       clear h6)
    | (go_at_call 97; (with_reducible refine (sx_text_new H4.out (bytes_below (Below.refl _ _) (Nat.le_refl _) 5 j.name) (some ⟨w4.heap.size, 0, none⟩) j.name.size _ (sBytes j.name) (C_str w4 j.name (by omega)) (fun ad he => by cases he; exact Nat.le_refl _) (by omega) (by have := L4.out; omega)).mono ?_)
       rintro e w5 ⟨rfl, h5⟩
       have q1 := h5.cell D1.out hg0
       have H5 := Aside0.mk h5
       have L5 : Aside0 (([] ++ fixW 74 1 ++ txtW (sBytes j.name)).length ≤ 170) := ⟨by rw [List.length_append]; have h1 := L4.out; have h2 := txt_le (l := sBytes j.name) (m := 112) (by rw [HN1.out]; exact hn1) (by omega); omega⟩
       clear h5)
    | (go_at_call 51; (with_reducible refine (sx_mark HX.out (by decide)).mono ?_)
       rintro e w4 ⟨rfl, h4⟩
       have q0 := h4.cell D0.out hg0
       have H4 := Aside0.mk h4
       have L4 : Aside0 (([] ++ fixW 74 1).length ≤ 1) := ⟨by simp [fixW_length]⟩
       clear h4)
    | fail)
  have HN9 : Aside0 (NxE b0 W3 b0 (.slice none 0 0) (bodyUp j 0) w9) := ⟨by
    have e : bodyUp j 0 = [] ++ fixW 74 1 ++ txtW (sBytes j.name) ++ fixW en 4 ++ fixW ix 4 ++ txtW (tabW j.res) ++ numW j.need.length := by
      rw [bodyUp, HE.out.2.2.1, HE.out.2.2.2]; simp
    rw [e]; exact H9.out⟩
  clear H4 H5 H6 H7 H8 H9 HX q0 q1 q2 q8 q9 L4 L5 L6 L7 L8 X
  go_loopg [44] j.need.length (fun k v44 w' => ∃ i : Nat, v44 = .int .i64 i ∧ i + k = j.need.length ∧ Aside0 (NxE b0 W3 b0 (.slice none 0 0) (bodyUp j i) w'))
  case atStart => exact ⟨0, rfl, by omega, HN9⟩
  case round =>
    clear HN9
    obtain ⟨i, rfl, hik, HN⟩ := hrel
    have hbl := bodyUp_le HV.out HJ.out.ok i
    cases gk with
    | zero =>
      have hd : decide (i < j.need.length) = false := by simp; omega
      have Hi : Aside0 (j.need.length ≤ i) := ⟨by omega⟩
      have hbl2 := body_le HV.out HJ.out.ok
      clear hik
      go_wp2_with (first
        | (go_at_call 97; (with_reducible refine (sx_text_old HN.out B2 (tabW j.tab).length k2 (tabW j.tab) (Kd.R_reads' (R_low HR.out.2 HO.out.2 HN.out.bel)).2.2 HA.out.2 (by have := HT.out.2; omega) (by omega)).mono ?_)
           rintro e w10 ⟨rfl, h10⟩
           rw [bodyUp_all j i Hi.out] at h10
           have H10 := Aside0.mk h10
           clear h10)
        | (go_at_call 53; (with_reducible refine (sx_data H10.out (by omega)).mono ?_); rintro e w11 ⟨A4, k4, rfl, h4, h5⟩; have H11 := Aside0.mk (⟨h4, h5⟩ : _ ∧ _); clear h4 h5)
        | fail)
      go_ret
      have hb : Below W.heap.size W w10 := HB3.out.trans (H10.out.bel.mono Hb0.out.1)
      exact ⟨A4, k4, rfl, Kd.R_lower H11.out.1 (Nat.le_trans HBW.out.size hb.size), HBW.out.trans ((below_step hb H11.out.2).mono HBW.out.size)⟩
    | succ k =>
      have hi : i < j.need.length := by omega
      have hi1 : (i : Int) < (j.need.length : Int) := by omega
      have hb : Below W.heap.size W wr := HB3.out.trans (HN.out.bel.mono Hb0.out.1)
      obtain ⟨ad, x, rfl, hx, hxo, hxa⟩ := id_at (Kd.C_below HJ.out.r2 hb) i hi
      have hld := hxa.id hxo
      obtain ⟨V4, hV4⟩ : ∃ V4, V4 = wr.alloc (.cells (u8s x).toArray 29) := ⟨_, rfl⟩
      have hbk : V4.heap[wr.heap.size]? = some (.cells (u8s x).toArray 29 (0, 0)) := hV4 ▸ heap_alloc_new wr _
      have HV4 := Aside0.mk hV4
      have HN4 : Aside0 (NxE b0 W3 b0 (.slice none 0 0) (bodyUp j i) V4) := ⟨HN.out.below (hV4 ▸ below_alloc (Below.refl _ _) _)⟩
      have HK := Aside0.mk hbk
      have Hx := Aside0.mk (⟨hx, hxo⟩ : _ ∧ _)
      clear hV4 hbk hx hxo hxa hb
      go_wp2_with (first
        | (refine store29_new rfl rfl _ _ rfl _ (by rfl) x Hx.out.2 rfl rfl ?_; rw [← HV4.out])
        | (go_at_call 50; (with_reducible refine (sx_raw HN4.out (some ⟨wr.heap.size, 0, none⟩) 32 32 x (C_id Hx.out.2 (At.blk HK.out)) (by omega)).mono ?_)
           rintro e w10 ⟨rfl, h10⟩
           rw [← bodyUp_step Hx.out.1] at h10
           have H10 := Aside0.mk h10
           clear h10)
        | fail)
      clear HN HN4
      go_roundg k
      case measure => omega
      case rel => exact ⟨i + 1, by go_num, by omega, H10⟩
end Go.Proofs.YtdekmeanlcpenaaGreatDoor.Codec

namespace Go.Proofs.YtdekmeanlcpenaaGreatDoor.Codec
open Go.RowKit Go.Proofs.YtdekmeanlcpenaaGreatDoorW.PrintWords Go.Proofs.YtdekmeanlcpenaaGreatDoor.Mid Go.Proofs.YtdekmeanlcpenaaGreatDoor.Block
theorem info60 : (Tryz.prog.info? 60).map (·.size) = some 6 := by kernel_rfl
theorem load60_eq (x : Value) : Instr.loadAt 60 x = ldRow 60 x := rfl
theorem load60_row (w : World) (p : Addr) : (ldRow 60 (.pointer (some p))).run Tryz.prog w = match rowOf w p 6 with
    | some cs => .ok (.agg cs.toArray) w
    | none => (loadVar 60 p).run Tryz.prog w := by
  unfold ldRow
  cases h : rowOf w p 6 with
  | none => simp only [Instr.loadAt, Instr.sureAddr, Sem.run_bind, Sem.run_pure, Result.andThen_ok]
  | some cs =>
    obtain ⟨h1, h2⟩ := rowOf_eq h
    exact Mid.run_load w p 60 cs _ h1 Tryz.underlying60 rfl (by rw [h2]; exact info60)
theorem jrow {w : World} {g : Nat} {j : Jn} {A1 A2 A3 : Option Addr} {c1 c2 c3 : Nat} (h : w.heap[g]? = some (.cells (jC j A1 c1 A2 c2 A3 c3).toArray 60 (0, 0))) : rowOf w ⟨g, 0, none⟩ 6 = some (jC j A1 c1 A2 c2 A3 c3) := (At.blk h).row rfl
def opEnc : ByteArray := { data := #[105, 110, 116, 97, 107, 101, 46, 101, 110, 99, 111, 100, 101] }
attribute [local go_sem ↓ high] load33_eq load29_eq load60_eq build69_eq build29_eq
attribute [local simp] rowOf_drew rowOf_drewN
attribute [local go_sem high] load33_row load29_row load60_row rowOf_drew rowOf_drewN bld29_none
set_option maxHeartbeats 4000000
set_option maxRecDepth 100000
section
variable (j : Jn) (A1 : Option Addr) (c1 : Nat) (A2 : Option Addr) (c2 : Nat) (A3 : Option Addr) (c3 : Nat) (w : World)
theorem enc_no (hJ : JAt w j A1 c1 A2 c2 A3 c3) (V : ¬ JnV j) :
    Calls Tryz.prog 19 #[.agg (jC j A1 c1 A2 c2 A3 c3).toArray] w fun e w' => (∃ g, e = .returned (.tuple #[.slice none 0 0, .iface 79 (.pointer (some ⟨g, 0, none⟩))]) ∧ w.heap.size ≤ g ∧ w'.heap[g]? = some (.cells (faultC opEnc .empty z32 (errno 161)).toArray 82 (0, 0))) ∧ Below w.heap.size w w' := by
  obtain ⟨W, hW⟩ : ∃ W, W = w.alloc (.cells (jC j A1 c1 A2 c2 A3 c3).toArray 60) := ⟨_, rfl⟩
  have hbk : W.heap[w.heap.size]? = some (.cells (jC j A1 c1 A2 c2 A3 c3).toArray 60 (0, 0)) := hW ▸ heap_alloc_new w _
  have hBW : Below w.heap.size w W := hW ▸ below_alloc (Below.refl _ _) _
  have hr := jrow hbk
  have HW := Aside0.mk hW
  have HBW := Aside0.mk hBW
  have HJ := Aside0.mk (hJ.below hBW)
  have HV := Aside0.mk V
  have hbb := fun u => bld69_two u opEnc (errno 161) rfl
  unfold opEnc errno at hbb
  clear hW hBW hbk hJ V
  go_enter Tryz.func19, Tryz.ntmps19
  go_upto_region 1 with (fail)
  rw [← HW.out]
  go_wp2_with (first
    | (go_at_call 48; refine (isJournal_any j A1 c1 A2 c2 A3 c3 _ HJ.out).mono ?_; rintro e w1 ⟨hR, hb⟩; have he := RetB.is_false hR HV.out; subst he; have HB1 := Aside0.mk hb; clear hb hR)
    | fail)
  go_ret2
  exact ⟨⟨w1.heap.size, rfl, Nat.le_trans HBW.out.size HB1.out.size, heap_alloc_new w1 _⟩, HBW.out.trans ((below_alloc HB1.out _).mono HBW.out.size)⟩
theorem enc_yes (hJ : JAt w j A1 c1 A2 c2 A3 c3) (V : JnV j) :
    Calls Tryz.prog 19 #[.agg (jC j A1 c1 A2 c2 A3 c3).toArray] w fun e w' => ∃ A k, e = .returned (.tuple #[.slice A (encW j).length k, .nilIface]) ∧ Kd.R (Kd.int .u8) 5 w' w.heap.size (fun _ => True) (.slice A (encW j).length k) (encW j) ∧ Below w.heap.size w w' := by
  obtain ⟨W, hW⟩ : ∃ W, W = w.alloc (.cells (jC j A1 c1 A2 c2 A3 c3).toArray 60) := ⟨_, rfl⟩
  have hbk : W.heap[w.heap.size]? = some (.cells (jC j A1 c1 A2 c2 A3 c3).toArray 60 (0, 0)) := hW ▸ heap_alloc_new w _
  have hBW : Below w.heap.size w W := hW ▸ below_alloc (Below.refl _ _) _
  have hr := jrow hbk
  have HW := Aside0.mk hW
  have HBW := Aside0.mk hBW
  have HBK := Aside0.mk hbk
  have HJ := Aside0.mk (hJ.below hBW)
  have HV := Aside0.mk V
  have hbl := body_le V hJ.ok
  have hby := Aside0.mk (body_byt V hJ.ok)
  have hsl := sumS_lt (bodyW j)
  have HSL := Aside0.mk hsl
  clear hW hBW hbk hJ V hsl
  go_enter Tryz.func19, Tryz.ntmps19
  go_upto_region 1 with (fail)
  rw [← HW.out]
  go_wp2_with (first
    | (go_at_call 48; refine (isJournal_any j A1 c1 A2 c2 A3 c3 _ HJ.out).mono ?_; rintro e w1 ⟨hR, hb⟩; have he := RetB.is_true hR HV.out; subst he; have hr1 := jrow (blk_below HBK.out hb); have HB1 := Aside0.mk hb; clear hb hR)
    | (go_at_call 49; refine (written_any j A1 c1 A2 c2 A3 c3 _ (HJ.out.below HB1.out) HV.out).mono ?_
       rintro e w2 ⟨A, k, rfl, hR, hb⟩
       have HR2 := Aside0.mk hR
       have HB2 := Aside0.mk (below_step HB1.out hb)
       have HX := Aside0.mk (NxE.start w2)
       clear hR hb)
    | (go_at_call 50; (with_reducible refine (sx_raw HX.out A (bodyW j).length k (bodyW j) (Kd.R_reads' (Kd.R_alloc HR2.out _)).2.2 (by simp; omega)).mono ?_)
       rintro e w3 ⟨rfl, h3⟩
       have HC3 : Aside0 (Kd.C (Kd.int .u8) w3 A (bodyW j).length (bodyW j)) := ⟨(Kd.R_reads' (R_low (Kd.R_alloc HR2.out _) (Kd.R_lt HR2.out) h3.bel)).2.2⟩
       have H3 := Aside0.mk h3
       clear h3)
    | (go_at_call 52; refine (sum_any A k (bodyW j) _ HC3.out hby.out (by omega)).mono ?_; rintro e w4 ⟨rfl, hb⟩; have H4 := Aside0.mk (H3.out.below hb); clear hb)
    | (go_at_call 51; (with_reducible refine (sx_fixed4 H4.out (sumS (bodyW j)) HSL.out (by simp; omega)).mono ?_); rintro e w5 ⟨rfl, h5⟩; have H5 := Aside0.mk h5; clear h5)
    | (go_at_call 53; (with_reducible refine (sx_data H5.out (by simp [fixW_length]; omega)).mono ?_); rintro e w6 ⟨A6, k6, rfl, h4, h5⟩; have H6 := Aside0.mk (⟨h4, h5⟩ : _ ∧ _); clear h4 h5)
    | fail)
  go_ret2
  have hb : Below W.heap.size W w5 := (below_alloc HB2.out (.cells #[.int .i64 0, .int .i64 0, .slice none 0 0] 114)).trans (H5.out.bel.mono HB2.out.size)
  exact ⟨A6, k6, by rw [encW, List.length_append]; rfl, Kd.R_lower H6.out.1 (Nat.le_trans HBW.out.size hb.size), HBW.out.trans ((below_step hb H6.out.2).mono HBW.out.size)⟩
end
end Go.Proofs.YtdekmeanlcpenaaGreatDoor.Codec
