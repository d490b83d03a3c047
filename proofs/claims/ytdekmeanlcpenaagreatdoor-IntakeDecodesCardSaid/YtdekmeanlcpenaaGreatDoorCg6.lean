import Derived.Test.YtdekmeanlcpenaaGreatDoorCg5
import Derived.Test.YtdekmeanlcpenaaGreatDoorCg4
import Derived.Test.YtdekmeanlcpenaaGreatDoorWAt
import Derived.IntWalk
import Derived.WalkMore
import Derived.OrdersHeld
set_option linter.unusedSimpArgs false
set_option linter.unusedVariables false
namespace Go.Proofs.YtdekmeanlcpenaaGreatDoor.Block
end Go.Proofs.YtdekmeanlcpenaaGreatDoor.Block
namespace Go.Proofs.YtdekmeanlcpenaaGreatDoor.Mid
end Go.Proofs.YtdekmeanlcpenaaGreatDoor.Mid
namespace Go.Proofs.YtdekmeanlcpenaaGreatDoor.PIntakeEncodes
end Go.Proofs.YtdekmeanlcpenaaGreatDoor.PIntakeEncodes
namespace Go.Proofs.YtdekmeanlcpenaaGreatDoor.Codec
open Go.RowKit Go.Proofs.YtdekmeanlcpenaaGreatDoorW.PrintWords Go.Proofs.YtdekmeanlcpenaaGreatDoor.Mid
set_option maxHeartbeats 4000000
set_option maxRecDepth 100000
theorem RetB.is_true {e : Ending} {p : Prop} (h : RetB e p) (hp : p) : e = .returned (.bool true) := by
  obtain ⟨q, he, hq⟩ := h.out
  rw [he, hq.2 hp]
theorem RetB.is_false {e : Ending} {p : Prop} (h : RetB e p) (hp : ¬ p) : e = .returned (.bool false) := by
  obtain ⟨q, he, hq⟩ := h.out
  cases q
  · exact he
  · exact absurd (hq.1 rfl) hp
theorem isName_yes (s : ByteArray) (w : World) (h : NameOk s) : Calls Tryz.prog 94 #[.string s] w fun e w' => e = .returned (.bool true) ∧ w = w' := (isName_any s w).mono fun _ _ ⟨h1, h2⟩ => ⟨RetB.is_true h1 h, h2⟩
theorem isName_no (s : ByteArray) (w : World) (h : ¬ NameOk s) : Calls Tryz.prog 94 #[.string s] w fun e w' => e = .returned (.bool false) ∧ w = w' := (isName_any s w).mono fun _ _ ⟨h1, h2⟩ => ⟨RetB.is_false h1 h, h2⟩
theorem valid_yes (A : Option Addr) (c : Nat) (rs : List Res) (w : World) (hC : resK.C w A rs.length rs) (hc : rs.length ≤ c) (h : Table rs) : Calls Tryz.prog 31 #[.slice A rs.length c] w fun e w' => e = .returned (.bool true) ∧ Below w.heap.size w w' := (table_valid A c rs w hC hc).mono fun _ _ ⟨h1, h2⟩ => ⟨RetB.is_true h1 h, h2⟩
theorem valid_no (A : Option Addr) (c : Nat) (rs : List Res) (w : World) (hC : resK.C w A rs.length rs) (hc : rs.length ≤ c) (h : ¬ Table rs) : Calls Tryz.prog 31 #[.slice A rs.length c] w fun e w' => e = .returned (.bool false) ∧ Below w.heap.size w w' := (table_valid A c rs w hC hc).mono fun _ _ ⟨h1, h2⟩ => ⟨RetB.is_false h1 h, h2⟩
theorem rising_yes (A : Option Addr) (c : Nat) (ids : List (List Int)) (w : World) (hC : idK.C w A ids.length ids) (hl : ids.length ≤ 64) (h : Rises ids) : Calls Tryz.prog 95 #[.slice A ids.length c] w fun e w' => e = .returned (.bool true) ∧ Below w.heap.size w w' := (rising_any A c ids w hC (by omega)).mono fun _ _ ⟨h1, h2⟩ => ⟨RetB.is_true h1 h, h2⟩
theorem rising_no (A : Option Addr) (c : Nat) (ids : List (List Int)) (w : World) (hC : idK.C w A ids.length ids) (hl : ids.length ≤ 64) (h : ¬ Rises ids) : Calls Tryz.prog 95 #[.slice A ids.length c] w fun e w' => e = .returned (.bool false) ∧ Below w.heap.size w w' := (rising_any A c ids w hC (by omega)).mono fun _ _ ⟨h1, h2⟩ => ⟨RetB.is_false h1 h, h2⟩
/-- A journal as a value: its lists lie there. -/
def jC (j : Jn) (A1 : Option Addr) (c1 : Nat) (A2 : Option Addr) (c2 : Nat) (A3 : Option Addr) (c3 : Nat) : List Value := [.string j.name, .int .i64 j.ent, .int .i64 j.idx, .slice A1 j.res.length c1, .slice A2 j.need.length c2, .slice A3 j.tab.length c3]
/-- .. and read there. -/
structure JAt (w : World) (j : Jn) (A1 : Option Addr) (c1 : Nat) (A2 : Option Addr) (c2 : Nat) (A3 : Option Addr) (c3 : Nat) : Prop where
  ok : JnOk j
  r1 : resK.C w A1 j.res.length j.res
  l1 : j.res.length ≤ c1
  r2 : idK.C w A2 j.need.length j.need
  l2 : j.need.length ≤ c2
  r3 : resK.C w A3 j.tab.length j.tab
  l3 : j.tab.length ≤ c3
theorem JAt.below {w w1 : World} {j : Jn} {A1 A2 A3 : Option Addr} {c1 c2 c3 : Nat} (h : JAt w j A1 c1 A2 c2 A3 c3) (hb : Below w.heap.size w w1) : JAt w1 j A1 c1 A2 c2 A3 c3 :=
  ⟨h.ok, Kd.C_below h.r1 hb, h.l1, Kd.C_below h.r2 hb, h.l2, Kd.C_below h.r3 hb, h.l3⟩
theorem isJournal_any (j : Jn) (A1 : Option Addr) (c1 : Nat) (A2 : Option Addr) (c2 : Nat) (A3 : Option Addr) (c3 : Nat) (w : World) (hJ : JAt w j A1 c1 A2 c2 A3 c3) :
    Calls Tryz.prog 48 #[.agg (jC j A1 c1 A2 c2 A3 c3).toArray] w fun e w' => RetB e (JnV j) ∧ Below w.heap.size w w' := by
  obtain ⟨W, hW⟩ : ∃ W, W = w.alloc (.cells (jC j A1 c1 A2 c2 A3 c3).toArray 60) := ⟨_, rfl⟩
  have hbk : W.heap[w.heap.size]? = some (.cells (jC j A1 c1 A2 c2 A3 c3).toArray 60 (0, 0)) := hW ▸ heap_alloc_new w _
  have hBW : Below w.heap.size w W := hW ▸ below_alloc (Below.refl _ _) _
  have q0 : ∀ u, Below W.heap.size W u → u.heap[w.heap.size]? = some (.cells (jC j A1 c1 A2 c2 A3 c3).toArray 60 (0, 0)) := fun u hu => blk_below hbk hu
  have c0 : W.cell? ⟨w.heap.size, 0, none⟩ = some (.string j.name) := (blk_cell hbk _).trans rfl
  have c1' : W.cell? ⟨w.heap.size, 1, none⟩ = some (.int .i64 j.ent) := (blk_cell hbk _).trans rfl
  have c2' : W.cell? ⟨w.heap.size, 2, none⟩ = some (.int .i64 j.idx) := (blk_cell hbk _).trans rfl
  have c3' : W.cell? ⟨w.heap.size, 3, none⟩ = some (.slice A1 j.res.length c1) := (blk_cell hbk _).trans rfl
  have c4' : W.cell? ⟨w.heap.size, 4, none⟩ = some (.slice A2 j.need.length c2) := (blk_cell hbk _).trans rfl
  have c5' : W.cell? ⟨w.heap.size, 5, none⟩ = some (.slice A3 j.tab.length c3) := (blk_cell hbk _).trans rfl
  have HW := Aside0.mk hW
  have HBW := Aside0.mk hBW
  have HBK := Aside0.mk hbk
  have HC1 := Aside0.mk (hJ.below hBW).r1
  have HC2 := Aside0.mk (hJ.below hBW).r2
  have HC3 := Aside0.mk (hJ.below hBW).r3
  have hc1 := hJ.l1
  have hc3 := hJ.l3
  clear hW hBW hbk hJ q0
  by_cases h0 : NameOk j.name
  · have H0 := Aside0.mk h0
    clear h0
    by_cases h1 : 0 ≤ j.ent
    · have H1 := Aside0.mk h1
      have b1 : decide (0 ≤ j.ent) = true := by simpa using h1
      clear h1
      by_cases h2 : j.ent ≤ 4294967295
      · have H2 := Aside0.mk h2
        have b2 : decide (j.ent ≤ 4294967295) = true := by simpa using h2
        clear h2
        by_cases h3 : 0 ≤ j.idx
        · have H3 := Aside0.mk h3
          have b3 : decide (0 ≤ j.idx) = true := by simpa using h3
          clear h3
          by_cases h4 : j.idx ≤ 4294967295
          · have H4 := Aside0.mk h4
            have b4 : decide (j.idx ≤ 4294967295) = true := by simpa using h4
            clear h4
            by_cases h5 : Table j.res
            · have H5 := Aside0.mk h5
              clear h5
              by_cases h6 : Table j.tab
              · have H6 := Aside0.mk h6
                clear h6
                by_cases h7 : j.need.length ≤ 64
                · have H7 := Aside0.mk h7
                  have b7 : decide (j.need.length ≤ 64) = true := by simpa using h7
                  have b7' : decide ((j.need.length : Int) ≤ 64) = true := by simp; omega
                  clear h7
                  by_cases h8 : Rises j.need
                  · have H8 := Aside0.mk h8
                    clear h8
                    go_enter Tryz.func48, Tryz.ntmps48
                    go_upto_region 1 with (fail)
                    rw [← HW.out]
                    go_wp2_with (first
                      | (go_at_call 94; refine (isName_yes j.name _ H0.out).mono ?_; rintro e w1 ⟨rfl, rfl⟩)
                      | (have X := HB1; go_at_call 31; refine (valid_yes A3 c3 j.tab _ (Kd.C_below HC3.out HB1.out) hc3 H6.out).mono ?_; rintro e w3 ⟨rfl, hb⟩; have t4 := pw_cell_below hb s4; have HB3 := Aside0.mk (below_step HB1.out hb); clear hb)
                      | (go_at_call 31; refine (valid_yes A1 c1 j.res _ HC1.out hc1 H5.out).mono ?_; rintro e w2 ⟨rfl, hb⟩; have s5 := pw_cell_below hb c5'; have s4 := pw_cell_below hb c4'; have HB1 := Aside0.mk hb; clear hb)
                      | (go_at_call 95; refine (rising_yes A2 c2 j.need _ (Kd.C_below HC2.out HB3.out) H7.out H8.out).mono ?_; rintro e w4 ⟨rfl, hb⟩; have HB4 := Aside0.mk (below_step HB3.out hb); clear hb)
                      | fail)
                    go_ret
                    exact ⟨.yes rfl ⟨H0.out, ⟨H1.out, H2.out⟩, ⟨H3.out, H4.out⟩, H5.out, H6.out, H7.out, H8.out⟩, HBW.out.trans ((HB4.out).mono HBW.out.size)⟩
                  · have H8 := Aside0.mk h8
                    clear h8
                    go_enter Tryz.func48, Tryz.ntmps48
                    go_upto_region 1 with (fail)
                    rw [← HW.out]
                    go_wp2_with (first
                      | (go_at_call 94; refine (isName_yes j.name _ H0.out).mono ?_; rintro e w1 ⟨rfl, rfl⟩)
                      | (have X := HB1; go_at_call 31; refine (valid_yes A3 c3 j.tab _ (Kd.C_below HC3.out HB1.out) hc3 H6.out).mono ?_; rintro e w3 ⟨rfl, hb⟩; have t4 := pw_cell_below hb s4; have HB3 := Aside0.mk (below_step HB1.out hb); clear hb)
                      | (go_at_call 31; refine (valid_yes A1 c1 j.res _ HC1.out hc1 H5.out).mono ?_; rintro e w2 ⟨rfl, hb⟩; have s5 := pw_cell_below hb c5'; have s4 := pw_cell_below hb c4'; have HB1 := Aside0.mk hb; clear hb)
                      | (go_at_call 95; refine (rising_no A2 c2 j.need _ (Kd.C_below HC2.out HB3.out) H7.out H8.out).mono ?_; rintro e w4 ⟨rfl, hb⟩; have HB4 := Aside0.mk (below_step HB3.out hb); clear hb)
                      | fail)
                    go_ret
                    exact ⟨.no rfl (fun V => absurd V.rise H8.out), HBW.out.trans ((HB4.out).mono HBW.out.size)⟩
                · have H7 := Aside0.mk h7
                  have b7 : decide (j.need.length ≤ 64) = false := by simpa using h7
                  have b7' : decide ((j.need.length : Int) ≤ 64) = false := by simp; omega
                  clear h7
                  go_enter Tryz.func48, Tryz.ntmps48
                  go_upto_region 1 with (fail)
                  rw [← HW.out]
                  go_wp2_with (first
                    | (go_at_call 94; refine (isName_yes j.name _ H0.out).mono ?_; rintro e w1 ⟨rfl, rfl⟩)
                    | (have X := HB1; go_at_call 31; refine (valid_yes A3 c3 j.tab _ (Kd.C_below HC3.out HB1.out) hc3 H6.out).mono ?_; rintro e w3 ⟨rfl, hb⟩; have t4 := pw_cell_below hb s4; have HB3 := Aside0.mk (below_step HB1.out hb); clear hb)
                    | (go_at_call 31; refine (valid_yes A1 c1 j.res _ HC1.out hc1 H5.out).mono ?_; rintro e w2 ⟨rfl, hb⟩; have s5 := pw_cell_below hb c5'; have s4 := pw_cell_below hb c4'; have HB1 := Aside0.mk hb; clear hb)
                    | fail)
                  go_ret
                  exact ⟨.no rfl (fun V => by have h1 := V.ent; have h2 := V.idx; have h3 := V.most; have h4 := H7.out; omega), HBW.out.trans ((HB3.out).mono HBW.out.size)⟩
              · have H6 := Aside0.mk h6
                clear h6
                go_enter Tryz.func48, Tryz.ntmps48
                go_upto_region 1 with (fail)
                rw [← HW.out]
                go_wp2_with (first
                  | (go_at_call 94; refine (isName_yes j.name _ H0.out).mono ?_; rintro e w1 ⟨rfl, rfl⟩)
                  | (have X := HB1; go_at_call 31; refine (valid_no A3 c3 j.tab _ (Kd.C_below HC3.out HB1.out) hc3 H6.out).mono ?_; rintro e w3 ⟨rfl, hb⟩; have t4 := pw_cell_below hb s4; have HB3 := Aside0.mk (below_step HB1.out hb); clear hb)
                  | (go_at_call 31; refine (valid_yes A1 c1 j.res _ HC1.out hc1 H5.out).mono ?_; rintro e w2 ⟨rfl, hb⟩; have s5 := pw_cell_below hb c5'; have s4 := pw_cell_below hb c4'; have HB1 := Aside0.mk hb; clear hb)
                  | fail)
                go_ret
                exact ⟨.no rfl (fun V => absurd V.tab H6.out), HBW.out.trans ((HB3.out).mono HBW.out.size)⟩
            · have H5 := Aside0.mk h5
              clear h5
              go_enter Tryz.func48, Tryz.ntmps48
              go_upto_region 1 with (fail)
              rw [← HW.out]
              go_wp2_with (first
                | (go_at_call 94; refine (isName_yes j.name _ H0.out).mono ?_; rintro e w1 ⟨rfl, rfl⟩)
                | (go_at_call 31; refine (valid_no A1 c1 j.res _ HC1.out hc1 H5.out).mono ?_; rintro e w2 ⟨rfl, hb⟩; have s5 := pw_cell_below hb c5'; have s4 := pw_cell_below hb c4'; have HB1 := Aside0.mk hb; clear hb)
                | fail)
              go_ret
              exact ⟨.no rfl (fun V => absurd V.res H5.out), HBW.out.trans ((HB1.out).mono HBW.out.size)⟩
          · have H4 := Aside0.mk h4
            have b4 : decide (j.idx ≤ 4294967295) = false := by simpa using h4
            clear h4
            go_enter Tryz.func48, Tryz.ntmps48
            go_upto_region 1 with (fail)
            rw [← HW.out]
            go_wp2_with (first
              | (go_at_call 94; refine (isName_yes j.name _ H0.out).mono ?_; rintro e w1 ⟨rfl, rfl⟩)
              | fail)
            go_ret
            exact ⟨.no rfl (fun V => by have h1 := V.ent; have h2 := V.idx; have h3 := V.most; have h4 := H4.out; omega), HBW.out.trans ((Below.refl _ _).mono HBW.out.size)⟩
        · have H3 := Aside0.mk h3
          have b3 : decide (0 ≤ j.idx) = false := by simpa using h3
          clear h3
          go_enter Tryz.func48, Tryz.ntmps48
          go_upto_region 1 with (fail)
          rw [← HW.out]
          go_wp2_with (first
            | (go_at_call 94; refine (isName_yes j.name _ H0.out).mono ?_; rintro e w1 ⟨rfl, rfl⟩)
            | fail)
          go_ret
          exact ⟨.no rfl (fun V => by have h1 := V.ent; have h2 := V.idx; have h3 := V.most; have h4 := H3.out; omega), HBW.out.trans ((Below.refl _ _).mono HBW.out.size)⟩
      · have H2 := Aside0.mk h2
        have b2 : decide (j.ent ≤ 4294967295) = false := by simpa using h2
        clear h2
        go_enter Tryz.func48, Tryz.ntmps48
        go_upto_region 1 with (fail)
        rw [← HW.out]
        go_wp2_with (first
          | (go_at_call 94; refine (isName_yes j.name _ H0.out).mono ?_; rintro e w1 ⟨rfl, rfl⟩)
          | fail)
        go_ret
        exact ⟨.no rfl (fun V => by have h1 := V.ent; have h2 := V.idx; have h3 := V.most; have h4 := H2.out; omega), HBW.out.trans ((Below.refl _ _).mono HBW.out.size)⟩
    · have H1 := Aside0.mk h1
      have b1 : decide (0 ≤ j.ent) = false := by simpa using h1
      clear h1
      go_enter Tryz.func48, Tryz.ntmps48
      go_upto_region 1 with (fail)
      rw [← HW.out]
      go_wp2_with (first
        | (go_at_call 94; refine (isName_yes j.name _ H0.out).mono ?_; rintro e w1 ⟨rfl, rfl⟩)
        | fail)
      go_ret
      exact ⟨.no rfl (fun V => by have h1 := V.ent; have h2 := V.idx; have h3 := V.most; have h4 := H1.out; omega), HBW.out.trans ((Below.refl _ _).mono HBW.out.size)⟩
  · have H0 := Aside0.mk h0
    clear h0
    go_enter Tryz.func48, Tryz.ntmps48
    go_upto_region 1 with (fail)
    rw [← HW.out]
    go_wp2_with (first
      | (go_at_call 94; refine (isName_no j.name _ H0.out).mono ?_; rintro e w1 ⟨rfl, rfl⟩)
      | fail)
    go_ret
    exact ⟨.no rfl (fun V => absurd V.name H0.out), HBW.out.trans ((Below.refl _ _).mono HBW.out.size)⟩
end Go.Proofs.YtdekmeanlcpenaaGreatDoor.Codec

namespace Go.Proofs.YtdekmeanlcpenaaGreatDoor.Codec
open Go.RowKit Go.Proofs.YtdekmeanlcpenaaGreatDoorW.PrintWords Go.Proofs.YtdekmeanlcpenaaGreatDoorW.PrintLast Go.Proofs.YtdekmeanlcpenaaGreatDoorW.PrintMore Go.Proofs.YtdekmeanlcpenaaGreatDoor.Mid Go.Proofs.YtdekmeanlcpenaaGreatDoor.Block Go.Proofs.YtdekmeanlcpenaaGreatDoor.PIntakeEncodes
set_option maxHeartbeats 4000000
set_option maxRecDepth 100000
set_option linter.unusedVariables false
theorem rfx_any (v : Nat) (hv : v < 4294967296) (w : World) : Calls Tryz.prog 58 #[.int .i64 v, .int .i64 4] w fun e w' => ∃ A c, e = .returned (.slice A 4 c) ∧ Kd.R (Kd.int .u8) 5 w' w.heap.size (fun _ => True) (.slice A (fixW v 4).length c) (fixW v 4) ∧ Below w.heap.size w w' :=
  (freightref1_Fixed.calls 5 v 4 _ w (fixed_f v hv)).mono fun e w' ⟨v0, h1, h2, h3⟩ => by
    obtain ⟨A, c, rfl⟩ := Kd.R_slice h2
    exact ⟨A, c, by rw [h1, fixW_length], h2, h3⟩
theorem rnu_any (v : Nat) (hv : v ≤ 2147483647) (w : World) : Calls Tryz.prog 59 #[.int .i64 v] w fun e w' => ∃ A c, e = .returned (.slice A (numW v).length c) ∧ Kd.R (Kd.int .u8) 5 w' w.heap.size (fun _ => True) (.slice A (numW v).length c) (numW v) ∧ Below w.heap.size w w' :=
  (freightref1_Number.calls 6 v _ w (number_f v hv)).mono fun e w' ⟨v0, h1, h2, h3⟩ => by
    obtain ⟨A, c, rfl⟩ := Kd.R_slice h2
    exact ⟨A, c, h1, h2, h3⟩
theorem rtx_any (A0 : Option Addr) (c0 : Nat) (l : List Int) (n : Nat) (hn : l.length = n) (w : World) (hC : Kd.C (Kd.int .u8) w A0 n l) (hc : n ≤ c0) (hl : n ≤ 1000000) : Calls Tryz.prog 57 #[.slice A0 n c0] w fun e w' => ∃ A c, e = .returned (.slice A (txtW l).length c) ∧ Kd.R (Kd.int .u8) 5 w' w.heap.size (fun _ => True) (.slice A (txtW l).length c) (txtW l) ∧ Below w.heap.size w w' := by
  subst hn
  exact (freightref1_Text.calls 6 A0 c0 l _ w hC hc (text_f l hl)).mono fun e w' ⟨v0, h1, h2, h3⟩ => by
    obtain ⟨A, c, rfl⟩ := Kd.R_slice h2
    exact ⟨A, c, h1, h2, h3⟩
theorem rsu_any (A0 : Option Addr) (c0 : Nat) (l : List Int) (w : World) (hC : Kd.C (Kd.int .u8) w A0 l.length l) (hc : l.length ≤ c0) (hb : Byt l) (hl : l.length ≤ 1000000) : Calls Tryz.prog 60 #[.slice A0 l.length c0] w fun e w' => e = .returned (.int .i64 ((sumS l : Nat) : Int)) ∧ Below w.heap.size w w' :=
  (freightref1_Sum.calls (10 * l.length + 1) A0 c0 l _ w hC hc (sum_f l hb hl)).mono fun e w' h => ⟨h.1, h.2.below⟩
/-- The bytes of a form, so far. -/
structure EI (W w : World) (v : Value) (out : List Int) : Prop where
  r : Kd.R (Kd.int .u8) 5 w W.heap.size (fun _ => True) v out
  bel : Below W.heap.size W w
theorem EI.below {W w w1 : World} {v : Value} {out : List Int} (h : EI W w v out) (hb : Below w.heap.size w w1) : EI W w1 v out := ⟨Kd.R_below h.r hb, below_step h.bel hb⟩
theorem own_tight {w : World} {b : Nat} {v : Value} {xs : List Int} (h : Kd.R (Kd.int .u8) 5 w b (fun _ => True) v xs) : Kd.R (Kd.int .u8) 5 w b (fun k => some k = v.ownBlock) v xs := Kd.R_tight rfl h
/-- Bytes behind bytes; what else is one's own stays. -/
theorem rput_any (W w : World) (A : Option Addr) (c : Nat) (a : List Int) (A1 : Option Addr) (c1 : Nat) (l : List Int) (h : EI W w (.slice A a.length c) a) (b : Nat) (hx : Kd.R (Kd.int .u8) 5 w b (fun _ => True) (.slice A1 l.length c1) l) (hne : ∀ k, (Value.slice A a.length c).ownBlock = some k → k < b) (ha : a.length ≤ 1000000) (hl : l.length ≤ 1000000) :
    Calls Tryz.prog 56 #[.slice A a.length c, .slice A1 l.length c1] w fun e w' => ∃ A2 c2, e = .returned (.slice A2 (a ++ l).length c2) ∧ EI W w' (.slice A2 (a ++ l).length c2) (a ++ l) ∧ Kept w w' (fun k => some k = (Value.slice A a.length c).ownBlock) ∧ (∀ k, (Value.slice A2 (a ++ l).length c2).ownBlock = some k → (Value.slice A a.length c).ownBlock = some k ∨ w.heap.size ≤ k) :=
  (freightref16_put.calls (l.length + 1) (fun k => some k = (Value.slice A a.length c).ownBlock) _ a A1 c1 l _ W w h.bel (own_tight h.r)
    (fun W_ hk => (Kd.R_reads' (Kd.R_kept (own_tight hx) hk (fun k hk1 hk2 => by have h1 := Kd.R_base hx k hk1.symm; have h2 := hne k hk2.symm; omega))).2.2) (Kd.R_reads' hx).2.1 (put_f a l ha hl)).mono fun e w' ⟨v0, h1, h2, h3, h4⟩ => by
    obtain ⟨A2, c2, rfl⟩ := Kd.R_slice h2
    refine ⟨A2, c2, h1, ⟨Kd.R_mono h2 (fun _ _ => trivial), h3⟩, h4, fun k hk => ?_⟩
    rcases h2.1 k hk with h5 | h5
    · exact .inl h5.symm
    · exact .inr h5
/-- A row of one's own that a put leaves as it is. -/
theorem R_put_kept {w w1 : World} {b : Nat} {v u : Value} {xs : List Int} (h : Kd.R (Kd.int .u8) 5 w b (fun _ => True) v xs) (hk : Kept w w1 (fun k => some k = u.ownBlock)) (hne : ∀ k, v.ownBlock = some k → u.ownBlock ≠ some k) : Kd.R (Kd.int .u8) 5 w1 b (fun _ => True) v xs :=
  Kd.R_mono (Kd.R_kept (own_tight h) hk (fun k h1 h2 => hne k h1.symm h2.symm)) (fun _ _ => trivial)
theorem rjournal_any (j : Jn) (A1 : Option Addr) (c1 : Nat) (A2 : Option Addr) (c2 : Nat) (A3 : Option Addr) (c3 : Nat) (w : World) (hJ : JAt w j A1 c1 A2 c2 A3 c3) (l1 : j.res.length ≤ 140737488355328) (l2 : j.need.length ≤ 140737488355328) (l3 : j.tab.length ≤ 140737488355328) :
    Calls Tryz.prog 54 #[.agg (jC j A1 c1 A2 c2 A3 c3).toArray] w fun e w' => RetB e (JnV j) ∧ Below w.heap.size w w' := by
  obtain ⟨W, hW⟩ : ∃ W, W = w.alloc (.cells (jC j A1 c1 A2 c2 A3 c3).toArray 60) := ⟨_, rfl⟩
  have hbk : W.heap[w.heap.size]? = some (.cells (jC j A1 c1 A2 c2 A3 c3).toArray 60 (0, 0)) := hW ▸ heap_alloc_new w _
  have hBW : Below w.heap.size w W := hW ▸ below_alloc (Below.refl _ _) _
  obtain ⟨q, hq⟩ : ∃ q, w.heap.size = q := ⟨_, rfl⟩
  rw [hq] at hbk
  have q0 : W.cell? ⟨q, 0, none⟩ = some (.string j.name) := (blk_cell hbk _).trans rfl
  have q3 : W.cell? ⟨q, 3, none⟩ = some (.slice A1 j.res.length c1) := (blk_cell hbk _).trans rfl
  have HQ := Aside0.mk hq
  have HW := Aside0.mk hW
  have HBW := Aside0.mk hBW
  have HBK := Aside0.mk hbk
  have HJ := Aside0.mk (hJ.below hBW)
  clear hW hBW hbk hJ hq
  go_enter Tryz.func54, Tryz.ntmps54
  go_upto_region 1 with (fail)
  rw [← HW.out, HQ.out]
  go_upto_region 5 with (first
    | (go_at_call 101; refine (named_any j.name _).mono ?_; rintro e w1 ⟨hR, rfl⟩; obtain ⟨b1, rfl, h1⟩ := hR.out; have H1 := Aside0.mk h1; clear hR h1)
    | (have X := H2; go_at_call 28; (with_reducible refine (ref_valid A3 c3 j.tab _ (HJ.out.below HB2.out).r3 HJ.out.l3 l3).mono ?_); rintro e w3 ⟨hR, hb⟩; obtain ⟨b3, rfl, h3⟩ := hR.out; have H3 := Aside0.mk h3; have HB3 := Aside0.mk (below_step HB2.out hb)
       have q4 : w3.cell? ⟨q, 4, none⟩ = some (.slice A2 j.need.length c2) := (blk_cell (blk_below HBK.out HB3.out) _).trans rfl
       clear hR h3 hb)
    | (go_at_call 28; (with_reducible refine (ref_valid A1 c1 j.res _ HJ.out.r1 HJ.out.l1 l1).mono ?_); rintro e w2 ⟨hR, hb⟩; obtain ⟨b2, rfl, h2⟩ := hR.out; have H2 := Aside0.mk h2; have HB2 := Aside0.mk hb
       have q5 : w2.cell? ⟨q, 5, none⟩ = some (.slice A3 j.tab.length c3) := (blk_cell (blk_below HBK.out HB2.out) _).trans rfl
       clear hR h2 hb)
    | (go_at_call 102; refine (rrising_any A2 c2 j.need _ (HJ.out.below HB3.out).r2 (by omega)).mono ?_; rintro e w4 ⟨hR, hb⟩; obtain ⟨b4, rfl, h4⟩ := hR.out; have H4 := Aside0.mk h4; have HB4 := Aside0.mk (below_step HB3.out hb)
       have r4 : w4.cell? ⟨q, 4, none⟩ = some (.slice A2 j.need.length c2) := (blk_cell (blk_below HBK.out HB4.out) _).trans rfl
       have r1 : w4.cell? ⟨q, 1, none⟩ = some (.int .i64 j.ent) := (blk_cell (blk_below HBK.out HB4.out) _).trans rfl
       have r2 : w4.cell? ⟨q, 2, none⟩ = some (.int .i64 j.idx) := (blk_cell (blk_below HBK.out HB4.out) _).trans rfl
       clear hR h4 hb)
    | go_in)
  have HB := Aside0.mk (HBW.out.trans (HB4.out.mono HBW.out.size))
  cases b1 with
  | false =>
    go_wp2
    go_ret
    exact ⟨.no rfl (fun V => by cases H1.out.2 V.name), HB.out⟩
  | true =>
    cases b2 with
    | false =>
      go_wp2
      go_ret
      exact ⟨.no rfl (fun V => by cases H2.out.2 V.res), HB.out⟩
    | true =>
      cases b3 with
      | false =>
        go_wp2
        go_ret
        exact ⟨.no rfl (fun V => by cases H3.out.2 V.tab), HB.out⟩
      | true =>
        cases b4 with
        | false =>
          go_wp2
          go_ret
          exact ⟨.no rfl (fun V => by cases H4.out.2 V.rise), HB.out⟩
        | true =>
          by_cases h7 : j.need.length ≤ 64
          case neg =>
            have H7 := Aside0.mk h7
            have i1 : (64 : Int) < (j.need.length : Int) := by omega
            go_wp2
            go_ret
            exact ⟨.no rfl (fun V => H7.out V.most), HB.out⟩
          case pos =>
            have H7 := Aside0.mk h7
            have i1 : decide ((64 : Int) < (j.need.length : Int)) = false := by simp; omega
            have i2 : decide (64 < j.need.length) = false := by simp; omega
            clear h7
            by_cases e1 : 0 ≤ j.ent
            · have E1 := Aside0.mk e1
              have f1 : decide (0 ≤ j.ent) = true := by simpa using e1
              clear e1
              by_cases e2 : j.ent ≤ 4294967295
              · have E2 := Aside0.mk e2
                have f2 : decide (j.ent ≤ 4294967295) = true := by simpa using e2
                clear e2
                by_cases e3 : 0 ≤ j.idx
                · have E3 := Aside0.mk e3
                  have f3 : decide (0 ≤ j.idx) = true := by simpa using e3
                  clear e3
                  by_cases e4 : j.idx ≤ 4294967295
                  · have E4 := Aside0.mk e4
                    have f4 : decide (j.idx ≤ 4294967295) = true := by simpa using e4
                    clear e4
                    go_wp2
                    go_ret
                    exact ⟨.yes rfl ⟨H1.out.1 trivial, ⟨E1.out, E2.out⟩, ⟨E3.out, E4.out⟩, H2.out.1 trivial, H3.out.1 trivial, H7.out, H4.out.1 trivial⟩, HB.out⟩
                  · have E4 := Aside0.mk e4
                    have f4 : decide (j.idx ≤ 4294967295) = false := by simpa using e4
                    clear e4
                    go_wp2
                    go_ret
                    exact ⟨.no rfl (fun V => by have h1 := V.idx.2; have h2 := E4.out; omega), HB.out⟩
                · have E3 := Aside0.mk e3
                  have f3 : decide (0 ≤ j.idx) = false := by simpa using e3
                  clear e3
                  go_wp2
                  go_ret
                  exact ⟨.no rfl (fun V => by have h1 := V.idx.1; have h2 := E3.out; omega), HB.out⟩
              · have E2 := Aside0.mk e2
                have f2 : decide (j.ent ≤ 4294967295) = false := by simpa using e2
                clear e2
                go_wp2
                go_ret
                exact ⟨.no rfl (fun V => by have h1 := V.ent.2; have h2 := E2.out; omega), HB.out⟩
            · have E1 := Aside0.mk e1
              have f1 : decide (0 ≤ j.ent) = false := by simpa using e1
              clear e1
              go_wp2
              go_ret
              exact ⟨.no rfl (fun V => by have h1 := V.ent.1; have h2 := E1.out; omega), HB.out⟩
end Go.Proofs.YtdekmeanlcpenaaGreatDoor.Codec

namespace Go.Proofs.YtdekmeanlcpenaaGreatDoor.Codec
open Go.RowKit Go.Proofs.YtdekmeanlcpenaaGreatDoorW.PrintWords Go.Proofs.YtdekmeanlcpenaaGreatDoor.Mid
set_option maxHeartbeats 1000000
set_option maxRecDepth 100000

theorem info5 : (Tryz.prog.info? 5).map (fun i => (i.zero, i.size, i.bytes)) = some (some (.int .u8 0), 1, 1) := by kernel_rfl
/-- A Writer that nothing has spoilt: v, what was written. All its memory is from b0 on. -/
structure Wr (b0 : Nat) (W : World) (g : Nat) (v : Value) (out : List Int) : Prop where
  lo : b0 ≤ g
  blk : W.heap[g]? = some (.cells #[.int .i64 0, .int .i64 0, v] 114 (0, 0))
  row : Kd.R (Kd.int .u8) 5 W b0 (fun _ => True) v out
/-- The blocks that a Writer writes. -/
def Ws (g : Nat) (v : Value) (k : Nat) : Prop := k = g ∨ some k = v.ownBlock
/-- What a write leaves. -/
structure Nx (b0 : Nat) (W : World) (g : Nat) (v : Value) (W1 : World) (v1 : Value) (out1 : List Int) : Prop where
  wr : Wr b0 W1 g v1 out1
  kept : Kept W W1 (Ws g v)
  hat : v1.ownBlock = v.ownBlock ∨ ∃ b, v1.ownBlock = some b ∧ W.heap.size ≤ b
  bel : Below b0 W W1
section
variable {b0 g : Nat} {W W1 W2 : World} {v v1 v2 : Value} {out out1 out2 : List Int}
theorem Wr.below (h : Wr b0 W g v out) (hb : Below W.heap.size W W1) : Wr b0 W1 g v out := ⟨h.lo, blk_below h.blk hb, Kd.R_below h.row hb⟩
theorem Wr.lt (h : Wr b0 W g v out) : g < W.heap.size := blk_lt h.blk
theorem Wr.size (h : Wr b0 W g v out) : b0 ≤ W.heap.size := Nat.le_trans h.lo (Nat.le_of_lt h.lt)
theorem Wr.start (w : World) : Wr w.heap.size (w.alloc (.cells #[.int .i64 0, .int .i64 0, .slice none 0 0] 114)) w.heap.size (.slice none 0 0) [] :=
  ⟨Nat.le_refl _, heap_alloc_new w _, Kd.R_nil _ _ _ _ _⟩
theorem Wr.ws_lt (h : Wr b0 W g v out) {k : Nat} (hk : Ws g v k) : b0 ≤ k ∧ k < W.heap.size := by
  rcases hk with rfl | hk
  · exact ⟨h.lo, h.lt⟩
  · exact ⟨Kd.R_base h.row k hk.symm, Kd.R_lt h.row k hk.symm⟩
/-- The blocks that it writes next are those, or new. -/
theorem Nx.ws (h : Nx b0 W g v W1 v1 out1) {k : Nat} (hk : Ws g v1 k) : Ws g v k ∨ W.heap.size ≤ k := by
  rcases hk with rfl | hk
  · exact .inl (.inl rfl)
  · rcases h.hat with e | ⟨b, e, hb⟩
    · exact .inl (.inr (by rw [hk, e]))
    · rw [e] at hk
      injection hk with hk
      exact .inr (by omega)
theorem Nx.trans (h : Nx b0 W g v W1 v1 out1) (h2 : Nx b0 W1 g v1 W2 v2 out2) : Nx b0 W g v W2 v2 out2 :=
  ⟨h2.wr, h.kept.then_ h2.kept (fun _ hk => h.ws hk), by
    rcases h2.hat with e | ⟨b, e, hb⟩
    · rw [e]; exact h.hat
    · exact .inr ⟨b, e, Nat.le_trans h.kept.1 hb⟩, h.bel.trans h2.bel⟩
/-- Ahead of it new memory alone was made. -/
theorem Nx.from_below (hW : Wr b0 W g v out) (hb : Below W.heap.size W W1) (h2 : Nx b0 W1 g v W2 v2 out2) : Nx b0 W g v W2 v2 out2 :=
  ⟨h2.wr, (Kept.of_below hb _).then_ h2.kept (fun _ hk => .inl hk), by
    rcases h2.hat with e | ⟨b, e, hb'⟩
    · exact .inl e
    · exact .inr ⟨b, e, Nat.le_trans hb.size hb'⟩, (hb.mono hW.size).trans h2.bel⟩
theorem Nx.then_below (h : Nx b0 W g v W1 v1 out1) (hb : Below W1.heap.size W1 W2) : Nx b0 W g v W2 v1 out1 :=
  ⟨h.wr.below hb, h.kept.below hb, h.hat, h.bel.trans (hb.mono h.wr.size)⟩
/-- A row of bytes that the Writer does not write reads as before. -/
theorem C_away {A : Option Addr} {n : Nat} {xs : List Int} (h : Kd.C (Kd.int .u8) W A n xs) (hk : Kept W W1 (Ws g v)) (hf : ∀ ad, A = some ad → 0 < n → ¬ Ws g v ad.block) : Kd.C (Kd.int .u8) W1 A n xs :=
  Kd.C_foot_neS (fun h => h) h hf _ hk
end
/-- A Writer's next state, whatever its value. -/
def NxE (b0 : Nat) (W : World) (g : Nat) (v : Value) (out1 : List Int) (W1 : World) : Prop := ∃ A k, Nx b0 W g v W1 (.slice A out1.length k) out1
theorem spoilt_no (g : Nat) (c1 c2 : Value) (w : World) (h : w.heap[g]? = some (.cells #[.int .i64 0, c1, c2] 114 (0, 0))) : Calls Tryz.prog 100 #[.pointer (some ⟨g, 0, none⟩)] w fun e w' => e = .returned (.bool false) ∧ w = w' := by
  have hc : w.cell? ⟨g, 0, none⟩ = some (.int .i64 0) := (blk_cell h _).trans rfl
  go_enter Tryz.func100, Tryz.ntmps100
  go_wp2
  go_ret
  exact ⟨rfl, rfl⟩
theorem put_any (b0 g : Nat) (v : Value) (out xs : List Int) (A : Option Addr) (m c : Nat) (w : World) (hW : Wr b0 w g v out) (hx : Kd.C (Kd.int .u8) w A m xs) (hl : out.length + m ≤ 1000000000) :
    Calls Tryz.prog 99 #[.pointer (some ⟨g, 0, none⟩), .bool true, .slice A m c] w fun e w' => e = .returned (.tuple #[]) ∧ NxE b0 w g v (out ++ xs) w' := by
  obtain ⟨Ao, ko, hv⟩ := Kd.R_slice hW.row
  subst hv
  have h0 : w.cell? ⟨g, 0, none⟩ = some (.int .i64 0) := (blk_cell hW.blk _).trans rfl
  have h2 : w.cell? ⟨g, 2, none⟩ = some (.slice Ao out.length ko) := (blk_cell hW.blk _).trans rfl
  have hne : Aside0 (some g ≠ (Value.slice Ao out.length ko).ownBlock) := ⟨Kd.R_ne hW.row hW.blk (by decide)⟩
  have HW := Aside0.mk hW
  have HX := Aside0.mk hx
  clear hW hx
  go_enter Tryz.func99, Tryz.ntmps99
  go_wp2_with (first
    | (go_at_call 100; refine (spoilt_no g _ _ _ HW.out.blk).mono ?_; rintro e w1 ⟨rfl, rfl⟩)
    | (at_builtin; refine Kd.R_append_rows (Kd.int .u8) (w0 := w) b0 rfl (.tmp 26) (.tmp 27) 47 5 (.int .u8 0) 1 rfl Tryz.underlying47 info5 rfl (by decide) (by omega) (.slice Ao out.length ko) out xs A m c (fun _ => True) (fun _ => False) rfl rfl HW.out.row HX.out (fun _ _ h => h) (fun _ hk => hk.elim) (fun _ _ => trivial) (Below.refl _ _) HW.out.size (by omega) ?_
       intro v8 w8 ho8 hb8 hg8 hat8
       obtain ⟨A8, k8, e8⟩ := Kd.R_slice ho8
       rw [List.length_append] at e8
       subst e8
       have hb9 := blk_grown HW.out.blk hg8 hne.out
       have q2 : w8.cell? ⟨g, 2, none⟩ = some (.slice Ao out.length ko) := (blk_cell hb9 _).trans rfl
       have qf : w8.frozen? ⟨g, 2, none⟩ = false := blk_frozen hb9 _
       have HB9 := Aside0.mk hb9
       have H8 := Aside0.mk (⟨ho8, hb8, hg8, hat8⟩ : _ ∧ _ ∧ _ ∧ _)
       clear ho8 hb8 hg8 hat8 hb9))
  go_end0
  have hb10 := blk_set HB9.out 2 (.slice A8 (out.length + xs.length) k8)
  refine ⟨rfl, A8, k8, ?_⟩
  rw [List.length_append]
  refine ⟨⟨HW.out.lo, hb10, ?_⟩, ?_, H8.out.2.2.2, H8.out.2.1.setCell (p := ⟨g, 2, none⟩) HW.out.lo _⟩
  · exact Kd.R_mono (Kd.R_far (p := ⟨g, 2, none⟩) (Kd.R_mono (Kd.R_types H8.out.1 HB9.out (by decide)) (fun _ h => h)) (fun _ hk => hk.2) _) (fun _ _ => trivial)
  · exact (Kept.of_grown H8.out.2.2.1 (Kept.refl w _) (fun k hk => .inl (.inr hk.symm))).setCell (p := ⟨g, 2, none⟩) (.inl (.inl rfl)) _
theorem raw_any (b0 g : Nat) (v : Value) (out xs : List Int) (A : Option Addr) (m c : Nat) (w : World) (hW : Wr b0 w g v out) (hx : Kd.C (Kd.int .u8) w A m xs) (hl : out.length + m ≤ 1000000000) :
    Calls Tryz.prog 50 #[.pointer (some ⟨g, 0, none⟩), .slice A m c] w fun e w' => e = .returned (.tuple #[]) ∧ NxE b0 w g v (out ++ xs) w' := by
  have HW := Aside0.mk hW
  have HX := Aside0.mk hx
  clear hW hx
  go_enter Tryz.func50, Tryz.ntmps50
  go_wp2_with (go_at_call 99; refine (put_any b0 g v out xs A m c _ HW.out HX.out hl).mono ?_; rintro e w1 ⟨rfl, h1⟩; have H1 := Aside0.mk h1; clear h1)
  go_end0
  exact ⟨rfl, H1.out⟩
theorem data_any (b0 g : Nat) (v : Value) (out : List Int) (w : World) (hW : Wr b0 w g v out) (hl : out.length ≤ 1000000000) :
    Calls Tryz.prog 53 #[.pointer (some ⟨g, 0, none⟩)] w fun e w' => ∃ A k, e = .returned (.tuple #[.slice A out.length k, .int .i64 0]) ∧ Kd.R (Kd.int .u8) 5 w' w.heap.size (fun _ => True) (.slice A out.length k) out ∧ Below w.heap.size w w' := by
  obtain ⟨Ao, ko, hv⟩ := Kd.R_slice hW.row
  subst hv
  have h0 : w.cell? ⟨g, 0, none⟩ = some (.int .i64 0) := (blk_cell hW.blk _).trans rfl
  have h2 : w.cell? ⟨g, 2, none⟩ = some (.slice Ao out.length ko) := (blk_cell hW.blk _).trans rfl
  have HW := Aside0.mk hW
  clear hW
  go_enter Tryz.func53, Tryz.ntmps53
  go_wp2_with (first
    | (go_at_call 100; refine (spoilt_no g _ _ _ HW.out.blk).mono ?_; rintro e w1 ⟨rfl, rfl⟩)
    | (at_builtin; refine Kd.R_append_rows (Kd.int .u8) (w0 := w) w.heap.size rfl (.const (.slice none 0 0)) (.tmp 15) 47 5 (.int .u8 0) 1 rfl Tryz.underlying47 info5 rfl (by decide) (by omega) (.slice none 0 0) [] out Ao out.length ko (fun _ => True) (fun _ => False) rfl rfl (Kd.R_nil _ _ _ _ _) (Kd.R_reads' HW.out.row).2.2 (fun _ _ h => h) (fun _ hk => hk.elim) (fun _ _ => trivial) (Below.refl _ _) (Nat.le_refl _) (by simp; omega) ?_
       intro v8 w8 ho8 hb8 hg8 hat8
       rw [List.nil_append] at ho8
       obtain ⟨A8, k8, e8⟩ := Kd.R_slice ho8
       subst e8
       have H8 := Aside0.mk (⟨ho8, hb8⟩ : _ ∧ _)
       clear ho8 hb8 hg8 hat8))
  go_ret2
  exact ⟨A8, k8, rfl, H8.out⟩
end Go.Proofs.YtdekmeanlcpenaaGreatDoor.Codec

namespace Go.Proofs.YtdekmeanlcpenaaGreatDoor.Block
open Go.RowKit Go.Proofs.YtdekmeanlcpenaaGreatDoorW.PrintWords Go.Proofs.YtdekmeanlcpenaaGreatDoorW.PrintLast Go.Proofs.YtdekmeanlcpenaaGreatDoorW.PrintMore
theorem rd_nat (l : List Int) (i : Nat) : rd l (i : Int) = l.getD i 0 := by simp [rd]
theorem drop_cons (l : List Int) (i : Nat) (h : i < l.length) : l.drop i = l.getD i 0 :: l.drop (i + 1) := by
  rw [List.drop_eq_getElem_cons h, List.getD_eq_getElem?_getD, List.getElem?_eq_getElem h]; rfl
theorem rd_byte {l : List Int} (h : ∀ x ∈ l, 0 ≤ x ∧ x ≤ 255) (i : Int) : 0 ≤ rd l i ∧ rd l i ≤ 255 := by
  unfold rd
  rw [List.getD_eq_getElem?_getD]
  cases hi : l[i.toNat]? with
  | none => simp
  | some x => exact h x (List.mem_of_getElem? hi)
def tabL (f : Nat → Nat) (i : Nat) : List Int := (List.range 16).map fun j => if j < i then (f j : Int) else 0
theorem tabL_length (f : Nat → Nat) (i : Nat) : (tabL f i).length = 16 := by simp [tabL]
theorem tabL_zero (f : Nat → Nat) : tabL f 0 = List.replicate 16 0 := by rfl
theorem tabL_set (f : Nat → Nat) (i : Nat) (h : i < 16) : (tabL f i).set i (f i : Int) = tabL f (i + 1) := by
  apply List.ext_getElem
  · simp [tabL]
  · intro j h1 h2
    rw [List.getElem_set]
    simp only [tabL, List.getElem_map, List.getElem_range]
    split
    · subst_vars; rw [if_pos (by omega)]
    · by_cases hj : j < i
      · rw [if_pos hj, if_pos (by omega)]
      · rw [if_neg hj, if_neg (by omega)]
theorem tabL_get (f : Nat → Nat) (j : Nat) (h : j < 16) : rd (tabL f 16) (j : Int) = (f j : Int) := by
  rw [rd_nat, List.getD_eq_getElem?_getD, List.getElem?_eq_getElem (by rw [tabL_length]; exact h)]
  simp [tabL, h]

def f1n : Nat → Nat → Nat
  | 0, r => r
  | k + 1, r => f1n k (f1 r)

theorem low_odd {r : Nat} (hr : r < 4294967296) (h : r % 2 = 1) : bits .and .u32 (r : Int) 1 = 1 := by
  have := u32_and_nat r 1 hr (by omega)
  rw [Nat.and_one_is_mod, h] at this
  exact this
theorem low_even {r : Nat} (hr : r < 4294967296) (h : ¬ r % 2 = 1) : bits .and .u32 (r : Int) 1 = 0 := by
  have := u32_and_nat r 1 hr (by omega)
  rw [Nat.and_one_is_mod, show r % 2 = 0 by omega] at this
  exact this
theorem half_odd {r : Nat} (hr : r < 4294967296) (h : r % 2 = 1) : bits .xor .u32 ((r : Int) / 2) 3988292384 = (f1 r : Int) := by
  have := u32_xor_nat (r / 2) 3988292384 (by omega) (by omega)
  rw [f1, if_pos h, ← this]; rfl
theorem half_even {r : Nat} (h : ¬ r % 2 = 1) : (r : Int) / 2 = (f1 r : Int) := by rw [f1, if_neg h]; rfl
theorem low_16 {r : Nat} (hr : r < 4294967296) : bits .and .u32 (r : Int) 15 = ((r % 16 : Nat) : Int) := by
  have := u32_and_nat r 15 hr (by omega)
  rw [show (15 : Nat) = 2 ^ 4 - 1 from rfl, Nat.and_two_pow_sub_one_eq_mod] at this
  exact this
theorem xor_16 {r : Nat} (hr : r < 4294967296) : bits .xor .u32 ((r : Int) / 16) ((f4 (r % 16) : Nat) : Int) = (f4 r : Int) := by
  have := u32_xor_nat (r / 16) (f4 (r % 16)) (by omega) (f4_lt (by omega))
  rw [f4_table r, ← this]; rfl

set_option maxRecDepth 100000 in
set_option maxHeartbeats 2000000 in
theorem sum_any (A0 : Option Addr) (c0 : Nat) (l0 : List Int) (w : World) (hr0 : Kd.C (Kd.int .u8) w A0 l0.length l0) (hby : ∀ x ∈ l0, 0 ≤ x ∧ x ≤ 255) (hl : l0.length ≤ 140737488355328) :
    Calls Tryz.prog 52 #[.slice A0 l0.length c0] w fun e w' => e = .returned (.int .i64 (sumS l0)) ∧ Below w.heap.size w w' := by
  have HR0 := Aside0.mk hr0
  clear hr0
  have hrep : (nums .u32 (List.replicate 16 0)).toArray = #[Value.int .u32 0, .int .u32 0, .int .u32 0, .int .u32 0, .int .u32 0, .int .u32 0, .int .u32 0, .int .u32 0, .int .u32 0, .int .u32 0, .int .u32 0, .int .u32 0, .int .u32 0, .int .u32 0, .int .u32 0, .int .u32 0] := rfl
  have h0 := Aside0.mk (Kd.R_of_own (own_lit w w.heap.size 187 .u32 (List.replicate 16 0) (Nat.le_refl _) (by simp)) (fun _ _ => trivial) : Kd.R (Kd.int .u32) 187 (w.alloc (.cells (nums .u32 (List.replicate 16 0)).toArray 187)) w.heap.size (fun _ => True) (.slice (some ⟨w.heap.size, 0, none⟩) 16 16) (List.replicate 16 0))
  rw [hrep] at h0
  clear hrep
  go_enter Tryz.func52, Tryz.ntmps52
  go_wp2
  go_loopg [10] 16 (fun k v10 w' => ∃ i : Nat, v10 = .int .i64 i ∧ i + k = 16 ∧ Aside0 (Kd.R (Kd.int .u32) 187 w' w.heap.size (fun _ => True) (.slice (some ⟨w.heap.size, 0, none⟩) 16 16) (tabL f4 i) ∧ Below w.heap.size w w'))
  case atStart => exact ⟨0, rfl, rfl, ⟨by rw [tabL_zero]; exact h0.out, (Below.refl _ _).alloc (Nat.le_refl _) _⟩⟩
  case round =>
    clear h0
    obtain ⟨i, rfl, hik, HT⟩ := hrel
    cases gk with
    | zero => 
      have hi16 : i = 16 := by omega
      subst hi16
      clear hik
      go_wp2
      go_loopg [7, 32] (l0.length) (fun k v7 v32 w' => ∃ r j : Nat, v7 = .int .u32 r ∧ v32 = .int .i64 j ∧ j + k = l0.length ∧ r < 4294967296 ∧ Aside0 (sumR (l0.drop j) r = sumR l0 4294967295) ∧ w' = wr)
      case atStart => exact ⟨4294967295, 0, rfl, rfl, by omega, by omega, ⟨rfl⟩, rfl⟩
      case round =>
        obtain ⟨r, j, rfl, rfl, hjk, hr, HS, rfl⟩ := hrel
        cases gk with
        | zero =>
          have hj : j = l0.length := by omega
          subst hj
          have hs := HS.out
          rw [List.drop_length] at hs
          have hfin : bits .xor .u32 (r : Int) 4294967295 = (sumS l0 : Int) := by
            have h1 := u32_xor_nat r 4294967295 hr (by omega)
            rw [xor_mask hr] at h1
            rw [sumS, ← hs]; exact h1
          have hsl : sumS l0 ≤ 4294967295 := by unfold sumS; omega
          clear hs HS
          go_wp2
          go_ret
          exact ⟨rfl, HT.out.2⟩
        | succ k =>
          have hjl : j < l0.length := by omega
          obtain ⟨ad, e0, hx⟩ := Kd.at_int (Kd.C_below HR0.out HT.out.2) (j : Int) (by omega) (by omega)
          cases e0
          obtain ⟨x, hxn⟩ : ∃ x : Nat, rd l0 (j : Int) = (x : Int) := ⟨(rd l0 (j : Int)).toNat, by have := rd_byte hby (j : Int); omega⟩
          have hxb : x ≤ 255 := by have := rd_byte hby (j : Int); omega
          rw [hxn] at hx
          simp only [Int.toNat_natCast] at hx
          obtain ⟨r1, hr1⟩ : ∃ r1, r1 = r ^^^ x := ⟨_, rfl⟩
          have hr1l : r1 < 4294967296 := by rw [hr1]; exact Nat.xor_lt_two_pow (n := 32) hr (by omega)
          have hs := HS.out
          rw [drop_cons l0 j hjl, sumR, ← rd_nat, hxn, Int.toNat_natCast, ← hr1] at hs
          have hb1 : bits .xor .u32 (r : Int) (x : Int) = (r1 : Int) := by rw [hr1]; exact u32_xor_nat r x hr (by omega)
          obtain ⟨r2, hr2⟩ : ∃ r2, r2 = f4 r1 := ⟨_, rfl⟩
          obtain ⟨r3, hr3⟩ : ∃ r3, r3 = f4 r2 := ⟨_, rfl⟩
          have hr2l : r2 < 4294967296 := by rw [hr2]; exact f4_lt hr1l
          have hr3l : r3 < 4294967296 := by rw [hr3]; exact f4_lt hr2l
          rw [← hr2, ← hr3] at hs
          obtain ⟨m1, hm1⟩ : ∃ m1, m1 = r1 % 16 := ⟨_, rfl⟩
          obtain ⟨m2, hm2⟩ : ∃ m2, m2 = r2 % 16 := ⟨_, rfl⟩
          have hm1l : m1 < 16 := by omega
          have hm2l : m2 < 16 := by omega
          have ha1 := low_16 hr1l
          have ha2 := low_16 hr2l
          have hb2 := xor_16 hr1l
          have hb3 := xor_16 hr2l
          rw [← hm1] at ha1 hb2
          rw [← hm2] at ha2 hb3
          rw [← hr2] at hb2
          rw [← hr3] at hb3
          obtain ⟨t1, ht1⟩ : ∃ t1, t1 = f4 m1 := ⟨_, rfl⟩
          obtain ⟨t2, ht2⟩ : ∃ t2, t2 = f4 m2 := ⟨_, rfl⟩
          rw [← ht1] at hb2
          rw [← ht2] at hb3
          obtain ⟨hc1, -⟩ := Kd.R_celln (0 : Int) HT.out.1 (m1 : Int) (by omega) (by omega)
          obtain ⟨hc2, -⟩ := Kd.R_celln (0 : Int) HT.out.1 (m2 : Int) (by omega) (by omega)
          have hg1 : rdOf 0 (tabL f4 16) (m1 : Int) = (t1 : Int) := by rw [ht1]; exact tabL_get f4 m1 hm1l
          have hg2 : rdOf 0 (tabL f4 16) (m2 : Int) = (t2 : Int) := by rw [ht2]; exact tabL_get f4 m2 hm2l
          rw [hg1] at hc1
          rw [hg2] at hc2
          simp only [Int.toNat_natCast] at hc1 hc2
          have HS2 := Aside0.mk hs
          have hm1i : (m1 : Int) < 16 := by omega
          have hm2i : (m2 : Int) < 16 := by omega
          clear hs HS hr1 hr2 hr3 hm1 hm2 ht1 ht2 hg1 hg2 hxn
          go_wp2
          go_roundg k
          case measure => omega
          case rel => exact ⟨r3, j + 1, rfl, by go_num, by omega, hr3l, HS2, rfl⟩
    | succ k =>
      have hi : i < 16 := by omega
      have hi1 : (i : Int) < 16 := by omega
      go_wp2
      go_loopg [5, 6, 15] 4 (fun k v5 v6 v15 w' => ∃ t r : Nat, v5 = .int .u32 r ∧ v15 = .int .i64 t ∧ t + k = 4 ∧ r < 4294967296 ∧ Aside0 (f1n k r = f4 i) ∧ Aside0 (Kd.R (Kd.int .u32) 187 w' w.heap.size (fun _ => True) (.slice (some ⟨w.heap.size, 0, none⟩) 16 16) (tabL f4 i) ∧ Below w.heap.size w w'))
      case atStart => exact ⟨0, i, rfl, rfl, rfl, by omega, ⟨rfl⟩, HT⟩
      case round =>
        clear HT
        obtain ⟨t, r, rfl, rfl, htk, hr, HF, HT⟩ := hrel
        cases gk with
        | zero =>
          have ht4 : t = 4 := by omega
          subst ht4
          have hrf : r = f4 i := HF.out
          have hR := HT.out.1
          obtain ⟨hc, hz⟩ := Kd.R_celln (0 : Int) hR (i : Int) (by omega) (by omega)
          simp only [Int.toNat_natCast] at hc hz
          have hP := Kd.R_putn (enc := Value.int .u32) (h1 := fun _ => rfl) hR (i : Int) (r : Int)
          simp only [Int.toNat_natCast] at hP
          have HN : Aside0 (Kd.R (Kd.int .u32) 187 (wr.setCell ⟨w.heap.size, i, none⟩ (.int .u32 r)) w.heap.size (fun _ => True) (.slice (some ⟨w.heap.size, 0, none⟩) 16 16) (tabL f4 (i + 1)) ∧ Below w.heap.size w (wr.setCell ⟨w.heap.size, i, none⟩ (.int .u32 r))) := ⟨by rw [← tabL_set f4 i hi, ← hrf]; exact hP, HT.out.2.setCell (p := ⟨w.heap.size, i, none⟩) (Nat.le_refl _) _⟩
          clear hrf hR hP HT HF
          go_wp2
          go_roundg k
          case measure => omega
          case rel => exact ⟨i + 1, by go_num, by omega, HN⟩
        | succ kt =>
          have ht : (t : Int) < 4 := by omega
          have HF2 : Aside0 (f1n kt (f1 r) = f4 i) := ⟨HF.out⟩
          have hf1 : f1 r < 4294967296 := f1_lt hr
          clear HF
          by_cases hodd : r % 2 = 1
          · have hlow := low_odd hr hodd
            have hhalf := half_odd hr hodd
            clear hodd
            go_wp2
            go_roundg kt
            case measure => omega
            case rel => exact ⟨t + 1, f1 r, rfl, by go_num, by omega, hf1, HF2, HT⟩
          · have hlow := low_even hr hodd
            have hhalf := half_even hodd
            clear hodd
            go_wp2
            go_roundg kt
            case measure => omega
            case rel => exact ⟨t + 1, f1 r, by first | rfl | rw [hhalf], by go_num, by omega, hf1, HF2, HT⟩
end Go.Proofs.YtdekmeanlcpenaaGreatDoor.Block

namespace Go.Proofs.YtdekmeanlcpenaaGreatDoor.Codec
open Go.RowKit Go.Proofs.YtdekmeanlcpenaaGreatDoorW.PrintWords Go.Proofs.YtdekmeanlcpenaaGreatDoor.Mid Go.Proofs.YtdekmeanlcpenaaGreatDoor.Block
set_option maxHeartbeats 4000000
set_option maxRecDepth 100000
theorem u8_and127 (x : Nat) (h : x ≤ 255) : bits .and .u8 (x : Int) 127 = ((x % 128 : Nat) : Int) := by
  have : ∀ m : Fin 256, bits .and .u8 ((m.val : Nat) : Int) 127 = ((m.val % 128 : Nat) : Int) := by decide +kernel
  exact this ⟨x, by omega⟩
theorem bits_or_comm (k : IntKind) (a b : Int) : bits .or k a b = bits .or k b a := by
  unfold bits
  simp [BitVec.or_comm]
theorem dig_one (e : Nat) (m v : Nat) (hm : m < 128) (hv : v < 2 ^ e) (P : Nat) (hP : 2 ^ e = P) (hPQ : P ≤ 268435456) : wrap64 ((m : Int) * (P : Int)) = ((m * P : Nat) : Int) ∧ bits .or .i64 (v : Int) ((m * P : Nat) : Int) = ((v + m * P : Nat) : Int) := by
  subst hP
  have h1 : m * 2 ^ e < 2 ^ 35 := by
    calc m * 2 ^ e < 128 * 2 ^ e := Nat.mul_lt_mul_of_pos_right hm (Nat.two_pow_pos e)
      _ ≤ 128 * 268435456 := Nat.mul_le_mul_left _ hPQ
      _ ≤ 2 ^ 35 := by decide
  refine ⟨?_, ?_⟩
  · rw [← Int.natCast_mul]
    generalize m * 2 ^ e = z at h1
    unfold wrap64
    have : (2 : Nat) ^ 35 = 34359738368 := by decide
    omega
  · rw [bits_or_comm]
    have h2 : v < 2 ^ 35 := Nat.lt_of_lt_of_le hv (Nat.le_trans hPQ (by decide))
    rw [bits_join .i64 35 (by decide) (fun n a b => IntWalk.i64_in n (by omega)) e ((m * 2 ^ e : Nat) : Int) (v : Int) (by omega) (by rw [show ((m * 2 ^ e : Nat) : Int) = (m : Int) * 2 ^ e by simp]; exact Int.mul_emod_left _ _) (by exact_mod_cast h1) (by omega) (by exact_mod_cast hv) (by exact_mod_cast h2)]
    omega
theorem dig_join (n m v : Nat) (hn : n ≤ 4) (hm : m < 128) (hv : v < 128 ^ n) : wrap64 ((m : Int) * 2 ^ (7 * n)) = ((m * 128 ^ n : Nat) : Int) ∧ bits .or .i64 (v : Int) ((m * 128 ^ n : Nat) : Int) = ((v + m * 128 ^ n : Nat) : Int) := by
  have e : (128 : Nat) ^ n = 2 ^ (7 * n) := by rw [Nat.pow_mul]
  have h := dig_one (7 * n) m v hm (by rw [← e]; exact hv) (128 ^ n) e.symm (by
    calc 128 ^ n ≤ 128 ^ 4 := Nat.pow_le_pow_right (by decide) hn
      _ ≤ 268435456 := by decide)
  have e2 : ((128 ^ n : Nat) : Int) = 2 ^ (7 * n) := by rw [e]; simp
  rw [e2] at h
  exact h
theorem codeNum_any (A : Option Addr) (c : Nat) (l : List Int) (w : World) (hC : Kd.C (Kd.int .u8) w A l.length l) (hb : Byt l) (hl : l.length ≤ 140737488351232) :
    Calls Tryz.prog 150 #[.slice A l.length c] w fun e w' => e = .returned (.tuple #[.int .i64 (numR l 0 0 1).1, .int .i64 (numR l 0 0 1).2.1, .int .i64 (numR l 0 0 1).2.2]) ∧ w = w' := by
  have HC := Aside0.mk hC
  have HB := Aside0.mk hb
  obtain ⟨r, hr⟩ : ∃ r, numR l 0 0 1 = r := ⟨_, rfl⟩
  rw [hr]
  have HR : Aside0 (numR (l.drop 0) 0 0 (128 ^ 0) = r) := ⟨hr⟩
  clear hC hb hr
  go_enter Tryz.func150, Tryz.ntmps150
  go_wp2
  apply wp_scope_straight
  go_wp2
  apply wp_label
  go_wp2
  go_loopg [2, 3] 5 (fun k v2 v3 w' => ∃ n v : Nat, v2 = .int .i64 v ∧ v3 = .int .i64 n ∧ n + k = 5 ∧ n ≤ l.length ∧ Aside0 (v < 128 ^ n) ∧ Aside0 (numR (l.drop n) n v (128 ^ n) = r) ∧ w = w')
  case atStart => exact ⟨0, 0, rfl, rfl, rfl, by omega, ⟨by decide⟩, HR, rfl⟩
  case round =>
    clear HR
    obtain ⟨n, v, rfl, rfl, hnk, hnl, HV, HR, rfl⟩ := hrel
    cases gk with
    | zero =>
      have h5 : n = 5 := by omega
      subst h5
      have hr := HR.out
      rw [numR_five] at hr
      have Hr := Aside0.mk hr
      clear hnk hr
      go_wp2
      rw [Exit.noGoto_ret]
      go_ret3
      rw [← Hr.out]
      exact ⟨rfl, rfl⟩
    | succ k =>
      have hn4 : n ≤ 4 := by omega
      by_cases he : n = l.length
      · have hr := HR.out
        rw [List.drop_of_length_le (by omega), numR, if_neg (by omega)] at hr
        have Hr := Aside0.mk hr
        have e1 : ((n : Int) == (l.length : Int)) = true := by rw [he]; simp
        have e2 : (n == l.length) = true := by rw [he]; simp
        have e3 : ((n : Int) == 5) = false := by rw [beq_eq_false_iff_ne]; omega
        have He := Aside0.mk he
        clear hr he hnk hn4 hnl
        go_wp2
        rw [Exit.noGoto_ret]
        go_ret3
        rw [← Hr.out]
        exact ⟨rfl, rfl⟩
      · have hlt : n < l.length := by omega
        obtain ⟨ad, e0, hx⟩ := Kd.at_int HC.out (n : Int) (by omega) (by omega)
        subst e0
        have hxb := rd_byte HB.out (n : Int)
        obtain ⟨x, hxn⟩ : ∃ x : Nat, rd l (n : Int) = (x : Int) := ⟨(rd l (n : Int)).toNat, by omega⟩
        rw [hxn] at hx hxb
        have hxb2 : x ≤ 255 := by omega
        have hr := HR.out
        rw [drop_cons l n hlt, ← rd_nat, hxn, numR, if_neg (by omega), Int.toNat_natCast] at hr
        obtain ⟨m, hm⟩ : ∃ m, x % 128 = m := ⟨_, rfl⟩
        rw [hm] at hr
        have hm1 : m < 128 := by omega
        have hand := u8_and127 x hxb2
        rw [hm] at hand
        have Hr := Aside0.mk hr
        have e1 : ((n : Int) == (l.length : Int)) = false := by rw [beq_eq_false_iff_ne]; omega
        have e2 : (n == l.length) = false := by rw [beq_eq_false_iff_ne]; omega
        have Hm := Aside0.mk hm
        simp only [Int.toNat_natCast] at hx
        clear hr hm hxb hxn HR
        obtain ⟨hsh, hor⟩ := dig_join n m v hn4 hm1 HV.out
        obtain ⟨sft, hsf⟩ : ∃ sft, m * 128 ^ n = sft := ⟨_, rfl⟩
        rw [hsf] at hsh hor
        have hr1 := Hr.out
        rw [hsf] at hr1
        obtain ⟨y, hy⟩ : ∃ y, v + sft = y := ⟨_, rfl⟩
        rw [hy] at hor hr1
        have HY : Aside0 (y < 128 ^ (n + 1)) := ⟨by
          have h1 := HV.out
          have h2 : m * 128 ^ n ≤ 127 * 128 ^ n := Nat.mul_le_mul_right _ (by omega)
          rw [Nat.pow_succ]; omega⟩
        have Hr1 := Aside0.mk hr1
        clear hsf hy hr1 Hr HV
        by_cases hc : x < 128
        · have hc1 : (x : Int) < 128 := by omega
          by_cases hm2 : y ≤ 2147483647
          · have hm3 : (y : Int) ≤ 2147483647 := by omega
            by_cases h0 : 0 < n ∧ x = 0
            · have hr2 := Hr1.out
              rw [if_pos (by omega), if_pos (.inr ⟨h0.1, by omega⟩)] at hr2
              have Hr2 := Aside0.mk hr2
              have hn1 : 1 < (n : Int) + 1 := by omega
              have hx0 : ((x : Int) == 0) = true := by rw [h0.2]; rfl
              clear h0 hr2
              go_wp2
              rw [Exit.noGoto_ret]
              go_ret3
              rw [← Hr2.out]
              exact ⟨rfl, rfl⟩
            · have hr2 := Hr1.out
              rw [if_pos (by omega), if_neg (by omega)] at hr2
              have Hr2 := Aside0.mk hr2
              clear hr2
              by_cases hn0 : n = 0
              · have hn1 : ¬ 1 < (n : Int) + 1 := by omega
                clear h0 hn0
                go_wp2
                try rw [Exit.noGoto_ret]
                go_ret3
                rw [← Hr2.out]
                exact ⟨rfl, rfl⟩
              · have hn1 : 1 < (n : Int) + 1 := by omega
                have hx0 : ((x : Int) == 0) = false := by rw [beq_eq_false_iff_ne]; omega
                clear h0
                go_wp2
                rw [Exit.noGoto_ret]
                go_ret3
                rw [← Hr2.out]
                exact ⟨rfl, rfl⟩
          · have hm3 : 2147483647 < (y : Int) := by omega
            have hr2 := Hr1.out
            rw [if_pos (by omega), if_pos (.inl (by omega))] at hr2
            have Hr2 := Aside0.mk hr2
            clear hr2
            go_wp2
            rw [Exit.noGoto_ret]
            go_ret3
            rw [← Hr2.out]
            exact ⟨rfl, rfl⟩
        · have hc1 : ¬ (x : Int) < 128 := by omega
          have hr2 := Hr1.out
          rw [if_neg (by omega)] at hr2
          have Hr2 : Aside0 (numR (l.drop (n + 1)) (n + 1) y (128 ^ (n + 1)) = r) := ⟨by rw [Nat.pow_succ]; exact hr2⟩
          clear hr2
          go_wp2
          go_roundg k
          case measure => omega
          case rel => exact ⟨n + 1, y, rfl, by go_num, by omega, by omega, HY, Hr2, rfl⟩
end Go.Proofs.YtdekmeanlcpenaaGreatDoor.Codec

namespace Go.Proofs.YtdekmeanlcpenaaGreatDoor.Codec
open Go.RowKit Go.Proofs.YtdekmeanlcpenaaGreatDoorW.PrintWords Go.Proofs.YtdekmeanlcpenaaGreatDoor.Mid Go.Proofs.YtdekmeanlcpenaaGreatDoor.Block
set_option maxHeartbeats 4000000
set_option maxRecDepth 100000
/-- A reader in memory. -/
structure Rd (W : World) (g : Nat) (D : Option Addr) (k : Nat) (s : RS) : Prop where
  blk : W.heap[g]? = some (.cells #[.int .i64 s.code, .int .i64 s.place, .slice D s.data.length k, .int .i64 s.at_] 265 (0, 0))
  dat : Kd.C (Kd.int .u8) W D s.data.length s.data
  cap : s.data.length ≤ k
  off : ∀ ad, D = some ad → ad.block ≠ g
  at_ : s.at_ ≤ s.data.length
  byt : Byt s.data
  len : s.data.length ≤ 140737488351232
section
variable {W W1 : World} {g k : Nat} {D : Option Addr} {s s1 : RS}
theorem Rd.below (h : Rd W g D k s) (hb : Below W.heap.size W W1) : Rd W1 g D k s := ⟨blk_below h.blk hb, Kd.C_below h.dat hb, h.cap, h.off, h.at_, h.byt, h.len⟩
theorem Rd.lt (h : Rd W g D k s) : g < W.heap.size := blk_lt h.blk
/-- The reader's variable is written. -/
theorem Rd.put (h : Rd W g D k s) (hd : s1.data = s.data) (ha : s1.at_ ≤ s.data.length) (hg : W.grownBy W1 (some g)) (hb : W1.heap[g]? = some (.cells #[.int .i64 s1.code, .int .i64 s1.place, .slice D s.data.length k, .int .i64 s1.at_] 265 (0, 0))) : Rd W1 g D k s1 := by
  have hc : Kd.C (Kd.int .u8) W1 D s.data.length s.data := Kd.C_foot_neS (S := fun k => k = g) (fun h => h) h.dat (fun ad he _ => h.off ad he) W1 ⟨hg.size, fun i hi hn => hg.block i hi (fun e => hn (by injection e))⟩
  exact ⟨by rw [hd]; exact hb, by rw [hd]; exact hc, by rw [hd]; exact h.cap, h.off, by rw [hd]; exact ha, by rw [hd]; exact h.byt, by rw [hd]; exact h.len⟩
end
/-- One alone may come up. -/
theorem heldOne {P : Program} {md : Region.Mode} {ops : Array Oper} {Q : Exit → Act → World → Prop} {S : World → Prop} {i : Nat} {o : Oper} {fuel : Nat} {listed : Array Bool} {a : Act} {w : World} (hr : Region.ready md ops listed = [i]) (hi : ops[i]? = some o) (hw : Region.wanted o (yielded ops a.tmps) = true)
    (h : o.wp P a w (fun a' w' => S w' ∧ wpAnyH P md ops Q S fuel (listed.setIfInBounds i true) a' w') Q) : wpAnyH P md ops Q S (fuel + 1) listed a w := by
  refine ⟨fun h0 => (by rw [hr] at h0; cases h0), fun j hj => ?_⟩
  rw [hr, List.mem_singleton] at hj
  subst hj
  unfold wpOp
  simp only [hi, hw, if_true]
  exact .inl h
theorem grown_set (w : World) (p : Addr) (v : Value) : w.grownBy (w.setCell p v) (some p.block) := ⟨rfl, rfl, rfl, by simp [World.setCell], fun k _ hk => Below.heap_setCell w p v k (fun e => hk (by rw [e]))⟩
theorem spoilt_is (g : Nat) (n : Nat) (w : World) (h : w.cell? ⟨g, 0, none⟩ = some (.int .i64 n)) : Calls Tryz.prog 100 #[.pointer (some ⟨g, 0, none⟩)] w fun e w' => e = .returned (.bool (!((n : Int) == 0))) ∧ w = w' := by
  go_enter Tryz.func100, Tryz.ntmps100
  go_wp2
  go_ret
  exact ⟨rfl, rfl⟩
theorem goes_yes {W : World} {g k : Nat} {D : Option Addr} {s : RS} (h : Rd W g D k s) (hc : s.code = 0) : Calls Tryz.prog 148 #[.pointer (some ⟨g, 0, none⟩)] W fun e w' => e = .returned (.bool true) ∧ W = w' := by
  have c0 : W.cell? ⟨g, 0, none⟩ = some (.int .i64 ((0 : Nat) : Int)) := by rw [blk_cell h.blk, hc]; rfl
  have C0 := Aside0.mk c0
  clear h hc c0
  go_enter Tryz.func148, Tryz.ntmps148
  go_wp2_with (go_at_call 100; refine (spoilt_is g 0 _ C0.out).mono ?_; rintro e w1 ⟨rfl, rfl⟩)
  go_ret
  exact ⟨rfl, rfl⟩
theorem goes_no {W : World} {g k : Nat} {D : Option Addr} {s : RS} (h : Rd W g D k s) (hc : s.code ≠ 0) : Calls Tryz.prog 148 #[.pointer (some ⟨g, 0, none⟩)] W fun e w' => e = .returned (.bool false) ∧ W = w' := by
  have c0 : W.cell? ⟨g, 0, none⟩ = some (.int .i64 (s.code : Int)) := by rw [blk_cell h.blk]; rfl
  have C0 := Aside0.mk c0
  have hb : (!((s.code : Int) == 0)) = true := by simp; omega
  have HB := Aside0.mk hb
  clear h hc c0 hb
  go_enter Tryz.func148, Tryz.ntmps148
  go_wp2_with (go_at_call 100; refine (spoilt_is g s.code _ C0.out).mono ?_; rw [HB.out]; rintro e w1 ⟨rfl, rfl⟩)
  go_ret
  exact ⟨rfl, rfl⟩
theorem spoil_any (g : Nat) (e at_ : Nat) (c1 d a : Value) (w : World) (h : w.heap[g]? = some (.cells #[.int .i64 0, c1, d, a] 265 (0, 0))) :
    Calls Tryz.prog 142 #[.pointer (some ⟨g, 0, none⟩), .int .i64 e, .int .i64 at_] w fun r w' => r = .returned (.tuple #[]) ∧ w'.heap[g]? = some (.cells #[.int .i64 e, .int .i64 at_, d, a] 265 (0, 0)) ∧ w.grownBy w' (some g) := by
  have c0 : w.cell? ⟨g, 0, none⟩ = some (.int .i64 0) := (blk_cell h _).trans rfl
  have c1' : w.cell? ⟨g, 1, none⟩ = some c1 := (blk_cell h _).trans rfl
  have f0 : w.frozen? ⟨g, 0, none⟩ = false := blk_frozen h _
  have f1 : w.frozen? ⟨g, 1, none⟩ = false := blk_frozen h _
  have H := Aside0.mk h
  clear h
  go_enter Tryz.func142, Tryz.ntmps142
  go_wp2
  go_end0
  refine ⟨rfl, ?_, World.grownBy.trans (grown_set w ⟨g, 0, none⟩ _) (grown_set _ ⟨g, 1, none⟩ _)⟩
  exact blk_set (blk_set H.out 0 (.int .i64 e)) 1 (.int .i64 at_)
end Go.Proofs.YtdekmeanlcpenaaGreatDoor.Codec
