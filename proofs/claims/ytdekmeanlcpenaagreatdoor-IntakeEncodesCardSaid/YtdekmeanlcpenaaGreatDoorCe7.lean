import Derived.Test.YtdekmeanlcpenaaGreatDoorCe6
set_option linter.unusedSimpArgs false
set_option linter.unusedVariables false
namespace Go.Proofs.YtdekmeanlcpenaaGreatDoor.Codec
open Go.RowKit Go.Proofs.YtdekmeanlcpenaaGreatDoorW.PrintWords Go.Proofs.YtdekmeanlcpenaaGreatDoor.Mid
set_option maxHeartbeats 4000000
set_option maxRecDepth 100000
theorem RetB.is_true {e : Ending} {p : Prop} (h : RetB e p) (hp : p) : e = .returned (.bool true) := by
  obtain ⟨q, he, hq⟩ := h.out
  rw [he, hq.2 hp]
theorem RetB.is_false {e : Ending} {p : Prop} (h : RetB e p) (hp : ¬ p) : e = .returned (.bool false) := by
  obtain ⟨q, he, hq⟩ := h.out
  cases q
  · exact he
  · exact absurd (hq.1 rfl) hp
theorem isName_yes (s : ByteArray) (w : World) (h : NameOk s) : Calls Tryz.prog 94 #[.string s] w fun e w' => e = .returned (.bool true) ∧ w = w' := (isName_any s w).mono fun _ _ ⟨h1, h2⟩ => ⟨RetB.is_true h1 h, h2⟩
theorem isName_no (s : ByteArray) (w : World) (h : ¬ NameOk s) : Calls Tryz.prog 94 #[.string s] w fun e w' => e = .returned (.bool false) ∧ w = w' := (isName_any s w).mono fun _ _ ⟨h1, h2⟩ => ⟨RetB.is_false h1 h, h2⟩
theorem valid_yes (A : Option Addr) (c : Nat) (rs : List Res) (w : World) (hC : resK.C w A rs.length rs) (hc : rs.length ≤ c) (h : Table rs) : Calls Tryz.prog 31 #[.slice A rs.length c] w fun e w' => e = .returned (.bool true) ∧ Below w.heap.size w w' := (table_valid A c rs w hC hc).mono fun _ _ ⟨h1, h2⟩ => ⟨RetB.is_true h1 h, h2⟩
theorem valid_no (A : Option Addr) (c : Nat) (rs : List Res) (w : World) (hC : resK.C w A rs.length rs) (hc : rs.length ≤ c) (h : ¬ Table rs) : Calls Tryz.prog 31 #[.slice A rs.length c] w fun e w' => e = .returned (.bool false) ∧ Below w.heap.size w w' := (table_valid A c rs w hC hc).mono fun _ _ ⟨h1, h2⟩ => ⟨RetB.is_false h1 h, h2⟩
theorem rising_yes (A : Option Addr) (c : Nat) (ids : List (List Int)) (w : World) (hC : idK.C w A ids.length ids) (hl : ids.length ≤ 64) (h : Rises ids) : Calls Tryz.prog 95 #[.slice A ids.length c] w fun e w' => e = .returned (.bool true) ∧ Below w.heap.size w w' := (rising_any A c ids w hC (by omega)).mono fun _ _ ⟨h1, h2⟩ => ⟨RetB.is_true h1 h, h2⟩
theorem rising_no (A : Option Addr) (c : Nat) (ids : List (List Int)) (w : World) (hC : idK.C w A ids.length ids) (hl : ids.length ≤ 64) (h : ¬ Rises ids) : Calls Tryz.prog 95 #[.slice A ids.length c] w fun e w' => e = .returned (.bool false) ∧ Below w.heap.size w w' := (rising_any A c ids w hC (by omega)).mono fun _ _ ⟨h1, h2⟩ => ⟨RetB.is_false h1 h, h2⟩
/-- A journal as a value: its lists lie there. -/
def jC (j : Jn) (A1 : Option Addr) (c1 : Nat) (A2 : Option Addr) (c2 : Nat) (A3 : Option Addr) (c3 : Nat) : List Value := [.string j.name, .int .i64 j.ent, .int .i64 j.idx, .slice A1 j.res.length c1, .slice A2 j.need.length c2, .slice A3 j.tab.length c3]
/-- .. and read there. -/
structure JAt (w : World) (j : Jn) (A1 : Option Addr) (c1 : Nat) (A2 : Option Addr) (c2 : Nat) (A3 : Option Addr) (c3 : Nat) : Prop where
  ok : JnOk j
  r1 : resK.C w A1 j.res.length j.res
  l1 : j.res.length ≤ c1
  r2 : idK.C w A2 j.need.length j.need
  l2 : j.need.length ≤ c2
  r3 : resK.C w A3 j.tab.length j.tab
  l3 : j.tab.length ≤ c3
theorem JAt.below {w w1 : World} {j : Jn} {A1 A2 A3 : Option Addr} {c1 c2 c3 : Nat} (h : JAt w j A1 c1 A2 c2 A3 c3) (hb : Below w.heap.size w w1) : JAt w1 j A1 c1 A2 c2 A3 c3 :=
  ⟨h.ok, Kd.C_below h.r1 hb, h.l1, Kd.C_below h.r2 hb, h.l2, Kd.C_below h.r3 hb, h.l3⟩
theorem isJournal_any (j : Jn) (A1 : Option Addr) (c1 : Nat) (A2 : Option Addr) (c2 : Nat) (A3 : Option Addr) (c3 : Nat) (w : World) (hJ : JAt w j A1 c1 A2 c2 A3 c3) :
    Calls Tryz.prog 48 #[.agg (jC j A1 c1 A2 c2 A3 c3).toArray] w fun e w' => RetB e (JnV j) ∧ Below w.heap.size w w' := by
  obtain ⟨W, hW⟩ : ∃ W, W = w.alloc (.cells (jC j A1 c1 A2 c2 A3 c3).toArray 60) := ⟨_, rfl⟩
  have hbk : W.heap[w.heap.size]? = some (.cells (jC j A1 c1 A2 c2 A3 c3).toArray 60 (0, 0)) := hW ▸ heap_alloc_new w _
  have hBW : Below w.heap.size w W := hW ▸ below_alloc (Below.refl _ _) _
  have q0 : ∀ u, Below W.heap.size W u → u.heap[w.heap.size]? = some (.cells (jC j A1 c1 A2 c2 A3 c3).toArray 60 (0, 0)) := fun u hu => blk_below hbk hu
  have c0 : W.cell? ⟨w.heap.size, 0, none⟩ = some (.string j.name) := (blk_cell hbk _).trans rfl
  have c1' : W.cell? ⟨w.heap.size, 1, none⟩ = some (.int .i64 j.ent) := (blk_cell hbk _).trans rfl
  have c2' : W.cell? ⟨w.heap.size, 2, none⟩ = some (.int .i64 j.idx) := (blk_cell hbk _).trans rfl
  have c3' : W.cell? ⟨w.heap.size, 3, none⟩ = some (.slice A1 j.res.length c1) := (blk_cell hbk _).trans rfl
  have c4' : W.cell? ⟨w.heap.size, 4, none⟩ = some (.slice A2 j.need.length c2) := (blk_cell hbk _).trans rfl
  have c5' : W.cell? ⟨w.heap.size, 5, none⟩ = some (.slice A3 j.tab.length c3) := (blk_cell hbk _).trans rfl
  have HW := Aside0.mk hW
  have HBW := Aside0.mk hBW
  have HBK := Aside0.mk hbk
  have HC1 := Aside0.mk (hJ.below hBW).r1
  have HC2 := Aside0.mk (hJ.below hBW).r2
  have HC3 := Aside0.mk (hJ.below hBW).r3
  have hc1 := hJ.l1
  have hc3 := hJ.l3
  clear hW hBW hbk hJ q0
  by_cases h0 : NameOk j.name
  · have H0 := Aside0.mk h0
    clear h0
    by_cases h1 : 0 ≤ j.ent
    · have H1 := Aside0.mk h1
      have b1 : decide (0 ≤ j.ent) = true := by simpa using h1
      clear h1
      by_cases h2 : j.ent ≤ 4294967295
      · have H2 := Aside0.mk h2
        have b2 : decide (j.ent ≤ 4294967295) = true := by simpa using h2
        clear h2
        by_cases h3 : 0 ≤ j.idx
        · have H3 := Aside0.mk h3
          have b3 : decide (0 ≤ j.idx) = true := by simpa using h3
          clear h3
          by_cases h4 : j.idx ≤ 4294967295
          · have H4 := Aside0.mk h4
            have b4 : decide (j.idx ≤ 4294967295) = true := by simpa using h4
            clear h4
            by_cases h5 : Table j.res
            · have H5 := Aside0.mk h5
              clear h5
              by_cases h6 : Table j.tab
              · have H6 := Aside0.mk h6
                clear h6
                by_cases h7 : j.need.length ≤ 64
                · have H7 := Aside0.mk h7
                  have b7 : decide (j.need.length ≤ 64) = true := by simpa using h7
                  have b7' : decide ((j.need.length : Int) ≤ 64) = true := by simp; omega
                  clear h7
                  by_cases h8 : Rises j.need
                  · have H8 := Aside0.mk h8
                    clear h8
                    go_enter Tryz.func48, Tryz.ntmps48
                    go_upto_region 1 with (fail)
                    rw [← HW.out]
                    go_wp2_with (first
                      | (go_at_call 94; refine (isName_yes j.name _ H0.out).mono ?_; rintro e w1 ⟨rfl, rfl⟩)
                      | (have X := HB1; go_at_call 31; refine (valid_yes A3 c3 j.tab _ (Kd.C_below HC3.out HB1.out) hc3 H6.out).mono ?_; rintro e w3 ⟨rfl, hb⟩; have t4 := pw_cell_below hb s4; have HB3 := Aside0.mk (below_step HB1.out hb); clear hb)
                      | (go_at_call 31; refine (valid_yes A1 c1 j.res _ HC1.out hc1 H5.out).mono ?_; rintro e w2 ⟨rfl, hb⟩; have s5 := pw_cell_below hb c5'; have s4 := pw_cell_below hb c4'; have HB1 := Aside0.mk hb; clear hb)
                      | (go_at_call 95; refine (rising_yes A2 c2 j.need _ (Kd.C_below HC2.out HB3.out) H7.out H8.out).mono ?_; rintro e w4 ⟨rfl, hb⟩; have HB4 := Aside0.mk (below_step HB3.out hb); clear hb)
                      | fail)
                    go_ret
                    exact ⟨.yes rfl ⟨H0.out, ⟨H1.out, H2.out⟩, ⟨H3.out, H4.out⟩, H5.out, H6.out, H7.out, H8.out⟩, HBW.out.trans ((HB4.out).mono HBW.out.size)⟩
                  · have H8 := Aside0.mk h8
                    clear h8
                    go_enter Tryz.func48, Tryz.ntmps48
                    go_upto_region 1 with (fail)
                    rw [← HW.out]
                    go_wp2_with (first
                      | (go_at_call 94; refine (isName_yes j.name _ H0.out).mono ?_; rintro e w1 ⟨rfl, rfl⟩)
                      | (have X := HB1; go_at_call 31; refine (valid_yes A3 c3 j.tab _ (Kd.C_below HC3.out HB1.out) hc3 H6.out).mono ?_; rintro e w3 ⟨rfl, hb⟩; have t4 := pw_cell_below hb s4; have HB3 := Aside0.mk (below_step HB1.out hb); clear hb)
                      | (go_at_call 31; refine (valid_yes A1 c1 j.res _ HC1.out hc1 H5.out).mono ?_; rintro e w2 ⟨rfl, hb⟩; have s5 := pw_cell_below hb c5'; have s4 := pw_cell_below hb c4'; have HB1 := Aside0.mk hb; clear hb)
                      | (go_at_call 95; refine (rising_no A2 c2 j.need _ (Kd.C_below HC2.out HB3.out) H7.out H8.out).mono ?_; rintro e w4 ⟨rfl, hb⟩; have HB4 := Aside0.mk (below_step HB3.out hb); clear hb)
                      | fail)
                    go_ret
                    exact ⟨.no rfl (fun V => absurd V.rise H8.out), HBW.out.trans ((HB4.out).mono HBW.out.size)⟩
                · have H7 := Aside0.mk h7
                  have b7 : decide (j.need.length ≤ 64) = false := by simpa using h7
                  have b7' : decide ((j.need.length : Int) ≤ 64) = false := by simp; omega
                  clear h7
                  go_enter Tryz.func48, Tryz.ntmps48
                  go_upto_region 1 with (fail)
                  rw [← HW.out]
                  go_wp2_with (first
                    | (go_at_call 94; refine (isName_yes j.name _ H0.out).mono ?_; rintro e w1 ⟨rfl, rfl⟩)
                    | (have X := HB1; go_at_call 31; refine (valid_yes A3 c3 j.tab _ (Kd.C_below HC3.out HB1.out) hc3 H6.out).mono ?_; rintro e w3 ⟨rfl, hb⟩; have t4 := pw_cell_below hb s4; have HB3 := Aside0.mk (below_step HB1.out hb); clear hb)
                    | (go_at_call 31; refine (valid_yes A1 c1 j.res _ HC1.out hc1 H5.out).mono ?_; rintro e w2 ⟨rfl, hb⟩; have s5 := pw_cell_below hb c5'; have s4 := pw_cell_below hb c4'; have HB1 := Aside0.mk hb; clear hb)
                    | fail)
                  go_ret
                  exact ⟨.no rfl (fun V => by have h1 := V.ent; have h2 := V.idx; have h3 := V.most; have h4 := H7.out; omega), HBW.out.trans ((HB3.out).mono HBW.out.size)⟩
              · have H6 := Aside0.mk h6
                clear h6
                go_enter Tryz.func48, Tryz.ntmps48
                go_upto_region 1 with (fail)
                rw [← HW.out]
                go_wp2_with (first
                  | (go_at_call 94; refine (isName_yes j.name _ H0.out).mono ?_; rintro e w1 ⟨rfl, rfl⟩)
                  | (have X := HB1; go_at_call 31; refine (valid_no A3 c3 j.tab _ (Kd.C_below HC3.out HB1.out) hc3 H6.out).mono ?_; rintro e w3 ⟨rfl, hb⟩; have t4 := pw_cell_below hb s4; have HB3 := Aside0.mk (below_step HB1.out hb); clear hb)
                  | (go_at_call 31; refine (valid_yes A1 c1 j.res _ HC1.out hc1 H5.out).mono ?_; rintro e w2 ⟨rfl, hb⟩; have s5 := pw_cell_below hb c5'; have s4 := pw_cell_below hb c4'; have HB1 := Aside0.mk hb; clear hb)
                  | fail)
                go_ret
                exact ⟨.no rfl (fun V => absurd V.tab H6.out), HBW.out.trans ((HB3.out).mono HBW.out.size)⟩
            · have H5 := Aside0.mk h5
              clear h5
              go_enter Tryz.func48, Tryz.ntmps48
              go_upto_region 1 with (fail)
              rw [← HW.out]
              go_wp2_with (first
                | (go_at_call 94; refine (isName_yes j.name _ H0.out).mono ?_; rintro e w1 ⟨rfl, rfl⟩)
                | (go_at_call 31; refine (valid_no A1 c1 j.res _ HC1.out hc1 H5.out).mono ?_; rintro e w2 ⟨rfl, hb⟩; have s5 := pw_cell_below hb c5'; have s4 := pw_cell_below hb c4'; have HB1 := Aside0.mk hb; clear hb)
                | fail)
              go_ret
              exact ⟨.no rfl (fun V => absurd V.res H5.out), HBW.out.trans ((HB1.out).mono HBW.out.size)⟩
          · have H4 := Aside0.mk h4
            have b4 : decide (j.idx ≤ 4294967295) = false := by simpa using h4
            clear h4
            go_enter Tryz.func48, Tryz.ntmps48
            go_upto_region 1 with (fail)
            rw [← HW.out]
            go_wp2_with (first
              | (go_at_call 94; refine (isName_yes j.name _ H0.out).mono ?_; rintro e w1 ⟨rfl, rfl⟩)
              | fail)
            go_ret
            exact ⟨.no rfl (fun V => by have h1 := V.ent; have h2 := V.idx; have h3 := V.most; have h4 := H4.out; omega), HBW.out.trans ((Below.refl _ _).mono HBW.out.size)⟩
        · have H3 := Aside0.mk h3
          have b3 : decide (0 ≤ j.idx) = false := by simpa using h3
          clear h3
          go_enter Tryz.func48, Tryz.ntmps48
          go_upto_region 1 with (fail)
          rw [← HW.out]
          go_wp2_with (first
            | (go_at_call 94; refine (isName_yes j.name _ H0.out).mono ?_; rintro e w1 ⟨rfl, rfl⟩)
            | fail)
          go_ret
          exact ⟨.no rfl (fun V => by have h1 := V.ent; have h2 := V.idx; have h3 := V.most; have h4 := H3.out; omega), HBW.out.trans ((Below.refl _ _).mono HBW.out.size)⟩
      · have H2 := Aside0.mk h2
        have b2 : decide (j.ent ≤ 4294967295) = false := by simpa using h2
        clear h2
        go_enter Tryz.func48, Tryz.ntmps48
        go_upto_region 1 with (fail)
        rw [← HW.out]
        go_wp2_with (first
          | (go_at_call 94; refine (isName_yes j.name _ H0.out).mono ?_; rintro e w1 ⟨rfl, rfl⟩)
          | fail)
        go_ret
        exact ⟨.no rfl (fun V => by have h1 := V.ent; have h2 := V.idx; have h3 := V.most; have h4 := H2.out; omega), HBW.out.trans ((Below.refl _ _).mono HBW.out.size)⟩
    · have H1 := Aside0.mk h1
      have b1 : decide (0 ≤ j.ent) = false := by simpa using h1
      clear h1
      go_enter Tryz.func48, Tryz.ntmps48
      go_upto_region 1 with (fail)
      rw [← HW.out]
      go_wp2_with (first
        | (go_at_call 94; refine (isName_yes j.name _ H0.out).mono ?_; rintro e w1 ⟨rfl, rfl⟩)
        | fail)
      go_ret
      exact ⟨.no rfl (fun V => by have h1 := V.ent; have h2 := V.idx; have h3 := V.most; have h4 := H1.out; omega), HBW.out.trans ((Below.refl _ _).mono HBW.out.size)⟩
  · have H0 := Aside0.mk h0
    clear h0
    go_enter Tryz.func48, Tryz.ntmps48
    go_upto_region 1 with (fail)
    rw [← HW.out]
    go_wp2_with (first
      | (go_at_call 94; refine (isName_no j.name _ H0.out).mono ?_; rintro e w1 ⟨rfl, rfl⟩)
      | fail)
    go_ret
    exact ⟨.no rfl (fun V => absurd V.name H0.out), HBW.out.trans ((Below.refl _ _).mono HBW.out.size)⟩
end Go.Proofs.YtdekmeanlcpenaaGreatDoor.Codec

namespace Go.Proofs.YtdekmeanlcpenaaGreatDoor.Codec
open Go.RowKit Go.Proofs.YtdekmeanlcpenaaGreatDoorW.PrintWords Go.Proofs.YtdekmeanlcpenaaGreatDoor.Mid Go.Proofs.YtdekmeanlcpenaaGreatDoor.Block
set_option maxHeartbeats 4000000
set_option maxRecDepth 100000
section
variable {W w w1 : World} {g k b : Nat} {D : Option Addr} {s s1 : RS}
theorem Rd.dlt (h : Rd w g D k s) : 0 < s.data.length → ∀ ad, D = some ad → ad.block < w.heap.size := fun h0 ad he => by
  obtain ⟨ad', e, hat⟩ := C_cells h.dat h0
  rw [he] at e
  injection e with e
  subst e
  exact hat.lt (fun e => by have := congrArg List.length e; rw [u8s_length] at this; simp at this; rw [this] at h0; exact absurd h0 (by simp))
/-- A reader lies below, and what is above changes. -/
theorem Rd.low (h : Rd w g D k s) (hg : g < b) (hD : 0 < s.data.length → ∀ ad, D = some ad → ad.block < b) (hb : Below b w w1) : Rd w1 g D k s :=
  ⟨(hb.block g hg).trans h.blk, Kd.C_foot_neS (S := fun k => b ≤ k) (fun h => h) h.dat (fun ad he h0 hk => by have := hD (by omega) ad he; omega) w1 ⟨hb.size, fun i _ hn => hb.block i (by omega)⟩, h.cap, h.off, h.at_, h.byt, h.len⟩
/-- A reader and a block of another that is written. -/
theorem Rd.beside {q : Nat} (h : Rd w g D k s) (hg : g ≠ q) (hD : 0 < s.data.length → ∀ ad, D = some ad → ad.block ≠ q) (hG : w.grownBy w1 (some q)) : Rd w1 g D k s :=
  ⟨blk_grown h.blk hG (fun e => hg (by injection e)), Kd.C_foot_neS (S := fun k => k = q) (fun h => h) h.dat (fun ad he h0 hk => hD (by omega) ad he hk) w1 ⟨hG.size, fun i hi hn => hG.block i hi (fun e => hn (by injection e))⟩, h.cap, h.off, h.at_, h.byt, h.len⟩
end
/-- A reader, and a row of one's own that is made while it reads: W is the world at the beginning, b where the row's blocks begin. -/
structure PS {α : Type} (d : Kd α) (e : TypeId) (W : World) (b g k : Nat) (D : Option Addr) (w : World) (s : RS) (v : Value) (xs : List α) : Prop where
  rd : Rd w g D k s
  row : d.R e w b (fun _ => True) v xs
  bel : Below W.heap.size W w
  old : W.heap.size ≤ g
  lt : g < b
  dlt : 0 < s.data.length → ∀ ad, D = some ad → ad.block < b
  bsz : b ≤ w.heap.size
section
variable {α : Type} {d : Kd α} {e : TypeId} {W w w1 : World} {g k b : Nat} {D : Option Addr} {s s1 : RS} {v v1 : Value} {xs ys : List α}
theorem PS.start (h : Rd w g D k s) (hb : Below W.heap.size W w) (ho : W.heap.size ≤ g) : PS d e W w.heap.size g k D w s (.slice none 0 0) [] :=
  ⟨h, Kd.R_nil _ _ _ _ _, hb, ho, h.lt, h.dlt, Nat.le_refl _⟩
theorem PS.below (h : PS d e W b g k D w s v xs) (hb : Below w.heap.size w w1) : PS d e W b g k D w1 s v xs :=
  ⟨h.rd.below hb, Kd.R_below h.row hb, h.bel.trans (hb.mono h.bel.size), h.old, h.lt, h.dlt, Nat.le_trans h.bsz hb.size⟩
theorem PS.step (hE : d.E = []) (h : PS d e W b g k D w s v xs) (hr : Rd w1 g D k s1) (hd : s1.data = s.data) (hG : w.grownBy w1 (some g)) : PS d e W b g k D w1 s1 v xs :=
  ⟨hr, Kd.R_grown1 h.row hE hG (fun e => by have := Kd.R_base h.row g e.symm; have := h.lt; omega), h.bel.grown hG h.bel.size (fun k hk => by cases hk; exact h.old), h.old, h.lt, by rw [hd]; exact h.dlt, Nat.le_trans h.bsz hG.size⟩
theorem PS.beside {q : Nat} (hE : d.E = []) (h : PS d e W b g k D w s v xs) (hq : b ≤ q) (hn : some q ≠ v.ownBlock) (hG : w.grownBy w1 (some q)) : PS d e W b g k D w1 s v xs :=
  ⟨h.rd.beside (by have := h.lt; omega) (fun h0 ad he => by have := h.dlt h0 ad he; omega) hG, Kd.R_grown1 h.row hE hG hn, h.bel.grown hG h.bel.size (fun k hk => by cases hk; have := h.old; have := h.lt; omega), h.old, h.lt, h.dlt, Nat.le_trans h.bsz hG.size⟩
theorem PS.put (h : PS d e W b g k D w s v xs) (hr : d.R e w1 b (fun _ => True) v1 ys) (hb : Below b w w1) : PS d e W b g k D w1 s v1 ys :=
  ⟨h.rd.low h.lt h.dlt hb, hr, h.bel.trans (hb.mono (by have := h.old; have := h.lt; omega)), h.old, h.lt, h.dlt, Nat.le_trans h.bsz hb.size⟩
theorem PS.new (h : PS d e W b g k D w s v xs) : b ≤ w.heap.size ∧ some w.heap.size ≠ v.ownBlock := ⟨h.bsz, fun e => absurd (Kd.R_lt h.row _ e.symm) (Nat.lt_irrefl _)⟩
end
end Go.Proofs.YtdekmeanlcpenaaGreatDoor.Codec

namespace Go.Proofs.YtdekmeanlcpenaaGreatDoor.Codec
open Go.RowKit Go.Proofs.YtdekmeanlcpenaaGreatDoorW.PrintWords Go.Proofs.YtdekmeanlcpenaaGreatDoor.Mid Go.Proofs.YtdekmeanlcpenaaGreatDoor.Block
set_option maxHeartbeats 4000000
set_option maxRecDepth 100000
theorem codeNum_to (A : Option Addr) (c : Nat) (l : List Int) (x kk er : Nat) (w : World) (hC : Kd.C (Kd.int .u8) w A l.length l) (hb : Byt l) (hl : l.length ≤ 1000000000000) (hr : numR l 0 0 1 = (x, kk, er)) :
    Calls Tryz.prog 150 #[.slice A l.length c] w fun e w' => e = .returned (.tuple #[.int .i64 x, .int .i64 kk, .int .i64 er]) ∧ Below w.heap.size w w' :=
  (codeNum_any A c l w hC hb hl).mono fun e w' ⟨he, hw⟩ => ⟨by rw [he, hr], hw ▸ Below.refl _ _⟩
theorem rnum_yes (W : World) (g k : Nat) (D : Option Addr) (s : RS) (h : Rd W g D k s) (h0 : s.code = 0) :
    Calls Tryz.prog 112 #[.pointer (some ⟨g, 0, none⟩)] W (RetNum W g D k (s.num.1 : Nat) s.num.2) := by
  obtain ⟨dt, a, cd, pl⟩ := s
  simp only at h0
  subst h0
  have hal := h.at_
  have hll := h.len
  have hcp := h.cap
  simp only at hal hll hcp
  have c2 : W.cell? ⟨g, 2, none⟩ = some (.slice D dt.length k) := (blk_cell h.blk _).trans rfl
  have c3 : W.cell? ⟨g, 3, none⟩ = some (.int .i64 a) := (blk_cell h.blk _).trans rfl
  have g2 : ∀ x : CW (Since W), x.w.cell? ⟨g, 2, none⟩ = some (.slice D dt.length k) := fun x => pw_cell_below x.h c2
  have g3 : ∀ x : CW (Since W), x.w.cell? ⟨g, 3, none⟩ = some (.int .i64 a) := fun x => pw_cell_below x.h c3
  obtain ⟨i5, hi5, hs5⟩ := info5s
  obtain ⟨A', hcut, hA'⟩ := print_cut (P := Tryz.prog) 47 5 .i64 Tryz.underlying47 hi5 hs5 D dt.length k a hal
  obtain ⟨l, hl⟩ : ∃ l, dt.drop a = l := ⟨_, rfl⟩
  have hll2 : dt.length - a = l.length := by rw [← hl, List.length_drop]
  rw [hll2] at hcut
  have HCl : Aside0 (Kd.C (Kd.int .u8) W A' l.length l) := ⟨by
    have h1 := hA' W .u8 dt hcp (Kd.reads_of_C (enc := Value.int .u8) (d := (0 : Int)) (h1 := fun _ => rfl) h.dat)
    rw [hll2, hl] at h1
    exact Kd.C_of_reads (enc := Value.int .u8) (d := (0 : Int)) (h1 := fun _ => rfl) h1⟩
  have HBl : Aside0 (Byt l) := ⟨by rw [← hl]; exact byt_drop h.byt _⟩
  have hlen : l.length ≤ 1000000000000 := by omega
  obtain ⟨⟨x, kk, er⟩, hr⟩ : ∃ r, numR l 0 0 1 = r := ⟨_, rfl⟩
  have HR := Aside0.mk hr
  have hrest : RS.rest ⟨dt, a, 0, pl⟩ = l := hl
  have HT : Aside0 (RS.rest ⟨dt, a, 0, pl⟩ = l ∧ dt.length - a = l.length) := ⟨hrest, hll2⟩
  have H := Aside0.mk h
  clear h hA' hr hi5 hs5 hl hll2 hrest
  by_cases he : er = 0
  · subst he
    have hkl := numR_le l 0 0 1 x kk (by omega) HR.out
    have hk1 : (a : Int) + (kk : Int) ≤ 1000000000000 := by have := HT.out.2; omega
    have hka : a + kk ≤ dt.length := by have := HT.out.2; omega
    have hnum : RS.num ⟨dt, a, 0, pl⟩ = (x, RS.on ⟨dt, a, 0, pl⟩ kk) := by rw [RS.num, if_neg (by simp), HT.out.1, HR.out]; rfl
    rw [hnum]
    clear hnum
    go_enter Tryz.func112, Tryz.ntmps112
    go_upto_region 3 with (go_at_call 148; refine (goes_yes H.out rfl).mono ?_; rintro e w1 ⟨rfl, rfl⟩)
    refine wp_region_S (Since W) (by kernel_rfl) (by kernel_rfl) (since_drew W) ?_
    repeat (go_big_quiet_step (first | (go_at_call 150; refine calls_since (codeNum_to A' _ l _ _ _ _ (Kd.C_below HCl.out (CW.h _)) HBl.out hlen HR.out))))
    refine wpQuiet_nil ?_
    rintro w5 ⟨x5, e5⟩
    have hb5' : Below W.heap.size W w5 := e5 ▸ x5.h
    clear e5 x5 hcut
    have d3 : w5.cell? ⟨g, 3, none⟩ = some (.int .i64 a) := pw_cell_below hb5' c3
    have H5 := Aside0.mk (H.out.below hb5')
    have HB5 := Aside0.mk hb5'
    clear g2 g3 c2 c3 hb5' H
    have hka1 : (a : Int) ≤ (a : Int) + (kk : Int) := by omega
    have f3 : w5.frozen? ⟨g, 3, none⟩ = false := blk_frozen H5.out.blk _
    go_wp2
    go_ret
    have hb6 : (w5.setCell ⟨g, 3, none⟩ (.int .i64 ((a : Int) + (kk : Int)))).heap[g]? = some (.cells #[.int .i64 ((0 : Nat) : Int), .int .i64 pl, .slice D dt.length k, .int .i64 ((a + kk : Nat) : Int)] 265 (0, 0)) := blk_set H5.out.blk 3 _
    exact ⟨rfl, H5.out.put rfl hka (grown_set w5 ⟨g, 3, none⟩ _) hb6, (Mid.grown_of_below HB5.out).trans (grown_set w5 ⟨g, 3, none⟩ _)⟩
  · have hz := numR_zero l 0 0 1 x kk er HR.out he
    obtain ⟨rfl, rfl⟩ := hz
    have hne : ((er : Int) == 0) = false := by rw [beq_eq_false_iff_ne]; omega
    have hne2 : ((er : Int) != 0) = true := by rw [bne, hne]; rfl
    have hnum : RS.num ⟨dt, a, 0, pl⟩ = (0, RS.bad ⟨dt, a, 0, pl⟩ er) := by rw [RS.num, if_neg (by simp), HT.out.1, HR.out]; exact if_pos he
    rw [hnum]
    clear hnum he
    go_enter Tryz.func112, Tryz.ntmps112
    go_upto_region 3 with (go_at_call 148; refine (goes_yes H.out rfl).mono ?_; rintro e w1 ⟨rfl, rfl⟩)
    refine wp_region_S (Since W) (by kernel_rfl) (by kernel_rfl) (since_drew W) ?_
    repeat (go_big_quiet_step (first | (go_at_call 150; refine calls_since (codeNum_to A' _ l _ _ _ _ (Kd.C_below HCl.out (CW.h _)) HBl.out hlen HR.out))))
    refine wpQuiet_nil ?_
    rintro w5 ⟨x5, e5⟩
    have hb5' : Below W.heap.size W w5 := e5 ▸ x5.h
    clear e5 x5 hcut
    have d3 : w5.cell? ⟨g, 3, none⟩ = some (.int .i64 a) := pw_cell_below hb5' c3
    have H5 := Aside0.mk (H.out.below hb5')
    have HB5 := Aside0.mk hb5'
    clear g2 g3 c2 c3 hb5' H
    have HS : Aside0 (w5.drew.cell? ⟨g, 3, none⟩ = some (.int .i64 a)) := ⟨d3⟩
    go_upto_region 5 with (fail)
    refine wp_region_held (S := fun u => u.cell? ⟨g, 3, none⟩ = some (.int .i64 a)) (by kernel_rfl) ?_
    change wpAnyH _ _ _ _ _ _ _ _ w5.drew
    refine wpAnyH_take (i := 0) (v := ?_) rfl (by kernel_rfl) (by kernel_rfl) (by kernel_rfl) (fun _ _ _ h => h) (Or.inl ⟨by rfl, ?_⟩) HS.out ?_
    rotate_left
    · (intro wG hSw; have q3 : wG.cell? ⟨g, 3, none⟩ = some (.int .i64 a) := hSw; go_simp; try with_reducible rfl)
    try simp only [Act.put, List.setIfInBounds_toArray, List.set]
    refine wpAnyH_take (i := 1) (v := ?_) rfl (by kernel_rfl) (by kernel_rfl) (by kernel_rfl) (fun _ _ _ h => h) (Or.inl ⟨by rfl, ?_⟩) HS.out ?_
    rotate_left
    · (intro wG hSw; have q3 : wG.cell? ⟨g, 3, none⟩ = some (.int .i64 a) := hSw; go_simp; try with_reducible rfl)
    try simp only [Act.put, List.setIfInBounds_toArray, List.set]
    refine wpAnyH_take (i := 2) (v := ?_) rfl (by kernel_rfl) (by kernel_rfl) (by kernel_rfl) (fun _ _ _ h => h) (Or.inl ⟨by rfl, ?_⟩) HS.out ?_
    rotate_left
    · (intro wG hSw; have q3 : wG.cell? ⟨g, 3, none⟩ = some (.int .i64 a) := hSw; go_simp; try with_reducible rfl)
    try simp only [Act.put, List.setIfInBounds_toArray, List.set]
    refine wpAnyH_take (i := 3) (v := ?_) rfl (by kernel_rfl) (by kernel_rfl) (by kernel_rfl) (fun _ _ _ h => h) (Or.inl ⟨by rfl, ?_⟩) HS.out ?_
    rotate_left
    · (intro wG hSw; have q3 : wG.cell? ⟨g, 3, none⟩ = some (.int .i64 a) := hSw; go_simp; try with_reducible rfl)
    try simp only [Act.put, List.setIfInBounds_toArray, List.set]
    refine wpAnyH_take (i := 4) (v := ?_) rfl (by kernel_rfl) (by kernel_rfl) (by kernel_rfl) (fun _ _ _ h => h) (Or.inl ⟨by rfl, ?_⟩) HS.out ?_
    rotate_left
    · (intro wG hSw; have q3 : wG.cell? ⟨g, 3, none⟩ = some (.int .i64 a) := hSw; go_simp; try with_reducible rfl)
    try simp only [Act.put, List.setIfInBounds_toArray, List.set]
    refine wpAnyH_take (i := 5) (v := ?_) rfl (by kernel_rfl) (by kernel_rfl) (by kernel_rfl) (fun _ _ _ h => h) (Or.inl ⟨by rfl, ?_⟩) HS.out ?_
    rotate_left
    · (intro wG hSw; have q3 : wG.cell? ⟨g, 3, none⟩ = some (.int .i64 a) := hSw; go_simp; try with_reducible rfl)
    try simp only [Act.put, List.setIfInBounds_toArray, List.set]
    refine wpAnyH_take (i := 6) (v := ?_) rfl (by kernel_rfl) (by kernel_rfl) (by kernel_rfl) (fun _ _ _ h => h) (Or.inl ⟨by rfl, ?_⟩) HS.out ?_
    rotate_left
    · (intro wG hSw; have q3 : wG.cell? ⟨g, 3, none⟩ = some (.int .i64 a) := hSw; go_simp; try with_reducible rfl)
    try simp only [Act.put, List.setIfInBounds_toArray, List.set]
    refine wpAnyH_take (i := 7) (v := ?_) rfl (by kernel_rfl) (by kernel_rfl) (by kernel_rfl) (fun _ _ _ h => h) (Or.inl ⟨by rfl, ?_⟩) HS.out ?_
    rotate_left
    · (intro wG hSw; have q3 : wG.cell? ⟨g, 3, none⟩ = some (.int .i64 a) := hSw; go_simp; try with_reducible rfl)
    try simp only [Act.put, List.setIfInBounds_toArray, List.set]
    refine heldOne (i := 8) (by kernel_rfl) rfl (by rfl) ?_
    go_simp
    go_at_call 142
    refine (spoil_any g er a (.int .i64 pl) (.slice D dt.length k) (.int .i64 a) _ (blk_drew H5.out.blk)).mono ?_
    rintro e w6 ⟨rfl, hb6, hg6⟩
    refine ⟨(blk_cell hb6 _).trans rfl, ?_⟩
    have HG6 : Aside0 (W.grownBy w6 (some g)) := ⟨(Mid.grown_of_below (below_drew HB5.out)).trans hg6⟩
    have H6 : Aside0 (Rd w6 g D k (RS.bad ⟨dt, a, 0, pl⟩ er)) := ⟨(H5.out.below (below_drew (Below.refl _ _))).put rfl H5.out.at_ hg6 hb6⟩
    have e3 : w6.cell? ⟨g, 3, none⟩ = some (.int .i64 a) := (blk_cell hb6 _).trans rfl
    have f3 : w6.frozen? ⟨g, 3, none⟩ = false := blk_frozen hb6 _
    have HB6 := Aside0.mk hb6
    clear hb6 hg6 d3
    try simp only [Act.put, List.setIfInBounds_toArray, List.set]
    refine wpAnyH_done (by kernel_rfl) ?_ _
    go_wp2
    go_ret
    exact ⟨rfl, H6.out.put rfl H6.out.at_ (grown_set w6 ⟨g, 3, none⟩ _) (blk_set HB6.out 3 _), World.grownBy.trans HG6.out (grown_set w6 ⟨g, 3, none⟩ _)⟩
theorem rnum_any (W : World) (g k : Nat) (D : Option Addr) (s : RS) (h : Rd W g D k s) :
    Calls Tryz.prog 112 #[.pointer (some ⟨g, 0, none⟩)] W (RetNum W g D k (s.num.1 : Nat) s.num.2) := by
  by_cases h0 : s.code = 0
  · exact rnum_yes W g k D s h h0
  · rw [show s.num = (0, s) by rw [RS.num, if_pos h0]]
    have H := Aside0.mk h
    have H0 := Aside0.mk h0
    clear h h0
    go_enter Tryz.func112, Tryz.ntmps112
    go_wp2_with (first
      | (go_at_call 148; refine (goes_no H.out H0.out).mono ?_; rintro e w1 ⟨rfl, rfl⟩)
      | fail)
    go_ret
    exact ⟨rfl, H.out, World.grownBy.refl W _⟩
end Go.Proofs.YtdekmeanlcpenaaGreatDoor.Codec

namespace Go.Proofs.YtdekmeanlcpenaaGreatDoor.Codec
open Go.RowKit Go.Proofs.YtdekmeanlcpenaaGreatDoorW.PrintWords Go.Proofs.YtdekmeanlcpenaaGreatDoor.Mid Go.Proofs.YtdekmeanlcpenaaGreatDoor.Block
set_option maxHeartbeats 8000000
set_option maxRecDepth 100000
theorem text_un (s : RS) (h0 : s.code = 0) (x kk er most : Nat) (l : List Int) (hl : s.rest = l) (hr : numR l 0 0 1 = (x, kk, er)) : s.text most = if er ≠ 0 then ([], s.bad er) else if most < x then ([], s.bad 2) else if s.data.length - s.at_ - kk < x then ([], s.bad 10) else ((l.drop kk).take x, s.on (kk + x)) := by
  rw [RS.text, if_neg (by simp [h0]), hl, hr]
theorem rtext_yes (W : World) (g k : Nat) (D : Option Addr) (s : RS) (most : Nat) (h : Rd W g D k s) (h0 : s.code = 0) (hm : most ≤ 1000000000000) :
    Calls Tryz.prog 110 #[.pointer (some ⟨g, 0, none⟩), .int .i64 most] W (RetRaw W g D k (s.text most).1 (s.text most).2) := by
  obtain ⟨dt, a, cd, pl⟩ := s
  simp only at h0
  subst h0
  have hal := h.at_
  have hll := h.len
  have hcp := h.cap
  simp only at hal hll hcp
  have c2 : W.cell? ⟨g, 2, none⟩ = some (.slice D dt.length k) := (blk_cell h.blk _).trans rfl
  have c3 : W.cell? ⟨g, 3, none⟩ = some (.int .i64 a) := (blk_cell h.blk _).trans rfl
  have g2 : ∀ x : CW (Since W), x.w.cell? ⟨g, 2, none⟩ = some (.slice D dt.length k) := fun x => pw_cell_below x.h c2
  have g3 : ∀ x : CW (Since W), x.w.cell? ⟨g, 3, none⟩ = some (.int .i64 a) := fun x => pw_cell_below x.h c3
  obtain ⟨i5, hi5, hs5⟩ := info5s
  obtain ⟨A', hcut, hA'⟩ := print_cut (P := Tryz.prog) 47 5 .i64 Tryz.underlying47 hi5 hs5 D dt.length k a hal
  obtain ⟨l, hl⟩ : ∃ l, dt.drop a = l := ⟨_, rfl⟩
  have hll2 : dt.length - a = l.length := by rw [← hl, List.length_drop]
  rw [hll2] at hcut
  have HCl : Aside0 (Kd.C (Kd.int .u8) W A' l.length l) := ⟨by
    have h1 := hA' W .u8 dt hcp (Kd.reads_of_C (enc := Value.int .u8) (d := (0 : Int)) (h1 := fun _ => rfl) h.dat)
    rw [hll2, hl] at h1
    exact Kd.C_of_reads (enc := Value.int .u8) (d := (0 : Int)) (h1 := fun _ => rfl) h1⟩
  have HBl : Aside0 (Byt l) := ⟨by rw [← hl]; exact byt_drop h.byt _⟩
  have hlen : l.length ≤ 1000000000000 := by omega
  obtain ⟨⟨x, kk, er⟩, hr⟩ : ∃ r, numR l 0 0 1 = r := ⟨_, rfl⟩
  have HR := Aside0.mk hr
  have hrest : RS.rest ⟨dt, a, 0, pl⟩ = l := hl
  have HT : Aside0 (RS.rest ⟨dt, a, 0, pl⟩ = l ∧ dt.length - a = l.length) := ⟨hrest, hll2⟩
  have H := Aside0.mk h
  clear h hA' hr hi5 hs5 hl hll2 hrest
  have hm0 : ¬ (most : Int) < 0 := by omega
  rw [text_un ⟨dt, a, 0, pl⟩ rfl x kk er most l HT.out.1 HR.out]
  by_cases he : er = 0
  · subst he
    rw [if_neg (by simp)]
    have hkl := numR_le l 0 0 1 x kk (by omega) HR.out
    have hka : a + kk ≤ dt.length := by have := HT.out.2; omega
    have hxm : (x : Int) ≤ 2147483647 := by omega
    have hkk : (kk : Int) ≤ 5 := by omega
    have hal1 : (a : Int) ≤ (dt.length : Int) := by omega
    have hll1 : (dt.length : Int) ≤ 1000000000000 := by omega
    have hka1 : (a : Int) + (kk : Int) ≤ (dt.length : Int) := by omega
    clear hkl
    by_cases hB : most < x
    · rw [if_pos hB]
      have hB1 : (most : Int) < (x : Int) := by omega
      clear hB
      go_enter Tryz.func110, Tryz.ntmps110
      go_upto_region 6 with (go_at_call 148; refine (goes_yes H.out rfl).mono ?_; rintro e w1 ⟨rfl, rfl⟩)
      refine wp_region_S (Since W) (by kernel_rfl) (by kernel_rfl) (since_drew W) ?_
      repeat (go_big_quiet_step (first | (go_at_call 150; refine calls_since (codeNum_to A' _ l _ _ _ _ (Kd.C_below HCl.out (CW.h _)) HBl.out hlen HR.out))))
      refine wpQuiet_nil ?_
      rintro w5 ⟨x5, e5⟩
      have hb5' : Below W.heap.size W w5 := e5 ▸ x5.h
      clear e5 x5 hcut g2 g3
      have H5 := Aside0.mk (H.out.below hb5')
      have HB5 := Aside0.mk hb5'
      have g2 : ∀ x : CW (Since w5), x.w.cell? ⟨g, 2, none⟩ = some (.slice D dt.length k) := fun x => pw_cell_below x.h (pw_cell_below hb5' c2)
      have g3 : ∀ x : CW (Since w5), x.w.cell? ⟨g, 3, none⟩ = some (.int .i64 a) := fun x => pw_cell_below x.h (pw_cell_below hb5' c3)
      clear hb5' H c2 c3
      go_upto_region 7 with (fail)
      refine wp_region_S (Since w5) (by kernel_rfl) (by kernel_rfl) (since_drew w5) ?_
      repeat (go_big_quiet_step (fail))
      refine wpQuiet_nil ?_
      rintro w6 ⟨x6, e6⟩
      have hb6' : Below w5.heap.size w5 w6 := e6 ▸ x6.h
      clear e6 x6 g2 g3
      have H6 := Aside0.mk (H5.out.below hb6')
      have HB6 := Aside0.mk (below_step HB5.out hb6')
      have d3 : w6.cell? ⟨g, 3, none⟩ = some (.int .i64 a) := (blk_cell H6.out.blk _).trans rfl
      clear hb6' HB5 H5
      have HS : Aside0 (w6.drew.cell? ⟨g, 3, none⟩ = some (.int .i64 a)) := ⟨d3⟩
      go_upto_region 13 with (fail)
      refine wp_region_held (S := fun u => u.cell? ⟨g, 3, none⟩ = some (.int .i64 a)) (by kernel_rfl) ?_
      change wpAnyH _ _ _ _ _ _ _ _ w6.drew
      refine wpAnyH_take (i := 0) (v := ?_) rfl (by kernel_rfl) (by kernel_rfl) (by kernel_rfl) (fun _ _ _ h => h) (Or.inl ⟨by rfl, ?_⟩) HS.out ?_
      rotate_left
      · (intro wG hSw; have q3 : wG.cell? ⟨g, 3, none⟩ = some (.int .i64 a) := hSw; go_simp; try with_reducible rfl)
      try simp only [Act.put, List.setIfInBounds_toArray, List.set]
      refine wpAnyH_take (i := 1) (v := ?_) rfl (by kernel_rfl) (by kernel_rfl) (by kernel_rfl) (fun _ _ _ h => h) (Or.inl ⟨by rfl, ?_⟩) HS.out ?_
      rotate_left
      · (intro wG hSw; have q3 : wG.cell? ⟨g, 3, none⟩ = some (.int .i64 a) := hSw; go_simp; try with_reducible rfl)
      try simp only [Act.put, List.setIfInBounds_toArray, List.set]
      refine wpAnyH_take (i := 2) (v := ?_) rfl (by kernel_rfl) (by kernel_rfl) (by kernel_rfl) (fun _ _ _ h => h) (Or.inl ⟨by rfl, ?_⟩) HS.out ?_
      rotate_left
      · (intro wG hSw; have q3 : wG.cell? ⟨g, 3, none⟩ = some (.int .i64 a) := hSw; go_simp; try with_reducible rfl)
      try simp only [Act.put, List.setIfInBounds_toArray, List.set]
      refine wpAnyH_take (i := 3) (v := ?_) rfl (by kernel_rfl) (by kernel_rfl) (by kernel_rfl) (fun _ _ _ h => h) (Or.inl ⟨by rfl, ?_⟩) HS.out ?_
      rotate_left
      · (intro wG hSw; have q3 : wG.cell? ⟨g, 3, none⟩ = some (.int .i64 a) := hSw; go_simp; try with_reducible rfl)
      try simp only [Act.put, List.setIfInBounds_toArray, List.set]
      refine wpAnyH_take (i := 4) (v := ?_) rfl (by kernel_rfl) (by kernel_rfl) (by kernel_rfl) (fun _ _ _ h => h) (Or.inl ⟨by rfl, ?_⟩) HS.out ?_
      rotate_left
      · (intro wG hSw; have q3 : wG.cell? ⟨g, 3, none⟩ = some (.int .i64 a) := hSw; go_simp; try with_reducible rfl)
      try simp only [Act.put, List.setIfInBounds_toArray, List.set]
      refine wpAnyH_take (i := 5) (v := ?_) rfl (by kernel_rfl) (by kernel_rfl) (by kernel_rfl) (fun _ _ _ h => h) (Or.inl ⟨by rfl, ?_⟩) HS.out ?_
      rotate_left
      · (intro wG hSw; have q3 : wG.cell? ⟨g, 3, none⟩ = some (.int .i64 a) := hSw; go_simp; try with_reducible rfl)
      try simp only [Act.put, List.setIfInBounds_toArray, List.set]
      refine wpAnyH_take (i := 6) (v := ?_) rfl (by kernel_rfl) (by kernel_rfl) (by kernel_rfl) (fun _ _ _ h => h) (Or.inl ⟨by rfl, ?_⟩) HS.out ?_
      rotate_left
      · (intro wG hSw; have q3 : wG.cell? ⟨g, 3, none⟩ = some (.int .i64 a) := hSw; go_simp; try with_reducible rfl)
      try simp only [Act.put, List.setIfInBounds_toArray, List.set]
      refine wpAnyH_take (i := 7) (v := ?_) rfl (by kernel_rfl) (by kernel_rfl) (by kernel_rfl) (fun _ _ _ h => h) (Or.inl ⟨by rfl, ?_⟩) HS.out ?_
      rotate_left
      · (intro wG hSw; have q3 : wG.cell? ⟨g, 3, none⟩ = some (.int .i64 a) := hSw; go_simp; try with_reducible rfl)
      try simp only [Act.put, List.setIfInBounds_toArray, List.set]
      refine heldOne (i := 8) (by kernel_rfl) rfl (by rfl) ?_
      go_simp
      go_at_call 142
      refine (spoil_any g 2 a (.int .i64 pl) (.slice D dt.length k) (.int .i64 a) _ (blk_drew H6.out.blk)).mono ?_
      rintro e w7 ⟨rfl, hb7, hg7⟩
      refine ⟨(blk_cell hb7 _).trans rfl, ?_⟩
      have HG7 : Aside0 (W.grownBy w7 (some g)) := ⟨(Mid.grown_of_below (below_drew HB6.out)).trans hg7⟩
      have H7 : Aside0 (Rd w7 g D k (RS.bad ⟨dt, a, 0, pl⟩ 2)) := ⟨(H6.out.below (below_drew (Below.refl _ _))).put rfl H6.out.at_ hg7 hb7⟩
      clear hb7 hg7 d3
      try simp only [Act.put, List.setIfInBounds_toArray, List.set]
      refine wpAnyH_done (by kernel_rfl) ?_ _
      go_wp2
      go_ret
      exact ⟨none, 0, rfl, Kd.R_nil _ _ _ _ _, H7.out, HG7.out⟩
    · rw [if_neg hB]
      have hB1 : ¬ (most : Int) < (x : Int) := by omega
      by_cases hC : dt.length - a - kk < x
      · rw [if_pos hC]
        have hC1 : (dt.length : Int) - (a : Int) - (kk : Int) < (x : Int) := by omega
        clear hB hC
        go_enter Tryz.func110, Tryz.ntmps110
        go_upto_region 6 with (go_at_call 148; refine (goes_yes H.out rfl).mono ?_; rintro e w1 ⟨rfl, rfl⟩)
        refine wp_region_S (Since W) (by kernel_rfl) (by kernel_rfl) (since_drew W) ?_
        repeat (go_big_quiet_step (first | (go_at_call 150; refine calls_since (codeNum_to A' _ l _ _ _ _ (Kd.C_below HCl.out (CW.h _)) HBl.out hlen HR.out))))
        refine wpQuiet_nil ?_
        rintro w5 ⟨x5, e5⟩
        have hb5' : Below W.heap.size W w5 := e5 ▸ x5.h
        clear e5 x5 hcut g2 g3
        have H5 := Aside0.mk (H.out.below hb5')
        have HB5 := Aside0.mk hb5'
        have g2 : ∀ x : CW (Since w5), x.w.cell? ⟨g, 2, none⟩ = some (.slice D dt.length k) := fun x => pw_cell_below x.h (pw_cell_below hb5' c2)
        have g3 : ∀ x : CW (Since w5), x.w.cell? ⟨g, 3, none⟩ = some (.int .i64 a) := fun x => pw_cell_below x.h (pw_cell_below hb5' c3)
        clear hb5' H c2 c3
        go_upto_region 7 with (fail)
        refine wp_region_S (Since w5) (by kernel_rfl) (by kernel_rfl) (since_drew w5) ?_
        repeat (go_big_quiet_step (fail))
        refine wpQuiet_nil ?_
        rintro w6 ⟨x6, e6⟩
        have hb6' : Below w5.heap.size w5 w6 := e6 ▸ x6.h
        clear e6 x6 g2 g3
        have H6 := Aside0.mk (H5.out.below hb6')
        have HB6 := Aside0.mk (below_step HB5.out hb6')
        have d3 : w6.cell? ⟨g, 3, none⟩ = some (.int .i64 a) := (blk_cell H6.out.blk _).trans rfl
        clear hb6' HB5 H5
        have HS : Aside0 (w6.drew.cell? ⟨g, 3, none⟩ = some (.int .i64 a)) := ⟨d3⟩
        go_upto_region 13 with (fail)
        refine wp_region_held (S := fun u => u.cell? ⟨g, 3, none⟩ = some (.int .i64 a)) (by kernel_rfl) ?_
        change wpAnyH _ _ _ _ _ _ _ _ w6.drew
        refine wpAnyH_take (i := 0) (v := ?_) rfl (by kernel_rfl) (by kernel_rfl) (by kernel_rfl) (fun _ _ _ h => h) (Or.inl ⟨by rfl, ?_⟩) HS.out ?_
        rotate_left
        · (intro wG hSw; have q3 : wG.cell? ⟨g, 3, none⟩ = some (.int .i64 a) := hSw; go_simp; try with_reducible rfl)
        try simp only [Act.put, List.setIfInBounds_toArray, List.set]
        refine wpAnyH_take (i := 1) (v := ?_) rfl (by kernel_rfl) (by kernel_rfl) (by kernel_rfl) (fun _ _ _ h => h) (Or.inl ⟨by rfl, ?_⟩) HS.out ?_
        rotate_left
        · (intro wG hSw; have q3 : wG.cell? ⟨g, 3, none⟩ = some (.int .i64 a) := hSw; go_simp; try with_reducible rfl)
        try simp only [Act.put, List.setIfInBounds_toArray, List.set]
        refine wpAnyH_take (i := 2) (v := ?_) rfl (by kernel_rfl) (by kernel_rfl) (by kernel_rfl) (fun _ _ _ h => h) (Or.inl ⟨by rfl, ?_⟩) HS.out ?_
        rotate_left
        · (intro wG hSw; have q3 : wG.cell? ⟨g, 3, none⟩ = some (.int .i64 a) := hSw; go_simp; try with_reducible rfl)
        try simp only [Act.put, List.setIfInBounds_toArray, List.set]
        refine wpAnyH_take (i := 3) (v := ?_) rfl (by kernel_rfl) (by kernel_rfl) (by kernel_rfl) (fun _ _ _ h => h) (Or.inl ⟨by rfl, ?_⟩) HS.out ?_
        rotate_left
        · (intro wG hSw; have q3 : wG.cell? ⟨g, 3, none⟩ = some (.int .i64 a) := hSw; go_simp; try with_reducible rfl)
        try simp only [Act.put, List.setIfInBounds_toArray, List.set]
        refine wpAnyH_take (i := 4) (v := ?_) rfl (by kernel_rfl) (by kernel_rfl) (by kernel_rfl) (fun _ _ _ h => h) (Or.inl ⟨by rfl, ?_⟩) HS.out ?_
        rotate_left
        · (intro wG hSw; have q3 : wG.cell? ⟨g, 3, none⟩ = some (.int .i64 a) := hSw; go_simp; try with_reducible rfl)
        try simp only [Act.put, List.setIfInBounds_toArray, List.set]
        refine wpAnyH_take (i := 5) (v := ?_) rfl (by kernel_rfl) (by kernel_rfl) (by kernel_rfl) (fun _ _ _ h => h) (Or.inl ⟨by rfl, ?_⟩) HS.out ?_
        rotate_left
        · (intro wG hSw; have q3 : wG.cell? ⟨g, 3, none⟩ = some (.int .i64 a) := hSw; go_simp; try with_reducible rfl)
        try simp only [Act.put, List.setIfInBounds_toArray, List.set]
        refine wpAnyH_take (i := 6) (v := ?_) rfl (by kernel_rfl) (by kernel_rfl) (by kernel_rfl) (fun _ _ _ h => h) (Or.inl ⟨by rfl, ?_⟩) HS.out ?_
        rotate_left
        · (intro wG hSw; have q3 : wG.cell? ⟨g, 3, none⟩ = some (.int .i64 a) := hSw; go_simp; try with_reducible rfl)
        try simp only [Act.put, List.setIfInBounds_toArray, List.set]
        refine wpAnyH_take (i := 7) (v := ?_) rfl (by kernel_rfl) (by kernel_rfl) (by kernel_rfl) (fun _ _ _ h => h) (Or.inl ⟨by rfl, ?_⟩) HS.out ?_
        rotate_left
        · (intro wG hSw; have q3 : wG.cell? ⟨g, 3, none⟩ = some (.int .i64 a) := hSw; go_simp; try with_reducible rfl)
        try simp only [Act.put, List.setIfInBounds_toArray, List.set]
        refine heldOne (i := 8) (by kernel_rfl) rfl (by rfl) ?_
        go_simp
        go_at_call 142
        refine (spoil_any g 10 a (.int .i64 pl) (.slice D dt.length k) (.int .i64 a) _ (blk_drew H6.out.blk)).mono ?_
        rintro e w7 ⟨rfl, hb7, hg7⟩
        refine ⟨(blk_cell hb7 _).trans rfl, ?_⟩
        have HG7 : Aside0 (W.grownBy w7 (some g)) := ⟨(Mid.grown_of_below (below_drew HB6.out)).trans hg7⟩
        have H7 : Aside0 (Rd w7 g D k (RS.bad ⟨dt, a, 0, pl⟩ 10)) := ⟨(H6.out.below (below_drew (Below.refl _ _))).put rfl H6.out.at_ hg7 hb7⟩
        clear hb7 hg7 d3
        try simp only [Act.put, List.setIfInBounds_toArray, List.set]
        refine wpAnyH_done (by kernel_rfl) ?_ _
        go_wp2
        go_ret
        exact ⟨none, 0, rfl, Kd.R_nil _ _ _ _ _, H7.out, HG7.out⟩
      · rw [if_neg hC]
        have hC1 : ¬ (dt.length : Int) - (a : Int) - (kk : Int) < (x : Int) := by omega
        have hCx : a + kk + x ≤ dt.length := by omega
        clear hB hC
        go_enter Tryz.func110, Tryz.ntmps110
        go_upto_region 6 with (go_at_call 148; refine (goes_yes H.out rfl).mono ?_; rintro e w1 ⟨rfl, rfl⟩)
        refine wp_region_S (Since W) (by kernel_rfl) (by kernel_rfl) (since_drew W) ?_
        repeat (go_big_quiet_step (first | (go_at_call 150; refine calls_since (codeNum_to A' _ l _ _ _ _ (Kd.C_below HCl.out (CW.h _)) HBl.out hlen HR.out))))
        refine wpQuiet_nil ?_
        rintro w5 ⟨x5, e5⟩
        have hb5' : Below W.heap.size W w5 := e5 ▸ x5.h
        clear e5 x5 hcut g2 g3
        have H5 := Aside0.mk (H.out.below hb5')
        have HB5 := Aside0.mk hb5'
        have g2 : ∀ x : CW (Since w5), x.w.cell? ⟨g, 2, none⟩ = some (.slice D dt.length k) := fun x => pw_cell_below x.h (pw_cell_below hb5' c2)
        have g3 : ∀ x : CW (Since w5), x.w.cell? ⟨g, 3, none⟩ = some (.int .i64 a) := fun x => pw_cell_below x.h (pw_cell_below hb5' c3)
        clear hb5' H c2 c3
        go_upto_region 7 with (fail)
        refine wp_region_S (Since w5) (by kernel_rfl) (by kernel_rfl) (since_drew w5) ?_
        repeat (go_big_quiet_step (fail))
        refine wpQuiet_nil ?_
        rintro w6 ⟨x6, e6⟩
        have hb6' : Below w5.heap.size w5 w6 := e6 ▸ x6.h
        clear e6 x6 g2 g3
        have H6 := Aside0.mk (H5.out.below hb6')
        have HB6 := Aside0.mk (below_step HB5.out hb6')
        have d3 : w6.cell? ⟨g, 3, none⟩ = some (.int .i64 a) := (blk_cell H6.out.blk _).trans rfl
        clear hb6' HB5 H5
        have f3 : w6.frozen? ⟨g, 3, none⟩ = false := blk_frozen H6.out.blk _
        have hb7 : (w6.setCell ⟨g, 3, none⟩ (.int .i64 ((a : Int) + (kk : Int)))).heap[g]? = some (.cells #[.int .i64 ((0 : Nat) : Int), .int .i64 pl, .slice D dt.length k, .int .i64 ((a + kk : Nat) : Int)] 265 (0, 0)) := blk_set H6.out.blk 3 _
        have HG7 : Aside0 (W.grownBy (w6.setCell ⟨g, 3, none⟩ (.int .i64 ((a : Int) + (kk : Int)))) (some g)) := ⟨(Mid.grown_of_below HB6.out).trans (grown_set w6 ⟨g, 3, none⟩ _)⟩
        have H7 : Aside0 (Rd (w6.setCell ⟨g, 3, none⟩ (.int .i64 ((a : Int) + (kk : Int)))) g D k (RS.on ⟨dt, a, 0, pl⟩ kk)) := ⟨H6.out.put rfl hka (grown_set w6 ⟨g, 3, none⟩ _) hb7⟩
        clear hb7
        have hraw : (RS.on ⟨dt, a, 0, pl⟩ kk).raw x = ((l.drop kk).take x, RS.on ⟨dt, a, 0, pl⟩ (kk + x)) := by
          rw [RS.raw, if_neg (by simp [RS.on]), if_neg (by show ¬ dt.length - (a + kk) < x; omega)]
          have e1 : (RS.on ⟨dt, a, 0, pl⟩ kk).rest = l.drop kk := by rw [← HT.out.1]; simp [RS.rest, RS.on]
          rw [e1]
          simp [RS.on, Nat.add_assoc]
        have hxl : ((l.drop kk).take x).length = x := by rw [List.length_take, List.length_drop]; have := HT.out.2; omega
        obtain ⟨xs, hxs⟩ : ∃ xs, (l.drop kk).take x = xs := ⟨_, rfl⟩
        rw [hxs] at hraw hxl
        have HXS := Aside0.mk hxs
        have HRW := Aside0.mk hraw
        have hxl2 : xs.length ≤ 2147483647 := by omega
        clear hraw hxs hxl
        go_wp2_with (first
          | (go_at_call 149; refine (take_any _ g k D _ x H7.out rfl).mono ?_; rw [HRW.out]; rintro e w8 ⟨A, c, rfl, hc, hCC, hRR, hG⟩; have H8 := Aside0.mk (⟨hCC, hRR, World.grownBy.trans HG7.out hG⟩ : _ ∧ _ ∧ _); clear hCC hRR hG hc)
          | (at_builtin; refine Kd.R_append_rows (Kd.int .u8) (w0 := w8) w8.heap.size rfl (.const (.slice none 0 0)) (.tmp 85) 47 5 (.int .u8 0) 1 rfl Tryz.underlying47 info5 rfl (by decide) (by omega) (.slice none 0 0) [] xs A xs.length c (fun _ => True) (fun _ => False) rfl rfl (Kd.R_nil _ _ _ _ _) H8.out.1 (fun _ _ h => h) (fun _ hk => hk.elim) (fun _ _ => trivial) (Below.refl _ _) (Nat.le_refl _) (by simp; omega) ?_
             intro v9 w9 ho9 hb9 hg9 hat9
             rw [List.nil_append] at ho9
             obtain ⟨A9, k9, e9⟩ := Kd.R_slice ho9
             subst e9
             have H9 := Aside0.mk (⟨ho9, hb9⟩ : _ ∧ _)
             clear ho9 hb9 hg9 hat9)
          | fail)
        go_ret
        rw [HXS.out]
        exact ⟨A9, k9, rfl, Kd.R_lower H9.out.1 H8.out.2.2.size, H8.out.2.1.below H9.out.2, World.grownBy.trans H8.out.2.2 (Mid.grown_of_below H9.out.2)⟩
  · rw [if_pos he]
    have hz := numR_zero l 0 0 1 x kk er HR.out he
    obtain ⟨rfl, rfl⟩ := hz
    have hne : ((er : Int) == 0) = false := by rw [beq_eq_false_iff_ne]; omega
    have hne2 : ((er : Int) != 0) = true := by rw [bne, hne]; rfl
    have hal1 : (a : Int) ≤ (dt.length : Int) := by omega
    have hll1 : (dt.length : Int) ≤ 1000000000000 := by omega
    clear he
    go_enter Tryz.func110, Tryz.ntmps110
    go_upto_region 6 with (go_at_call 148; refine (goes_yes H.out rfl).mono ?_; rintro e w1 ⟨rfl, rfl⟩)
    refine wp_region_S (Since W) (by kernel_rfl) (by kernel_rfl) (since_drew W) ?_
    repeat (go_big_quiet_step (first | (go_at_call 150; refine calls_since (codeNum_to A' _ l _ _ _ _ (Kd.C_below HCl.out (CW.h _)) HBl.out hlen HR.out))))
    refine wpQuiet_nil ?_
    rintro w5 ⟨x5, e5⟩
    have hb5' : Below W.heap.size W w5 := e5 ▸ x5.h
    clear e5 x5 hcut g2 g3
    have H5 := Aside0.mk (H.out.below hb5')
    have HB5 := Aside0.mk hb5'
    have g2 : ∀ x : CW (Since w5), x.w.cell? ⟨g, 2, none⟩ = some (.slice D dt.length k) := fun x => pw_cell_below x.h (pw_cell_below hb5' c2)
    have g3 : ∀ x : CW (Since w5), x.w.cell? ⟨g, 3, none⟩ = some (.int .i64 a) := fun x => pw_cell_below x.h (pw_cell_below hb5' c3)
    clear hb5' H c2 c3
    go_upto_region 7 with (fail)
    refine wp_region_S (Since w5) (by kernel_rfl) (by kernel_rfl) (since_drew w5) ?_
    repeat (go_big_quiet_step (fail))
    refine wpQuiet_nil ?_
    rintro w6 ⟨x6, e6⟩
    have hb6' : Below w5.heap.size w5 w6 := e6 ▸ x6.h
    clear e6 x6 g2 g3
    have H6 := Aside0.mk (H5.out.below hb6')
    have HB6 := Aside0.mk (below_step HB5.out hb6')
    have d3 : w6.cell? ⟨g, 3, none⟩ = some (.int .i64 a) := (blk_cell H6.out.blk _).trans rfl
    clear hb6' HB5 H5
    have HS : Aside0 (w6.drew.cell? ⟨g, 3, none⟩ = some (.int .i64 a)) := ⟨d3⟩
    go_upto_region 13 with (fail)
    refine wp_region_held (S := fun u => u.cell? ⟨g, 3, none⟩ = some (.int .i64 a)) (by kernel_rfl) ?_
    change wpAnyH _ _ _ _ _ _ _ _ w6.drew
    refine wpAnyH_take (i := 0) (v := ?_) rfl (by kernel_rfl) (by kernel_rfl) (by kernel_rfl) (fun _ _ _ h => h) (Or.inl ⟨by rfl, ?_⟩) HS.out ?_
    rotate_left
    · (intro wG hSw; have q3 : wG.cell? ⟨g, 3, none⟩ = some (.int .i64 a) := hSw; go_simp; try with_reducible rfl)
    try simp only [Act.put, List.setIfInBounds_toArray, List.set]
    refine wpAnyH_take (i := 1) (v := ?_) rfl (by kernel_rfl) (by kernel_rfl) (by kernel_rfl) (fun _ _ _ h => h) (Or.inl ⟨by rfl, ?_⟩) HS.out ?_
    rotate_left
    · (intro wG hSw; have q3 : wG.cell? ⟨g, 3, none⟩ = some (.int .i64 a) := hSw; go_simp; try with_reducible rfl)
    try simp only [Act.put, List.setIfInBounds_toArray, List.set]
    refine wpAnyH_take (i := 2) (v := ?_) rfl (by kernel_rfl) (by kernel_rfl) (by kernel_rfl) (fun _ _ _ h => h) (Or.inl ⟨by rfl, ?_⟩) HS.out ?_
    rotate_left
    · (intro wG hSw; have q3 : wG.cell? ⟨g, 3, none⟩ = some (.int .i64 a) := hSw; go_simp; try with_reducible rfl)
    try simp only [Act.put, List.setIfInBounds_toArray, List.set]
    refine wpAnyH_take (i := 3) (v := ?_) rfl (by kernel_rfl) (by kernel_rfl) (by kernel_rfl) (fun _ _ _ h => h) (Or.inl ⟨by rfl, ?_⟩) HS.out ?_
    rotate_left
    · (intro wG hSw; have q3 : wG.cell? ⟨g, 3, none⟩ = some (.int .i64 a) := hSw; go_simp; try with_reducible rfl)
    try simp only [Act.put, List.setIfInBounds_toArray, List.set]
    refine wpAnyH_take (i := 4) (v := ?_) rfl (by kernel_rfl) (by kernel_rfl) (by kernel_rfl) (fun _ _ _ h => h) (Or.inl ⟨by rfl, ?_⟩) HS.out ?_
    rotate_left
    · (intro wG hSw; have q3 : wG.cell? ⟨g, 3, none⟩ = some (.int .i64 a) := hSw; go_simp; try with_reducible rfl)
    try simp only [Act.put, List.setIfInBounds_toArray, List.set]
    refine wpAnyH_take (i := 5) (v := ?_) rfl (by kernel_rfl) (by kernel_rfl) (by kernel_rfl) (fun _ _ _ h => h) (Or.inl ⟨by rfl, ?_⟩) HS.out ?_
    rotate_left
    · (intro wG hSw; have q3 : wG.cell? ⟨g, 3, none⟩ = some (.int .i64 a) := hSw; go_simp; try with_reducible rfl)
    try simp only [Act.put, List.setIfInBounds_toArray, List.set]
    refine wpAnyH_take (i := 6) (v := ?_) rfl (by kernel_rfl) (by kernel_rfl) (by kernel_rfl) (fun _ _ _ h => h) (Or.inl ⟨by rfl, ?_⟩) HS.out ?_
    rotate_left
    · (intro wG hSw; have q3 : wG.cell? ⟨g, 3, none⟩ = some (.int .i64 a) := hSw; go_simp; try with_reducible rfl)
    try simp only [Act.put, List.setIfInBounds_toArray, List.set]
    refine wpAnyH_take (i := 7) (v := ?_) rfl (by kernel_rfl) (by kernel_rfl) (by kernel_rfl) (fun _ _ _ h => h) (Or.inl ⟨by rfl, ?_⟩) HS.out ?_
    rotate_left
    · (intro wG hSw; have q3 : wG.cell? ⟨g, 3, none⟩ = some (.int .i64 a) := hSw; go_simp; try with_reducible rfl)
    try simp only [Act.put, List.setIfInBounds_toArray, List.set]
    refine heldOne (i := 8) (by kernel_rfl) rfl (by rfl) ?_
    go_simp
    go_at_call 142
    refine (spoil_any g er a (.int .i64 pl) (.slice D dt.length k) (.int .i64 a) _ (blk_drew H6.out.blk)).mono ?_
    rintro e w7 ⟨rfl, hb7, hg7⟩
    refine ⟨(blk_cell hb7 _).trans rfl, ?_⟩
    have HG7 : Aside0 (W.grownBy w7 (some g)) := ⟨(Mid.grown_of_below (below_drew HB6.out)).trans hg7⟩
    have H7 : Aside0 (Rd w7 g D k (RS.bad ⟨dt, a, 0, pl⟩ er)) := ⟨(H6.out.below (below_drew (Below.refl _ _))).put rfl H6.out.at_ hg7 hb7⟩
    clear hb7 hg7 d3
    try simp only [Act.put, List.setIfInBounds_toArray, List.set]
    refine wpAnyH_done (by kernel_rfl) ?_ _
    go_wp2
    go_ret
    exact ⟨none, 0, rfl, Kd.R_nil _ _ _ _ _, H7.out, HG7.out⟩

theorem rtext_any (W : World) (g k : Nat) (D : Option Addr) (s : RS) (most : Nat) (h : Rd W g D k s) (hm : most ≤ 1000000000000) :
    Calls Tryz.prog 110 #[.pointer (some ⟨g, 0, none⟩), .int .i64 most] W (RetRaw W g D k (s.text most).1 (s.text most).2) := by
  by_cases h0 : s.code = 0
  · exact rtext_yes W g k D s most h h0 hm
  · rw [show s.text most = ([], s) by rw [RS.text, if_pos h0]]
    have H := Aside0.mk h
    have H0 := Aside0.mk h0
    clear h h0
    go_enter Tryz.func110, Tryz.ntmps110
    go_wp2_with (first
      | (go_at_call 148; refine (goes_no H.out H0.out).mono ?_; rintro e w1 ⟨rfl, rfl⟩)
      | fail)
    go_ret
    exact ⟨none, 0, rfl, Kd.R_nil _ _ _ _ _, H.out, World.grownBy.refl W _⟩
end Go.Proofs.YtdekmeanlcpenaaGreatDoor.Codec
