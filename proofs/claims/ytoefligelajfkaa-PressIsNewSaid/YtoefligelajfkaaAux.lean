import Derived.Test.YtoefligelajfkaaPack
import Derived.Lib.SlBytesConst
namespace Go.Proofs.Ytoefligelajfkaa.Press
open Go.RowKit Go.Proofs.YtoefligelajfkaaW.PrintWords Go.Proofs.YtoefligelajfkaaW.PrintLast Go.Proofs.YtoefligelajfkaaW.PrintMore Go.Proofs.Ytoefligelajfkaa.PPressSpoilt

theorem same_run (l0 l1 : List Int) (hl : l0.length ≤ 9223372036854775807) (he : l0 = l1) : ∀ (d : Nat) (k : Nat) (i : Nat), i + d = l0.length → d < k → freightlaw4_same.l0 k l0 l1 i = some true := by
  subst he
  intro d
  induction d with
  | zero =>
    intro k i hi hk
    obtain ⟨k, rfl⟩ : ∃ m, k = m + 1 := ⟨k - 1, by omega⟩
    simp only [freightlaw4_same.l0]
    rw [if_neg (by omega)]
  | succ d ih =>
    intro k i hi hk
    obtain ⟨k, rfl⟩ : ∃ m, k = m + 1 := ⟨k - 1, by omega⟩
    simp only [freightlaw4_same.l0]
    rw [if_pos (by omega), if_pos (by omega), if_pos (by omega), if_true, w64n (n := i + 1) (by omega) (by omega)]
    exact ih k (i + 1) (by omega) (by omega)

/-- same of two rows that are alike. -/
theorem same_true (A0 : Option Addr) (c0 : Nat) (A1 : Option Addr) (c1 : Nat) (l : List Int) (w : World) (h0 : Kd.C (Kd.int .u8) w A0 l.length l) (hc0 : l.length ≤ c0) (h1 : Kd.C (Kd.int .u8) w A1 l.length l) (hc1 : l.length ≤ c1) :
    Calls Try.prog 22 #[.slice A0 l.length c0, .slice A1 l.length c1] w fun e w' => e = .returned (.bool true) ∧ Drawn0 w w' := by
  refine freightlaw4_same.calls (l.length + 1) A0 c0 l A1 c1 l true w h0 hc0 h1 hc1 ?_
  unfold freightlaw4_same.f
  rw [if_pos rfl]
  exact same_run l l (Kd.C_max h0) rfl l.length (l.length + 1) 0 (by omega) (by omega)

/-- The bytes, and nine marks behind them. -/
def roomS (l : List Int) : List Int := l ++ List.replicate 9 167

theorem room_put (l : List Int) (i k : Nat) (x : Int) (h : i + (k + 1) = l.length + 9) : ((roomS l).take i ++ List.replicate (k + 1) 0).set i x = (roomS l).take i ++ x :: List.replicate k 0 := by
  have hl : ((roomS l).take i).length = i := by simp [roomS]; omega
  rw [List.set_append_right _ _ (by omega), hl, Nat.sub_self]
  rfl
theorem room_mark (l : List Int) (i : Nat) (h : l.length ≤ i) (hi : i < l.length + 9) (ys : List Int) : (roomS l).take (i + 1) ++ ys = (roomS l).take i ++ 167 :: ys := by
  rw [List.take_succ_eq_append_getElem (by simp [roomS]; omega)]
  have : (roomS l)[i]'(by simp [roomS]; omega) = 167 := by
    simp only [roomS]
    rw [List.getElem_append_right h, List.getElem_replicate]
  rw [this, List.append_assoc]; rfl
theorem room_byte (l : List Int) (i : Nat) (h : i < l.length) (ys : List Int) : (roomS l).take (i + 1) ++ ys = (roomS l).take i ++ rd l i :: ys := by
  rw [List.take_succ_eq_append_getElem (by simp [roomS]; omega)]
  have : (roomS l)[i]'(by simp [roomS]; omega) = rd l i := by
    simp only [roomS]
    rw [List.getElem_append_left h, rd_nat, List.getD_eq_getElem?_getD, List.getElem?_eq_getElem h]; rfl
  rw [this, List.append_assoc]; rfl

set_option maxHeartbeats 2000000 in
theorem roomy_any (A0 : Option Addr) (c0 : Nat) (l0 : List Int) (w : World) (hr0 : Kd.C (Kd.int .u8) w A0 l0.length l0) (hl : l0.length ≤ 140737488355328) :
    Calls Try.prog 19 #[.slice A0 l0.length c0] w fun e w' => ∃ g, e = .returned (.tuple #[.slice (some ⟨g, 0, none⟩) l0.length (l0.length + 9), .slice (some ⟨g, 0, none⟩) (l0.length + 9) (l0.length + 9)]) ∧
      Kd.R (Kd.int .u8) 5 w' w.heap.size (fun _ => True) (.slice (some ⟨g, 0, none⟩) (l0.length + 9) (l0.length + 9)) (roomS l0) ∧ Below w.heap.size w w' := by
  obtain ⟨M, hM⟩ : ∃ M, M = l0.length + 9 := ⟨_, rfl⟩
  rw [← hM]
  have hm : ∀ W : World, (Instr.makeSlice 22 (.int .i64 (M : Int)) (.int .i64 (M : Int))).run Try.prog W = .ok (.slice (some ⟨W.heap.size, 0, none⟩) M M) (W.alloc (.cells (madeCells #[.int .u8 0] M) 5)) :=
    print_make 22 5 .u8 1 Try.underlying22 info5 (by omega) M (by omega)
  have hn : (l0.length : Int) + 9 = (M : Int) := by omega
  have HS : Kd.R (Kd.int .u8) 5 (w.alloc (.cells (madeCells #[.int .u8 0] M) 5)) w.heap.size (fun _ => True) (.slice (some ⟨w.heap.size, 0, none⟩) M M) (List.replicate M 0) := by
    have h := own_made w w.heap.size 5 .u8 M (Nat.le_refl _) (by omega)
    exact Kd.R_of_own (by simp only [List.length_replicate]; exact h) (fun _ _ => trivial)
  have HB : Aside0 (Below w.heap.size w (w.alloc (.cells (madeCells #[.int .u8 0] M) 5))) := ⟨(Below.refl _ _).alloc (Nat.le_refl _) _⟩
  have HS0 := Aside0.mk HS
  clear HS
  have HM := Aside0.mk hM
  have HR0 := Aside0.mk hr0
  have HL := Aside0.mk hl
  clear hr0
  have hM1 : l0.length ≤ M := by omega
  have hM2 : M ≤ 140737488355337 := by omega
  clear hM
  go_enter Try.func19, Try.ntmps19
  go_wp2
  go_loopg [5] M (fun k v5 w' => ∃ i : Nat, v5 = .int .i64 i ∧ i + k = M ∧ Aside0 (Kd.R (Kd.int .u8) 5 w' w.heap.size (fun _ => True) (.slice (some ⟨w.heap.size, 0, none⟩) M M) ((roomS l0).take i ++ List.replicate k 0) ∧ Below w.heap.size w w'))
  case atStart => exact ⟨0, rfl, by omega, ⟨by simp only [List.take_zero, List.nil_append]; exact HS0.out, HB.out⟩⟩
  case round =>
    obtain ⟨i, rfl, hik, HA⟩ := hrel
    cases gk with
    | zero =>
      go_wp2
      go_ret2
      refine ⟨w.heap.size, rfl, ?_, HA.out.2⟩
      have h := HA.out.1
      have e : (roomS l0).take i = roomS l0 := List.take_of_length_le (by simp [roomS]; have := HM.out; omega)
      rw [e] at h
      simpa using h
    | succ k =>
      have hiM : i < M := by omega
      have hlen : ((roomS l0).take i ++ List.replicate (k + 1) 0).length = M := by simp [roomS]; have := HM.out; omega
      obtain ⟨hc, hz⟩ := Kd.R_celln (0 : Int) HA.out.1 (i : Int) (by omega) (by omega)
      simp only [Int.toNat_natCast] at hc hz
      by_cases hil : i < l0.length
      · obtain ⟨ad, e0, hx⟩ := Kd.at_int HR0.out (i : Int) (by omega) (by omega)
        cases e0
        simp only [Int.toNat_natCast] at hx
        have hblk : (ad.add i).block < w.heap.size := World.block_lt_of_cell? w _ hx
        have hx1 : wr.cell? (ad.add i) = some (.int .u8 (rd l0 i)) := (HA.out.2.cell hblk).trans hx
        have hx2 : (wr.setCell ⟨w.heap.size, i, none⟩ (.int .u8 167)).cell? (ad.add i) = some (.int .u8 (rd l0 i)) := (cell_far (by simp only [ne_eq]; omega) _).trans hx1
        clear hx hx1 hblk
        go_wp2
        go_roundg k
        case measure => omega
        case rel =>
          have h0 := Kd.R_putn (enc := Value.int .u8) (h1 := fun _ => rfl) HA.out.1 (i : Int) 167
          have h := Kd.R_putn (enc := Value.int .u8) (h1 := fun _ => rfl) h0 (i : Int) (rd l0 i)
          simp only [Int.toNat_natCast, List.set_set] at h
          rw [room_put l0 i k _ (by have := HM.out; omega)] at h
          refine ⟨i + 1, by go_num, by omega, ⟨?_, ?_⟩⟩
          · rw [room_byte l0 i hil (List.replicate k 0)]
            exact h
          · exact (HA.out.2.setCell (Nat.le_refl _) _).setCell (Nat.le_refl _) _
      · have hil2 : (l0.length : Int) ≤ (i : Int) := by omega
        go_wp2
        go_roundg k
        case measure => omega
        case rel =>
          refine ⟨i + 1, by go_num, by omega, ⟨?_, HA.out.2.setCell (Nat.le_refl _) _⟩⟩
          have h := Kd.R_putn (enc := Value.int .u8) (h1 := fun _ => rfl) HA.out.1 (i : Int) 167
          simp only [Int.toNat_natCast] at h
          rw [room_put l0 i k _ (by have := HM.out; omega)] at h
          rw [room_mark l0 i (by omega) (by have := HM.out; omega) (List.replicate k 0)]
          exact h

theorem roomS_length (l : List Int) : (roomS l).length = l.length + 9 := by simp [roomS]
theorem roomS_take (l : List Int) : (roomS l).take l.length = l := by simp [roomS]
theorem roomS_mark (l : List Int) (i : Nat) (h : l.length ≤ i) (hi : i < l.length + 9) : rd (roomS l) i = 167 := by
  rw [rd_nat, List.getD_eq_getElem?_getD, roomS, List.getElem?_append_right h, List.getElem?_replicate, if_pos (by omega)]; rfl

set_option maxHeartbeats 2000000 in
/-- kept, where all is as it was. -/
theorem kept_true (A0 : Option Addr) (c0 n0 : Nat) (A1 : Option Addr) (c1 : Nat) (l : List Int) (w : World) (hn0 : n0 = l.length + 9) (h0 : Kd.C (Kd.int .u8) w A0 n0 (roomS l)) (hc0 : n0 ≤ c0) (h1 : Kd.C (Kd.int .u8) w A1 l.length l) (hc1 : l.length ≤ c1) (hl : l.length ≤ 140737488355328) :
    Calls Try.prog 23 #[.slice A0 n0 c0, .slice A1 l.length c1] w fun e w' => e = .returned (.bool true) ∧ Drawn0 w w' := by
  have HN := Aside0.mk hn0
  have H0 := Aside0.mk h0
  have H1 := Aside0.mk h1
  have hn1 : l.length ≤ n0 := by omega
  have hn2 : n0 ≤ 140737488355337 := by omega
  clear hn0 h0 h1
  have hg1 : decide (l.length ≤ n0) = true := by simp; omega
  have hg2 : decide ((l.length : Int) ≤ (n0 : Int)) = true := by simp; omega
  go_enter Try.func23, Try.ntmps23
  go_wp2
  go_loopg [5] (n0 - l.length) (fun k v5 w' => ∃ i : Nat, v5 = .int .i64 i ∧ i + k = n0 ∧ l.length ≤ i ∧ w' = w)
  case atStart => exact ⟨l.length, rfl, by omega, Nat.le_refl _, rfl⟩
  case round =>
    obtain ⟨i, rfl, hik, hli, rfl⟩ := hrel
    cases gk with
    | zero =>
      have h2 : Kd.C (Kd.int .u8) wr A0 l.length l := by
        have h := H0.out
        rw [HN.out, ← roomS_length] at h
        have h' := Kd.C_take (m := l.length) h (by rw [roomS_length]; omega)
        rw [roomS_take] at h'
        exact h'
      have H2 := Aside0.mk h2
      clear h2
      go_wp2_with (go_at_call 22; refine (same_true _ _ _ _ _ _ H2.out (by omega) H1.out hc1).mono ?_; rintro e w' ⟨rfl, ⟨nd, rfl⟩⟩)
      go_ret
      exact ⟨rfl, ⟨_, rfl⟩⟩
    | succ k =>
      obtain ⟨ad, e0, hx⟩ := Kd.at_int H0.out (i : Int) (by omega) (by omega)
      cases e0
      rw [roomS_mark l i hli (by have := HN.out; omega)] at hx
      simp only [Int.toNat_natCast] at hx
      have hin : i < n0 := by omega
      go_wp2
      go_roundg k
      case measure => omega
      case rel => exact ⟨i + 1, by go_num, by omega, by omega, rfl⟩

theorem own_lit_R (W : World) (base : Nat) (xs : List Int) (hb : base ≤ W.heap.size) (hm : xs.length ≤ 9223372036854775807) : (Kd.int .u8).C (W.alloc (.cells (nums .u8 xs).toArray 5)) (some ⟨W.heap.size, 0, none⟩) xs.length xs :=
  Kd.C_of_reads (h1 := fun _ => rfl) (d := (0 : Int)) (readsInt_of.1 (own_reads' (own_lit W base 5 .u8 xs hb hm)))

theorem lit_mark (W : World) (xs : List Int) (fr : Nat × Nat) (hm : xs.length ≤ 9223372036854775807) : (Kd.int .u8).C (W.alloc (.cells (nums .u8 xs).toArray 5 fr)) (some ⟨W.heap.size, 0, none⟩) xs.length xs := by
  refine Kd.C_of_reads (h1 := fun _ => rfl) (d := (0 : Int)) ⟨rfl, hm, fun _ => ⟨_, rfl, fun j hj => ?_⟩⟩
  rw [add_plain, World.cell?_alloc_mark]
  simp [nums, List.getElem?_eq_getElem hj, List.getD_eq_getElem?_getD]
theorem str_a : strOfNums [97, 97, 97, 97, 97, 97, 97] = ⟨#[97, 97, 97, 97, 97, 97, 97]⟩ := by rfl

theorem awake_str {w1 w2 : World} {A2 : Option Addr} {k2 : Nat} (h : Kd.R (Kd.int .u8) 5 w2 w1.heap.size (fun _ => True) (.slice A2 7 k2) [97, 97, 97, 97, 97, 97, 97]) (nd : Nat) :
    (convert 22 9 (.slice A2 7 k2)).run Try.prog ((w2.alloc (.cells (nums .u8 [8, 97, 98, 99, 0, 130]).toArray 5)).drewN nd) =
      .ok (.string ⟨#[97, 97, 97, 97, 97, 97, 97]⟩) ((w2.alloc (.cells (nums .u8 [8, 97, 98, 99, 0, 130]).toArray 5)).drewN nd) := by
  have h1 := Kd.C_string (P := Try.prog) (src := 22) (dst := 9) (c := k2) Try.underlying22 Try.underlying5 Try.underlying9 (Kd.C_drewN (Kd.C_alloc (Kd.R_reads' h).2.2 (.cells (nums .u8 [8, 97, 98, 99, 0, 130]).toArray 5)) nd)
  rw [str_a] at h1
  exact h1

set_option maxHeartbeats 4000000 in
theorem awake_any (w : World) : Calls Try.prog 24 #[] w fun e w' => e = .returned (.bool true) ∧ Below w.heap.size w w' := by
  have kc := fun (w : World) (C : Array Value) (n c : Nat) => Lib.run_convert_bytes_const (P := Try.prog) w 22 5 C n c Try.underlying22 Try.underlying5
  go_enter Try.func24, Try.ntmps24
  go_wp2_with (first
    | (go_at_call 20; refine (pack_any _ _ [97, 98, 99, 97, 98, 99, 97, 98] _ (lit_mark w [97, 98, 99, 97, 98, 99, 97, 98] (8, 9) (by simp)) (by simp) (by simp)).mono ?_; rw [packS_abc]; rintro e w1 ⟨v1, rfl, hR1, hB1⟩; obtain ⟨A1, k1, rfl⟩ := Kd.R_slice hR1; have HR1 := Aside0.mk hR1; have HB1 := Aside0.mk (below_step (below_alloc (Below.refl _ _) _) hB1); clear hR1 hB1)
    | (go_at_call 25; refine (unpack_any _ _ [2, 97, 0, 3] 7 _ (own_lit_R w1 0 [2, 97, 0, 3] (Nat.zero_le _) (by simp)) (by simp) (by simp)).mono ?_; rw [unpackS_a]; rintro e w2 ⟨v2, rfl, hR2, hB2⟩; obtain ⟨A2, k2, rfl⟩ := Kd.R_slice hR2; have HR2 := Aside0.mk hR2; have HB2 := Aside0.mk (below_step (below_alloc (Below.refl _ _) _) hB2); clear hR2 hB2)
    | (go_at_call 22; go_loud (refine (same_true _ _ _ _ [8, 97, 98, 99, 0, 130] _ (Kd.C_alloc (Kd.C_below (Kd.R_reads' HR1.out).2.2 HB2.out) _) (Kd.R_reads' HR1.out).2.1 (own_lit_R w2 0 [8, 97, 98, 99, 0, 130] (Nat.zero_le _) (by simp)) (by simp)).mono ?_); rintro e w3 ⟨rfl, ⟨nd, rfl⟩⟩; have hst := awake_str HR2.out nd))
  go_ret
  exact ⟨rfl, pw_below_drewN (below_alloc (below_step HB1.out HB2.out) _) _⟩
end Go.Proofs.Ytoefligelajfkaa.Press
