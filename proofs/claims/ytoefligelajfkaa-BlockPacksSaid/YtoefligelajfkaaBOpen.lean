import Derived.Test.YtoefligelajfkaaLay
import Derived.BigQuiet
import Derived.Deep.RegionHeld3
import Derived.Deep.DrawnRows
namespace Go.Proofs.Ytoefligelajfkaa.Block
open Go.RowKit Go.Proofs.YtoefligelajfkaaW.PrintWords Go.Proofs.YtoefligelajfkaaW.PrintLast Go.Proofs.YtoefligelajfkaaW.PrintMore Go.Proofs.Ytoefligelajfkaa.Press
open Go.Proofs.Ytoefligelajfkaa.PBlockOpens (S58 k58 z58 k58_open k58_mk k58_mkM k58_openM rd_T58 at_T58)

def badB (l : List Int) (b : S58) : Prop := b.f2 < 1 ∨ b.f2 > 4096 ∨ b.f1 < 1 ∨ b.f1 > b.f2 ∨ (l.length : Int) ≠ b.f1 ∨ (sumS l : Int) ≠ b.f3
instance (l : List Int) (b : S58) : Decidable (badB l b) := inferInstanceAs (Decidable (_ ∨ _))
/-- What Open answers. -/
def openS (l : List Int) (b : S58) : List Int × Int :=
  if badB l b then ([], 110) else if b.f1 = b.f2 then (l, 0) else if (unpackS l b.f2).2 ≠ 0 then ([], 110) else ((unpackS l b.f2).1, 0)

/-- The boxed block behind a call. -/
structure Boxed (w : World) (b : Nat) (x0 x1 x2 x3 : Int) : Prop where
  c0 : w.cell? ⟨b, 0, none⟩ = some (.int .i64 x0)
  c1 : w.cell? ⟨b, 1, none⟩ = some (.int .i64 x1)
  c2 : w.cell? ⟨b, 2, none⟩ = some (.int .i64 x2)
  c3 : w.cell? ⟨b, 3, none⟩ = some (.int .i64 x3)
theorem Boxed.of {w : World} {b : Nat} {x0 x1 x2 x3 : Int} (h : w.heap[b]? = some (.cells #[.int .i64 x0, .int .i64 x1, .int .i64 x2, .int .i64 x3] 58 (0, 0))) : Boxed w b x0 x1 x2 x3 := by
  constructor <;> simp [World.cell?, h]
theorem boxed_below {w w5 : World} {x0 x1 x2 x3 : Int} (hb5 : Below ((w.alloc (.cells #[.int .i64 x0, .int .i64 x1, .int .i64 x2, .int .i64 x3] 58)).drew).heap.size ((w.alloc (.cells #[.int .i64 x0, .int .i64 x1, .int .i64 x2, .int .i64 x3] 58)).drew) w5) : Boxed w5 w.heap.size x0 x1 x2 x3 := by
  refine Boxed.of (block_below hb5 ?_ (heap_alloc_new w (.cells #[.int .i64 x0, .int .i64 x1, .int .i64 x2, .int .i64 x3] 58)))
  show w.heap.size < (w.alloc _).heap.size
  simp


theorem boxed_bel {w w5 : World} {o : Obj} (hb5 : Below ((w.alloc o).drew).heap.size ((w.alloc o).drew) w5) : Below w.heap.size w w5 :=
  bel_next (Below.drew ((Below.refl _ _).alloc (Nat.le_refl _) o)) (by show w.heap.size ≤ (w.alloc o).heap.size; simp) hb5

attribute [local go_sem ↓] Go.wp_at_zero Go.wp_at_succ
set_option maxHeartbeats 4000000 in
theorem bopen_sum (A0 : Option Addr) (c0 : Nat) (l0 : List Int) (n : Nat) (x0 x3 : Int) (ns : Nat) (w : World) (hr0 : Kd.C (Kd.int .u8) w A0 l0.length l0) (hby : ∀ x ∈ l0, 0 ≤ x ∧ x ≤ 255) (h1 : 1 ≤ l0.length) (h2 : l0.length ≤ n) (h3 : n ≤ 4096) (hns : sumS l0 = ns) (h6 : (ns : Int) ≠ x3) :
    Calls Try.prog 39 #[.slice A0 l0.length c0, .agg #[.int .i64 x0, .int .i64 l0.length, .int .i64 n, .int .i64 x3]] w fun e w' => e = .returned (.tuple #[.slice none 0 0, .int .i64 110]) ∧ Below w.heap.size w w' := by
  have HR0 := Aside0.mk hr0
  have HNS := Aside0.mk hns
  have g1 : decide ((n : Int) < 1) = false := by simp; omega
  have g2 : decide ((4096 : Int) < (n : Int)) = false := by simp; omega
  have g3 : decide ((l0.length : Int) < 1) = false := by simp; omega
  have g4 : decide ((n : Int) < (l0.length : Int)) = false := by simp; omega
  have g4b : decide (n < l0.length) = false := by simp; omega
  have g5 : ((l0.length : Int) != (l0.length : Int)) = false := by simp
  have g6 : ((ns : Int) != x3) = true := by simpa using h6
  clear hr0 hns h6
  go_enter Try.func39, Try.ntmps39
  go_wp2_with fail
  go_region_held3 (fun w' => w'.cell? ⟨w.heap.size, 1, none⟩ = some (.int .i64 l0.length) ∧ w'.cell? ⟨w.heap.size, 2, none⟩ = some (.int .i64 n) ∧ w'.cell? ⟨w.heap.size, 3, none⟩ = some (.int .i64 x3)) (go_keep)
    (first | (go_at_call 45; refine (sum_any _ _ _ _ (Kd.C_below HR0.out ((Below.refl _ _).alloc (Nat.le_refl _) _).drew) hby (by omega)).mono ?_; rw [HNS.out]; rintro e w5 ⟨rfl, hb5⟩; obtain ⟨b0, b1, b2, b3⟩ := boxed_below hb5))
  go_wp2
  go_ret2
  exact ⟨rfl, boxed_bel hb5⟩

set_option maxHeartbeats 4000000 in
theorem bopen_copy (A0 : Option Addr) (c0 : Nat) (l0 : List Int) (x0 : Int) (ns : Nat) (w : World) (hr0 : Kd.C (Kd.int .u8) w A0 l0.length l0) (hby : ∀ x ∈ l0, 0 ≤ x ∧ x ≤ 255) (h1 : 1 ≤ l0.length) (h3 : l0.length ≤ 4096) (hns : sumS l0 = ns) :
    Calls Try.prog 39 #[.slice A0 l0.length c0, .agg #[.int .i64 x0, .int .i64 l0.length, .int .i64 l0.length, .int .i64 ns]] w fun e w' => ∃ v, e = .returned (.tuple #[v, .int .i64 0]) ∧
      Kd.R (Kd.int .u8) 5 w' w.heap.size (fun _ => True) v l0 ∧ Below w.heap.size w w' := by
  have HR0 := Aside0.mk hr0
  have HNS := Aside0.mk hns
  have g1 : decide ((l0.length : Int) < 1) = false := by simp; omega
  have g2 : decide ((4096 : Int) < (l0.length : Int)) = false := by simp; omega
  have g3 : decide ((l0.length : Int) < 1) = false := by simp; omega
  have g4 : decide ((l0.length : Int) < (l0.length : Int)) = false := by simp
  have g4b : decide (l0.length < l0.length) = false := by simp
  have g5 : ((l0.length : Int) != (l0.length : Int)) = false := by simp
  clear hr0 hns
  go_enter Try.func39, Try.ntmps39
  go_wp2_with fail
  go_region_held3 (fun w' => w'.cell? ⟨w.heap.size, 1, none⟩ = some (.int .i64 l0.length) ∧ w'.cell? ⟨w.heap.size, 2, none⟩ = some (.int .i64 l0.length) ∧ w'.cell? ⟨w.heap.size, 3, none⟩ = some (.int .i64 ns)) (go_keep)
    (first | (go_at_call 45; refine (sum_any _ _ _ _ (Kd.C_below HR0.out ((Below.refl _ _).alloc (Nat.le_refl _) _).drew) hby (by omega)).mono ?_; rw [HNS.out]; rintro e w5 ⟨rfl, hb5⟩; obtain ⟨b0, b1, b2, b3⟩ := boxed_below hb5))
  have HB := Aside0.mk (boxed_bel hb5)
  go_wp2_with (first
        | (at_make; go_loud (refine Kd.R_make (Kd.int .u8) (w0 := w) w.heap.size 5 rfl rfl 22 _ _ rfl (l0.length : Int) rfl rfl Try.underlying22 (.int .u8 0) 1 info5 rfl (by decide) (by omega) 0 (ok := fun _ => True) (okp := fun _ => False) rfl (fun _ _ => trivial) trivial (by omega) (by simp; omega) HB.out HB.out.size ?_); intro v2 w2 ho2 hb2 hg2 hat2)
        | ((with_reducible refine gate_builtin (b := .copy) (xs := #[.tmp 51, .tmp 52]) rfl ?_); go_loud (refine Kd.R_copy (0 : Int) (w0 := w) w.heap.size rfl (.tmp 51) (.tmp 52) 22 22 5 rfl Try.underlying22 (by kernel_rfl) v2 (List.replicate l0.length 0) l0 A0 l0.length c0 (fun _ => True) rfl rfl ho2 (Kd.C_below HR0.out hb2) hb2 hb2.size ?_); intro w3 ho3 hb3 hg3))
  go_ret2
  have ho3' : Kd.R (Kd.int .u8) 5 w3 w.heap.size (fun _ => True) v2 l0 := by
    have e : l0.take (min l0.length (List.replicate l0.length (0 : Int)).length) ++ (List.replicate l0.length (0 : Int)).drop (min l0.length (List.replicate l0.length (0 : Int)).length) = l0 := by simp
    have h := ho3
    rw [e] at h
    exact h
  exact ⟨_, rfl, ho3', hb3⟩

set_option maxHeartbeats 4000000 in
theorem bopen_press (A0 : Option Addr) (c0 : Nat) (l0 : List Int) (n : Nat) (x0 : Int) (ns : Nat) (r : List Int × Int) (w : World) (hr0 : Kd.C (Kd.int .u8) w A0 l0.length l0) (hby : ∀ x ∈ l0, 0 ≤ x ∧ x ≤ 255) (h1 : 1 ≤ l0.length) (h2 : l0.length < n) (h3 : n ≤ 4096) (hns : sumS l0 = ns) (hu : unpackS l0 n = r) :
    Calls Try.prog 39 #[.slice A0 l0.length c0, .agg #[.int .i64 x0, .int .i64 l0.length, .int .i64 n, .int .i64 ns]] w fun e w' => ∃ v, e = .returned (.tuple #[v, .int .i64 (if r.2 = 0 then 0 else 110)]) ∧
      Kd.R (Kd.int .u8) 5 w' w.heap.size (fun _ => True) v (if r.2 = 0 then r.1 else []) ∧ Below w.heap.size w w' := by
  obtain ⟨r1, r2⟩ := r
  have HR0 := Aside0.mk hr0
  have HNS := Aside0.mk hns
  have g1 : decide ((n : Int) < 1) = false := by simp; omega
  have g2 : decide ((4096 : Int) < (n : Int)) = false := by simp; omega
  have g3 : decide ((l0.length : Int) < 1) = false := by simp; omega
  have g4 : decide ((n : Int) < (l0.length : Int)) = false := by simp; omega
  have g4b : decide (n < l0.length) = false := by simp; omega
  have g5 : ((l0.length : Int) != (l0.length : Int)) = false := by simp
  have HU := Aside0.mk hu
  have g7 : ((l0.length : Int) == (n : Int)) = false := by simp; omega
  have g7b : (l0.length == n) = false := by simp; omega
  clear hr0 hns hu
  by_cases h0 : r2 = 0
  · subst h0
    simp only [if_true]
    go_enter Try.func39, Try.ntmps39
    go_wp2_with fail
    go_region_held3 (fun w' => w'.cell? ⟨w.heap.size, 1, none⟩ = some (.int .i64 l0.length) ∧ w'.cell? ⟨w.heap.size, 2, none⟩ = some (.int .i64 n) ∧ w'.cell? ⟨w.heap.size, 3, none⟩ = some (.int .i64 ns)) (go_keep)
      (first | (go_at_call 45; refine (sum_any _ _ _ _ (Kd.C_below HR0.out ((Below.refl _ _).alloc (Nat.le_refl _) _).drew) hby (by omega)).mono ?_; rw [HNS.out]; rintro e w5 ⟨rfl, hb5⟩; obtain ⟨b0, b1, b2, b3⟩ := boxed_below hb5))
    have HB := Aside0.mk (boxed_bel hb5)
    go_wp2_with (first
      | (go_at_call 25; refine (unpack_any _ _ l0 n _ (Kd.C_below HR0.out HB.out) hby (by omega)).mono ?_; rw [HU.out]; rintro e w6 ⟨v6, rfl, hR6, hB6⟩; obtain ⟨A6, k6, rfl⟩ := Kd.R_slice hR6; have H6 := Aside0.mk (⟨hR6, hB6⟩ : _ ∧ _); clear hR6 hB6))
    go_ret2
    exact ⟨_, rfl, Kd.R_lower H6.out.1 HB.out.size, below_step HB.out H6.out.2⟩
  · have g8 : (r2 != 0) = true := by simpa using h0
    simp only [h0, if_false]
    clear h0
    go_enter Try.func39, Try.ntmps39
    go_wp2_with fail
    go_region_held3 (fun w' => w'.cell? ⟨w.heap.size, 1, none⟩ = some (.int .i64 l0.length) ∧ w'.cell? ⟨w.heap.size, 2, none⟩ = some (.int .i64 n) ∧ w'.cell? ⟨w.heap.size, 3, none⟩ = some (.int .i64 ns)) (go_keep)
      (first | (go_at_call 45; refine (sum_any _ _ _ _ (Kd.C_below HR0.out ((Below.refl _ _).alloc (Nat.le_refl _) _).drew) hby (by omega)).mono ?_; rw [HNS.out]; rintro e w5 ⟨rfl, hb5⟩; obtain ⟨b0, b1, b2, b3⟩ := boxed_below hb5))
    have HB := Aside0.mk (boxed_bel hb5)
    go_wp2_with (first
      | (go_at_call 25; refine (unpack_any _ _ l0 n _ (Kd.C_below HR0.out HB.out) hby (by omega)).mono ?_; rw [HU.out]; rintro e w6 ⟨v6, rfl, hR6, hB6⟩; obtain ⟨A6, k6, rfl⟩ := Kd.R_slice hR6; have H6 := Aside0.mk (⟨hR6, hB6⟩ : _ ∧ _); clear hR6 hB6))
    go_ret2
    exact ⟨_, rfl, Kd.R_nil _ _ _ _ _, below_step HB.out H6.out.2⟩
set_option maxHeartbeats 4000000 in
theorem bopen_any (A0 : Option Addr) (c0 : Nat) (l0 : List Int) (x0 x1 x2 x3 : Int) (w : World) (hr0 : Kd.C (Kd.int .u8) w A0 l0.length l0) (hby : ∀ x ∈ l0, 0 ≤ x ∧ x ≤ 255) (hl : l0.length ≤ 140737488355328) :
    Calls Try.prog 39 #[.slice A0 l0.length c0, .agg #[.int .i64 x0, .int .i64 x1, .int .i64 x2, .int .i64 x3]] w fun e w' => ∃ v, e = .returned (.tuple #[v, .int .i64 (openS l0 ⟨x0, x1, x2, x3⟩).2]) ∧
      Kd.R (Kd.int .u8) 5 w' w.heap.size (fun _ => True) v (openS l0 ⟨x0, x1, x2, x3⟩).1 ∧ Below w.heap.size w w' := by
  have HR0 := Aside0.mk hr0
  clear hr0
  by_cases h1 : x2 < 1
  · skip
    have hs : openS l0 ⟨x0, x1, x2, x3⟩ = ([], 110) := by unfold openS; rw [if_pos (.inl h1)]
    rw [hs]
    go_enter Try.func39, Try.ntmps39
    go_wp2
    go_quiet (fail)
    go_wp2
    go_ret2
    exact ⟨_, rfl, Kd.R_nil _ _ _ _ _, pw_below_drewN (below_alloc (Below.refl _ _) _) _⟩
  by_cases h2 : x2 > 4096
  · have g2 : (4096 : Int) < x2 := h2
    have g1 : decide (x2 < 1) = false := by simp; omega
    have hs : openS l0 ⟨x0, x1, x2, x3⟩ = ([], 110) := by unfold openS; rw [if_pos (.inr (.inl h2))]
    rw [hs]
    go_enter Try.func39, Try.ntmps39
    go_wp2
    go_quiet (fail)
    go_wp2
    go_ret2
    exact ⟨_, rfl, Kd.R_nil _ _ _ _ _, pw_below_drewN (below_alloc (Below.refl _ _) _) _⟩
  by_cases h3 : x1 < 1
  · have g1 : decide (x2 < 1) = false := by simp; omega
    have g2 : decide ((4096 : Int) < x2) = false := by simp; omega
    have hs : openS l0 ⟨x0, x1, x2, x3⟩ = ([], 110) := by unfold openS; rw [if_pos (.inr (.inr (.inl h3)))]
    rw [hs]
    go_enter Try.func39, Try.ntmps39
    go_wp2
    go_quiet (fail)
    go_wp2
    go_ret2
    exact ⟨_, rfl, Kd.R_nil _ _ _ _ _, pw_below_drewN (below_alloc (Below.refl _ _) _) _⟩
  by_cases h4 : x1 > x2
  · have g1 : decide (x2 < 1) = false := by simp; omega
    have g2 : decide ((4096 : Int) < x2) = false := by simp; omega
    have g3 : decide (x1 < 1) = false := by simp; omega
    have g4 : x2 < x1 := h4
    have hs : openS l0 ⟨x0, x1, x2, x3⟩ = ([], 110) := by unfold openS; rw [if_pos (.inr (.inr (.inr (.inl h4))))]
    rw [hs]
    go_enter Try.func39, Try.ntmps39
    go_wp2
    go_quiet (fail)
    go_wp2
    go_ret2
    exact ⟨_, rfl, Kd.R_nil _ _ _ _ _, pw_below_drewN (below_alloc (Below.refl _ _) _) _⟩
  have g1 : decide (x2 < 1) = false := by simp; omega
  have g2 : decide ((4096 : Int) < x2) = false := by simp; omega
  have g3 : decide (x1 < 1) = false := by simp; omega
  have g4 : decide (x2 < x1) = false := by simp; omega
  by_cases h5 : (l0.length : Int) ≠ x1
  · have g5 : ((l0.length : Int) != x1) = true := by simpa using h5
    have hs : openS l0 ⟨x0, x1, x2, x3⟩ = ([], 110) := by unfold openS; rw [if_pos (.inr (.inr (.inr (.inr (.inl h5)))))]
    rw [hs]
    go_enter Try.func39, Try.ntmps39
    go_wp2
    go_quiet (fail)
    go_wp2
    go_ret2
    exact ⟨_, rfl, Kd.R_nil _ _ _ _ _, pw_below_drewN (below_alloc (Below.refl _ _) _) _⟩
  have h5' : x1 = (l0.length : Int) := by simpa using (Eq.symm (Classical.not_not.1 h5))
  subst h5'
  obtain ⟨n, rfl⟩ := Int.eq_ofNat_of_zero_le (a := x2) (by omega)
  have hr0 := HR0.out
  by_cases h6 : (sumS l0 : Int) ≠ x3
  · have hs : openS l0 ⟨x0, l0.length, n, x3⟩ = ([], 110) := by unfold openS; rw [if_pos (.inr (.inr (.inr (.inr (.inr h6)))))]
    rw [hs]
    exact (bopen_sum A0 c0 l0 n x0 x3 _ w hr0 hby (by omega) (by omega) (by omega) rfl h6).mono fun e w' ⟨he, hb⟩ => ⟨_, he, Kd.R_nil _ _ _ _ _, hb⟩
  · have h6' : x3 = (sumS l0 : Int) := (Classical.not_not.1 h6).symm
    subst h6'
    have hbad : ¬ badB l0 ⟨x0, l0.length, n, sumS l0⟩ := by
      unfold badB
      simp only [not_or]
      exact ⟨h1, h2, h3, h4, h5, h6⟩
    by_cases h7 : l0.length = n
    · subst h7
      have hs : openS l0 ⟨x0, l0.length, l0.length, sumS l0⟩ = (l0, 0) := by unfold openS; rw [if_neg hbad, if_pos rfl]
      rw [hs]
      exact bopen_copy A0 c0 l0 x0 _ w hr0 hby (by omega) (by omega) rfl
    · have hs : openS l0 ⟨x0, l0.length, n, sumS l0⟩ = (if (unpackS l0 n).2 = 0 then (unpackS l0 n).1 else [], if (unpackS l0 n).2 = 0 then 0 else 110) := by
        unfold openS
        rw [if_neg hbad, if_neg (by simp; omega)]
        by_cases hu : (unpackS l0 n).2 = 0 <;> simp [hu]
      rw [hs]
      exact bopen_press A0 c0 l0 n x0 _ _ w hr0 hby (by omega) (by omega) (by omega) rfl rfl
end Go.Proofs.Ytoefligelajfkaa.Block
