import Derived.Test.YtoefligelajfkaaSum
import Derived.IntWalk
import Derived.Test.YtoefligelajfkaaBOpen
import Derived.Test.YtoefligelajfkaaRefUn
import Derived.Test.YtoefligelajfkaaPBlockOpensx0
import Derived.Deep.Slices
import Derived.ChangeSame
import Derived.SizedLaws
import Derived.OpenShut
import Derived.Test.YtoefligelajfkaaLay
import Derived.BigQuiet
import Derived.Test.YtoefligelajfkaaBytes
import Derived.Deep.RegionHeld3
import Derived.Deep.DrawnRows
namespace Go.Proofs.Ytoefligelajfkaa.Block
open Go.RowKit Go.Proofs.YtoefligelajfkaaW.PrintWords Go.Proofs.YtoefligelajfkaaW.PrintLast Go.Proofs.YtoefligelajfkaaW.PrintMore Go.Proofs.Ytoefligelajfkaa.Press

theorem xor64 (a b : Nat) (ha : a < 4294967296) (hb : b < 4294967296) : bits .xor .i64 (a : Int) (b : Int) = ((a ^^^ b : Nat) : Int) := by
  show IntKind.i64.wrap (((BitVec.ofInt 64 (a : Int)) ^^^ (BitVec.ofInt 64 (b : Int))).toNat : Int) = _
  have := Nat.xor_lt_two_pow (n := 32) ha hb
  rw [BitVec.toNat_xor, ofInt_u64 a (by omega), ofInt_u64 b (by omega), IntWalk.i64_in _ (by omega)]

set_option maxHeartbeats 2000000 in
theorem ref_sum_any (A0 : Option Addr) (c0 : Nat) (l0 : List Int) (w : World) (hr0 : Kd.C (Kd.int .u8) w A0 l0.length l0) (hby : ∀ x ∈ l0, 0 ≤ x ∧ x ≤ 255) (hl : l0.length ≤ 140737488355328) :
    Calls Try.prog 54 #[.slice A0 l0.length c0] w fun e w' => e = .returned (.int .i64 (sumS l0)) ∧ w = w' := by
  have HR0 := Aside0.mk hr0
  clear hr0
  go_enter Try.func54, Try.ntmps54
  go_wp2
  go_loopg [3, 4] (l0.length) (fun k v3 v4 w' => ∃ r j : Nat, v3 = .int .i64 r ∧ v4 = .int .i64 j ∧ j + k = l0.length ∧ r < 4294967296 ∧ Aside0 (sumR (l0.drop j) r = sumR l0 4294967295) ∧ w' = w)
  case atStart => exact ⟨4294967295, 0, rfl, rfl, by omega, by omega, ⟨rfl⟩, rfl⟩
  case round =>
    obtain ⟨r, j, rfl, rfl, hjk, hr, HS, rfl⟩ := hrel
    cases gk with
    | zero =>
      have hj : j = l0.length := by omega
      subst hj
      have hs := HS.out
      rw [List.drop_length] at hs
      have hfin : (4294967295 : Int) - (r : Int) = (sumS l0 : Int) := by
        rw [sumS, ← hs]
        show _ = ((4294967295 - r : Nat) : Int)
        omega
      clear hs HS
      go_wp2
      go_ret
      exact ⟨rfl, rfl⟩
    | succ k =>
      have hjl : j < l0.length := by omega
      have hjl1 : (j : Int) < (l0.length : Int) := by omega
      obtain ⟨ad, e0, hx⟩ := Kd.at_int HR0.out (j : Int) (by omega) (by omega)
      cases e0
      obtain ⟨x, hxn⟩ : ∃ x : Nat, rd l0 (j : Int) = (x : Int) := ⟨(rd l0 (j : Int)).toNat, by have := rd_byte hby (j : Int); omega⟩
      have hxb : x ≤ 255 := by have := rd_byte hby (j : Int); omega
      rw [hxn] at hx
      simp only [Int.toNat_natCast] at hx
      obtain ⟨r1, hr1⟩ : ∃ r1, r1 = r ^^^ x := ⟨_, rfl⟩
      have hr1l : r1 < 4294967296 := by rw [hr1]; exact Nat.xor_lt_two_pow (n := 32) hr (by omega)
      have hs := HS.out
      rw [drop_cons l0 j hjl, sumR, ← rd_nat, hxn, Int.toNat_natCast, ← hr1] at hs
      have hb1 : bits .xor .i64 (r : Int) (x : Int) = (r1 : Int) := by rw [hr1]; exact xor64 r x hr (by omega)
      have HS2 := Aside0.mk hs
      clear hs HS hr1 hxn
      go_wp2
      go_loopg [3, 5] 8 (fun k v3 v5 w' => ∃ t r : Nat, v3 = .int .i64 r ∧ v5 = .int .i64 t ∧ t + k = 8 ∧ r < 4294967296 ∧ Aside0 (f1n k r = f4 (f4 r1)) ∧ w' = wr)
      case atStart => exact ⟨0, r1, rfl, rfl, rfl, hr1l, ⟨rfl⟩, rfl⟩
      case round =>
        obtain ⟨t, r2, rfl, rfl, htk, hr2, HF, rfl⟩ := hrel
        cases gk with
        | zero =>
          have ht8 : t = 8 := by omega
          subst ht8
          have hrf : r2 = f4 (f4 r1) := HF.out
          have HS3 : Aside0 (sumR (l0.drop (j + 1)) r2 = sumR l0 4294967295) := ⟨by rw [hrf]; exact HS2.out⟩
          clear hrf HF
          go_wp2
          go_roundg k
          case measure => omega
          case rel => exact ⟨r2, j + 1, rfl, by go_num, by omega, hr2, HS3, rfl⟩
        | succ kt =>
          have ht : (t : Int) < 8 := by omega
          have HF2 : Aside0 (f1n kt (f1 r2) = f4 (f4 r1)) := ⟨HF.out⟩
          have hf1 : f1 r2 < 4294967296 := f1_lt hr2
          clear HF
          by_cases hodd : r2 % 2 = 1
          · have hmod : (r2 : Int) % 2 = 1 := by omega
            have hhalf : bits .xor .i64 ((r2 : Int) / 2) 3988292384 = (f1 r2 : Int) := by
              have := xor64 (r2 / 2) 3988292384 (by omega) (by omega)
              rw [f1, if_pos hodd, ← this]; rfl
            clear hodd
            go_wp2
            go_roundg kt
            case measure => omega
            case rel => exact ⟨t + 1, f1 r2, rfl, by go_num, by omega, hf1, HF2, rfl⟩
          · have hmod : (r2 : Int) % 2 = 0 := by omega
            have hhalf : (r2 : Int) / 2 = (f1 r2 : Int) := by rw [f1, if_neg hodd]; rfl
            clear hodd
            go_wp2
            go_roundg kt
            case measure => omega
            case rel => exact ⟨t + 1, f1 r2, by first | rfl | rw [hhalf], by go_num, by omega, hf1, HF2, rfl⟩
end Go.Proofs.Ytoefligelajfkaa.Block

namespace Go.Proofs.Ytoefligelajfkaa.Block
open Go.RowKit Go.Proofs.YtoefligelajfkaaW.PrintWords Go.Proofs.YtoefligelajfkaaW.PrintLast Go.Proofs.YtoefligelajfkaaW.PrintMore Go.Proofs.Ytoefligelajfkaa.Press
open Go.Proofs.Ytoefligelajfkaa.PBlockOpens (S58 k58 z58 k58_open k58_mk k58_mkM k58_openM rd_T58 at_T58)
attribute [local go_sem ↓] Go.wp_at_zero Go.wp_at_succ
set_option maxHeartbeats 4000000 in
theorem ropen_sum (A0 : Option Addr) (c0 : Nat) (l0 : List Int) (n : Nat) (x0 x3 : Int) (ns : Nat) (w : World) (hr0 : Kd.C (Kd.int .u8) w A0 l0.length l0) (hby : ∀ x ∈ l0, 0 ≤ x ∧ x ≤ 255) (_hc0 : l0.length ≤ c0) (h1 : 1 ≤ l0.length) (h2 : l0.length ≤ n) (h3 : n ≤ 4096) (hns : sumS l0 = ns) (h6 : (ns : Int) ≠ x3) :
    Calls Try.prog 38 #[.slice A0 l0.length c0, .agg #[.int .i64 x0, .int .i64 l0.length, .int .i64 n, .int .i64 x3]] w fun e w' => e = .returned (.tuple #[.slice none 0 0, .int .i64 110]) ∧ Below w.heap.size w w' := by
  have HR0 := Aside0.mk hr0
  have HNS := Aside0.mk hns
  have g1 : decide ((n : Int) < 1) = false := by simp; omega
  have g2 : decide ((4096 : Int) < (n : Int)) = false := by simp; omega
  have g3 : decide ((l0.length : Int) < 1) = false := by simp; omega
  have g4 : decide ((n : Int) < (l0.length : Int)) = false := by simp; omega
  have g4b : decide (n < l0.length) = false := by simp; omega
  have g5 : ((l0.length : Int) != (l0.length : Int)) = false := by simp
  have g6 : ((ns : Int) != x3) = true := by simpa using h6
  clear hr0 hns h6
  go_enter Try.func38, Try.ntmps38
  go_wp2_with fail
  go_region_held3 (fun w' => w'.cell? ⟨w.heap.size, 1, none⟩ = some (.int .i64 l0.length) ∧ w'.cell? ⟨w.heap.size, 2, none⟩ = some (.int .i64 n) ∧ w'.cell? ⟨w.heap.size, 3, none⟩ = some (.int .i64 x3)) (go_keep)
    (first | (go_at_call 54; refine (ref_sum_any _ _ _ _ (Kd.C_below HR0.out ((Below.refl _ _).alloc (Nat.le_refl _) _).drew) hby (by omega)).mono ?_; rw [HNS.out]; rintro e w5 ⟨rfl, rfl⟩))
  go_wp2
  go_ret2
  exact ⟨rfl, Below.drew ((Below.refl _ _).alloc (Nat.le_refl _) _)⟩

set_option maxHeartbeats 4000000 in
theorem ropen_copy (A0 : Option Addr) (c0 : Nat) (l0 : List Int) (x0 : Int) (ns : Nat) (w : World) (hr0 : Kd.C (Kd.int .u8) w A0 l0.length l0) (hby : ∀ x ∈ l0, 0 ≤ x ∧ x ≤ 255) (_hc0 : l0.length ≤ c0) (h1 : 1 ≤ l0.length) (h3 : l0.length ≤ 4096) (hns : sumS l0 = ns) :
    Calls Try.prog 38 #[.slice A0 l0.length c0, .agg #[.int .i64 x0, .int .i64 l0.length, .int .i64 l0.length, .int .i64 ns]] w fun e w' => ∃ v, e = .returned (.tuple #[v, .int .i64 0]) ∧
      Kd.R (Kd.int .u8) 5 w' w.heap.size (fun _ => True) v l0 ∧ Below w.heap.size w w' := by
  have HR0 := Aside0.mk hr0
  have HNS := Aside0.mk hns
  have g1 : decide ((l0.length : Int) < 1) = false := by simp; omega
  have g2 : decide ((4096 : Int) < (l0.length : Int)) = false := by simp; omega
  have g3 : decide ((l0.length : Int) < 1) = false := by simp; omega
  have g4 : decide ((l0.length : Int) < (l0.length : Int)) = false := by simp
  have g4b : decide (l0.length < l0.length) = false := by simp
  have g5 : ((l0.length : Int) != (l0.length : Int)) = false := by simp
  clear hr0 hns
  go_enter Try.func38, Try.ntmps38
  go_wp2_with fail
  go_region_held3 (fun w' => w'.cell? ⟨w.heap.size, 1, none⟩ = some (.int .i64 l0.length) ∧ w'.cell? ⟨w.heap.size, 2, none⟩ = some (.int .i64 l0.length) ∧ w'.cell? ⟨w.heap.size, 3, none⟩ = some (.int .i64 ns)) (go_keep)
    (first | (go_at_call 54; refine (ref_sum_any _ _ _ _ (Kd.C_below HR0.out ((Below.refl _ _).alloc (Nat.le_refl _) _).drew) hby (by omega)).mono ?_; rw [HNS.out]; rintro e w5 ⟨rfl, rfl⟩))
  obtain ⟨o5, ho5⟩ : ∃ o5 : Obj, o5 = .cells #[.int .i64 x0, .int .i64 l0.length, .int .i64 l0.length, .int .i64 ns] 58 := ⟨_, rfl⟩
  have HB : Aside0 (Below w.heap.size w (w.alloc o5).drew) := ⟨Below.drew ((Below.refl _ _).alloc (Nat.le_refl _) _)⟩
  have HC : Aside0 (Kd.C (Kd.int .u8) (w.alloc o5).drew A0 l0.length l0) := ⟨Kd.C_drew (Kd.C_alloc HR0.out _)⟩
  obtain ⟨b0, b1, b2, b3⟩ : Boxed (w.alloc o5).drew w.heap.size x0 l0.length l0.length ns := Boxed.of (by rw [ho5]; exact heap_alloc_new w _)
  rw [← ho5]
  generalize (w.alloc o5).drew = W5 at HB HC b0 b1 b2 b3
  go_wp2_with (at_builtin; refine Kd.R_append_rows (Kd.int .u8) (w0 := w) w.heap.size rfl (.tmp 47) (.tmp 48) 22 5 (.int .u8 0) 1 rfl Try.underlying22 info5 rfl (by decide) (by omega) (.slice (some ⟨W5.heap.size, 0, none⟩) 0 0) [] l0 A0 l0.length c0 (fun _ => True) (fun _ => False) rfl rfl (empty_row W5 w.heap.size HB.out.size) (Kd.C_alloc HC.out _) (fun _ _ h => h) (fun _ hk => hk.elim) (fun _ _ => trivial) (below_alloc HB.out _) (by simp; have := HB.out.size; omega) (by simp; omega) ?_; intro v8 w8 ho8 hb8 hg8 hat8)
  go_ret2
  exact ⟨_, rfl, ho8, hb8⟩

set_option maxHeartbeats 4000000 in
theorem ropen_press (A0 : Option Addr) (c0 : Nat) (l0 : List Int) (n : Nat) (x0 : Int) (ns : Nat) (r : List Int × Int) (w : World) (hr0 : Kd.C (Kd.int .u8) w A0 l0.length l0) (hby : ∀ x ∈ l0, 0 ≤ x ∧ x ≤ 255) (hc0 : l0.length ≤ c0) (h1 : 1 ≤ l0.length) (h2 : l0.length < n) (h3 : n ≤ 4096) (hns : sumS l0 = ns) (hu : unpackS l0 n = r) :
    Calls Try.prog 38 #[.slice A0 l0.length c0, .agg #[.int .i64 x0, .int .i64 l0.length, .int .i64 n, .int .i64 ns]] w fun e w' => ∃ v, e = .returned (.tuple #[v, .int .i64 (if r.2 = 0 then 0 else 110)]) ∧
      Kd.R (Kd.int .u8) 5 w' w.heap.size (fun _ => True) v (if r.2 = 0 then r.1 else []) ∧ Below w.heap.size w w' := by
  obtain ⟨r1, r2⟩ := r
  have HR0 := Aside0.mk hr0
  have HNS := Aside0.mk hns
  have g1 : decide ((n : Int) < 1) = false := by simp; omega
  have g2 : decide ((4096 : Int) < (n : Int)) = false := by simp; omega
  have g3 : decide ((l0.length : Int) < 1) = false := by simp; omega
  have g4 : decide ((n : Int) < (l0.length : Int)) = false := by simp; omega
  have g4b : decide (n < l0.length) = false := by simp; omega
  have g5 : ((l0.length : Int) != (l0.length : Int)) = false := by simp
  have HU := Aside0.mk hu
  have g7 : ((l0.length : Int) == (n : Int)) = false := by simp; omega
  have g7b : (l0.length == n) = false := by simp; omega
  clear hr0 hns hu
  by_cases h0 : r2 = 0
  · subst h0
    simp only [if_true]
    go_enter Try.func38, Try.ntmps38
    go_wp2_with fail
    go_region_held3 (fun w' => w'.cell? ⟨w.heap.size, 1, none⟩ = some (.int .i64 l0.length) ∧ w'.cell? ⟨w.heap.size, 2, none⟩ = some (.int .i64 n) ∧ w'.cell? ⟨w.heap.size, 3, none⟩ = some (.int .i64 ns)) (go_keep)
      (first | (go_at_call 54; refine (ref_sum_any _ _ _ _ (Kd.C_below HR0.out ((Below.refl _ _).alloc (Nat.le_refl _) _).drew) hby (by omega)).mono ?_; rw [HNS.out]; rintro e w5 ⟨rfl, rfl⟩))
    have HB : Aside0 (Below w.heap.size w (w.alloc (.cells #[.int .i64 x0, .int .i64 l0.length, .int .i64 n, .int .i64 ns] 58)).drew) := ⟨Below.drew ((Below.refl _ _).alloc (Nat.le_refl _) _)⟩
    go_wp2_with (first
      | (go_at_call 26; refine (ref_unpack_any _ _ l0 n _ (Kd.C_below HR0.out HB.out) hby hc0 (by omega)).mono ?_; rw [HU.out]; rintro e w6 ⟨v6, rfl, hR6, hB6⟩; obtain ⟨A6, k6, rfl⟩ := Kd.R_slice hR6; have H6 := Aside0.mk (⟨hR6, hB6⟩ : _ ∧ _); clear hR6 hB6))
    go_ret2
    exact ⟨_, rfl, Kd.R_lower H6.out.1 HB.out.size, below_step HB.out H6.out.2⟩
  · have g8 : (r2 != 0) = true := by simpa using h0
    simp only [h0, if_false]
    clear h0
    go_enter Try.func38, Try.ntmps38
    go_wp2_with fail
    go_region_held3 (fun w' => w'.cell? ⟨w.heap.size, 1, none⟩ = some (.int .i64 l0.length) ∧ w'.cell? ⟨w.heap.size, 2, none⟩ = some (.int .i64 n) ∧ w'.cell? ⟨w.heap.size, 3, none⟩ = some (.int .i64 ns)) (go_keep)
      (first | (go_at_call 54; refine (ref_sum_any _ _ _ _ (Kd.C_below HR0.out ((Below.refl _ _).alloc (Nat.le_refl _) _).drew) hby (by omega)).mono ?_; rw [HNS.out]; rintro e w5 ⟨rfl, rfl⟩))
    have HB : Aside0 (Below w.heap.size w (w.alloc (.cells #[.int .i64 x0, .int .i64 l0.length, .int .i64 n, .int .i64 ns] 58)).drew) := ⟨Below.drew ((Below.refl _ _).alloc (Nat.le_refl _) _)⟩
    go_wp2_with (first
      | (go_at_call 26; refine (ref_unpack_any _ _ l0 n _ (Kd.C_below HR0.out HB.out) hby hc0 (by omega)).mono ?_; rw [HU.out]; rintro e w6 ⟨v6, rfl, hR6, hB6⟩; obtain ⟨A6, k6, rfl⟩ := Kd.R_slice hR6; have H6 := Aside0.mk (⟨hR6, hB6⟩ : _ ∧ _); clear hR6 hB6))
    go_ret2
    exact ⟨_, rfl, Kd.R_nil _ _ _ _ _, below_step HB.out H6.out.2⟩
set_option maxHeartbeats 4000000 in
theorem ropen_any (A0 : Option Addr) (c0 : Nat) (l0 : List Int) (x0 x1 x2 x3 : Int) (w : World) (hr0 : Kd.C (Kd.int .u8) w A0 l0.length l0) (hby : ∀ x ∈ l0, 0 ≤ x ∧ x ≤ 255) (hc0 : l0.length ≤ c0) (hl : l0.length ≤ 140737488355328) :
    Calls Try.prog 38 #[.slice A0 l0.length c0, .agg #[.int .i64 x0, .int .i64 x1, .int .i64 x2, .int .i64 x3]] w fun e w' => ∃ v, e = .returned (.tuple #[v, .int .i64 (openS l0 ⟨x0, x1, x2, x3⟩).2]) ∧
      Kd.R (Kd.int .u8) 5 w' w.heap.size (fun _ => True) v (openS l0 ⟨x0, x1, x2, x3⟩).1 ∧ Below w.heap.size w w' := by
  have HR0 := Aside0.mk hr0
  clear hr0
  by_cases h1 : x2 < 1
  · skip
    have hs : openS l0 ⟨x0, x1, x2, x3⟩ = ([], 110) := by unfold openS; rw [if_pos (.inl h1)]
    rw [hs]
    go_enter Try.func38, Try.ntmps38
    go_wp2
    go_quiet (fail)
    go_wp2
    go_ret2
    exact ⟨_, rfl, Kd.R_nil _ _ _ _ _, pw_below_drewN (below_alloc (Below.refl _ _) _) _⟩
  by_cases h2 : x2 > 4096
  · have g2 : (4096 : Int) < x2 := h2
    have g1 : decide (x2 < 1) = false := by simp; omega
    have hs : openS l0 ⟨x0, x1, x2, x3⟩ = ([], 110) := by unfold openS; rw [if_pos (.inr (.inl h2))]
    rw [hs]
    go_enter Try.func38, Try.ntmps38
    go_wp2
    go_quiet (fail)
    go_wp2
    go_ret2
    exact ⟨_, rfl, Kd.R_nil _ _ _ _ _, pw_below_drewN (below_alloc (Below.refl _ _) _) _⟩
  by_cases h3 : x1 < 1
  · have g1 : decide (x2 < 1) = false := by simp; omega
    have g2 : decide ((4096 : Int) < x2) = false := by simp; omega
    have hs : openS l0 ⟨x0, x1, x2, x3⟩ = ([], 110) := by unfold openS; rw [if_pos (.inr (.inr (.inl h3)))]
    rw [hs]
    go_enter Try.func38, Try.ntmps38
    go_wp2
    go_quiet (fail)
    go_wp2
    go_ret2
    exact ⟨_, rfl, Kd.R_nil _ _ _ _ _, pw_below_drewN (below_alloc (Below.refl _ _) _) _⟩
  by_cases h4 : x1 > x2
  · have g1 : decide (x2 < 1) = false := by simp; omega
    have g2 : decide ((4096 : Int) < x2) = false := by simp; omega
    have g3 : decide (x1 < 1) = false := by simp; omega
    have g4 : x2 < x1 := h4
    have hs : openS l0 ⟨x0, x1, x2, x3⟩ = ([], 110) := by unfold openS; rw [if_pos (.inr (.inr (.inr (.inl h4))))]
    rw [hs]
    go_enter Try.func38, Try.ntmps38
    go_wp2
    go_quiet (fail)
    go_wp2
    go_ret2
    exact ⟨_, rfl, Kd.R_nil _ _ _ _ _, pw_below_drewN (below_alloc (Below.refl _ _) _) _⟩
  have g1 : decide (x2 < 1) = false := by simp; omega
  have g2 : decide ((4096 : Int) < x2) = false := by simp; omega
  have g3 : decide (x1 < 1) = false := by simp; omega
  have g4 : decide (x2 < x1) = false := by simp; omega
  by_cases h5 : (l0.length : Int) ≠ x1
  · have g5 : ((l0.length : Int) != x1) = true := by simpa using h5
    have hs : openS l0 ⟨x0, x1, x2, x3⟩ = ([], 110) := by unfold openS; rw [if_pos (.inr (.inr (.inr (.inr (.inl h5)))))]
    rw [hs]
    go_enter Try.func38, Try.ntmps38
    go_wp2
    go_quiet (fail)
    go_wp2
    go_ret2
    exact ⟨_, rfl, Kd.R_nil _ _ _ _ _, pw_below_drewN (below_alloc (Below.refl _ _) _) _⟩
  have h5' : x1 = (l0.length : Int) := by simpa using (Eq.symm (Classical.not_not.1 h5))
  subst h5'
  obtain ⟨n, rfl⟩ := Int.eq_ofNat_of_zero_le (a := x2) (by omega)
  have hr0 := HR0.out
  by_cases h6 : (sumS l0 : Int) ≠ x3
  · have hs : openS l0 ⟨x0, l0.length, n, x3⟩ = ([], 110) := by unfold openS; rw [if_pos (.inr (.inr (.inr (.inr (.inr h6)))))]
    rw [hs]
    exact (ropen_sum A0 c0 l0 n x0 x3 _ w hr0 hby hc0 (by omega) (by omega) (by omega) rfl h6).mono fun e w' ⟨he, hb⟩ => ⟨_, he, Kd.R_nil _ _ _ _ _, hb⟩
  · have h6' : x3 = (sumS l0 : Int) := (Classical.not_not.1 h6).symm
    subst h6'
    have hbad : ¬ badB l0 ⟨x0, l0.length, n, sumS l0⟩ := by
      unfold badB
      simp only [not_or]
      exact ⟨h1, h2, h3, h4, h5, h6⟩
    by_cases h7 : l0.length = n
    · subst h7
      have hs : openS l0 ⟨x0, l0.length, l0.length, sumS l0⟩ = (l0, 0) := by unfold openS; rw [if_neg hbad, if_pos rfl]
      rw [hs]
      exact ropen_copy A0 c0 l0 x0 _ w hr0 hby hc0 (by omega) (by omega) rfl
    · have hs : openS l0 ⟨x0, l0.length, n, sumS l0⟩ = (if (unpackS l0 n).2 = 0 then (unpackS l0 n).1 else [], if (unpackS l0 n).2 = 0 then 0 else 110) := by
        unfold openS
        rw [if_neg hbad, if_neg (by simp; omega)]
        by_cases hu : (unpackS l0 n).2 = 0 <;> simp [hu]
      rw [hs]
      exact ropen_press A0 c0 l0 n x0 _ _ w hr0 hby hc0 (by omega) (by omega) (by omega) rfl rfl
end Go.Proofs.Ytoefligelajfkaa.Block

namespace Go.Proofs.Ytoefligelajfkaa.OpenK
open Go.ChangeShapes Go.WideShapes Go.Deep Go.Proofs.YtoefligelajfkaaW.PrintWords

/-- Whatever reads as a datum of a type reads as a value of a kind, and the value is good. -/
def Opens {α H : Type} (P : Program) (enc : TypeId × Value → H) (w : World) (d : Kd α) (e : TypeId) (good : α → Prop) : Prop :=
  ∀ (fuel : Nat) (cs : List Value) (x : DataW H × List MemPlace), DataW.trod enc P w 0 (fun _ => true) true fuel e cs = some x → (∀ n ∈ DataW.weights P e x.1, n ≤ reachBytes) → ∃ v, d.K w v cs ∧ good v

theorem opens_int {H : Type} {P : Program} {enc : TypeId × Value → H} {w : World} {e : TypeId} {k : IntKind} (he : P.underlying e = some (.int k)) : Opens P enc w (Kd.int k) e (fun n => (Lit.int k n).wf = true) := by
  intro fuel cs x h _
  obtain ⟨n, rfl, _, hw⟩ := DataW.trod_int he h
  exact ⟨n, rfl, hw⟩

theorem opens_slice {α H : Type} {P : Program} {enc : TypeId × Value → H} {w : World} {d : Kd α} {t e : TypeId} {good : α → Prop} [Inhabited α] (ht : P.underlying t = some (.slice e)) (hc : P.cellsOf e = d.sz) {B : Nat} (hB : P.bytesOf e = B) (h : Opens P enc w d e good) :
    Opens P enc w (Kd.slice e d) t (fun l => l.length * B ≤ 140737488351232 ∧ ∀ x ∈ l, good x) := by
  intro fuel cs x hx hw
  rcases open_slice ht hx with ⟨rfl, _⟩ | ⟨a, len, cap, m, n, D, Pl, rfl, _, hl, hm, rfl, rfl, hi⟩
  · exact ⟨[], ⟨none, 0, rfl, Nat.le_refl _, Kd.C_nil d w⟩, by simp, by simp⟩
  · simp only [] at hi hw
    simp only [DataW.weights, ht] at hw
    have hwl := hw _ (List.mem_cons_self)
    have hwe : ∀ i, i < len → ∀ z ∈ DataW.weights P e (D i), z ≤ reachBytes := by
      intro i hil z hz
      refine hw z (List.mem_cons_of_mem _ (List.mem_append_left _ ?_))
      have key : ∀ (l : List (DataW H)), D i ∈ l → z ∈ DataW.weightsAll P e l := by
        intro l
        induction l with
        | nil => intro h; simp at h
        | cons y r ih =>
          intro h
          rw [DataW.weightsAll, List.mem_append]
          rcases List.mem_cons.1 h with rfl | h
          · exact .inl hz
          · exact .inr (ih h)
      exact key _ (List.mem_map.2 ⟨i, List.mem_range.2 hil, rfl⟩)
    obtain ⟨f, hf⟩ := choose_lt (n := len) (p := fun i v => (∃ cs', w.cells? 0 (a.add (i * P.cellsOf e)) (P.cellsOf e) = some cs' ∧ d.K w v cs') ∧ good v) (fun i hil => by
      obtain ⟨cs', h1, h2⟩ := hi i (by omega)
      obtain ⟨v, hK, hg⟩ := h n cs' _ h2 (hwe i hil)
      exact ⟨v, ⟨cs', h1, hK⟩, hg⟩)
    refine ⟨(List.range len).map f, ⟨some a, m, by simp, by simpa using hl, ?_⟩, ?_, ?_⟩
    · refine ⟨rfl, by simp; unfold maxLen at hm; omega, fun hpos => ⟨a, rfl, fun j p hj => ?_⟩⟩
      simp only [List.length_map, List.length_range] at hpos
      rw [List.getElem?_map] at hj
      obtain ⟨i, hi1, rfl⟩ := Option.map_eq_some_iff.1 hj
      have hjl : j < len := by have := (List.getElem?_eq_some_iff.1 hi1).1; simpa using this
      have hij : i = j := by
        rw [List.getElem?_range hjl] at hi1
        simpa using hi1.symm
      subst hij
      obtain ⟨⟨cs', h1, hK⟩, _⟩ := hf i hjl
      rw [hc] at h1
      obtain ⟨_, hlen, hcell⟩ := World.cells?_some h1
      refine ⟨cs', hlen, hK, fun k u hk => ?_⟩
      have hkl : k < d.sz := by have := (List.getElem?_eq_some_iff.1 hk).1; omega
      rw [← Go.Deep.add_add, hcell k hkl]
      exact hk
    · simp only [List.length_map, List.length_range] at hwl ⊢
      rw [hB] at hwl
      refine Nat.le_trans (Nat.mul_le_mul_right _ ?_) (Nat.le_trans hwl (by decide))
      omega
    · intro x hx
      obtain ⟨i, hi1, rfl⟩ := List.mem_map.1 hx
      exact (hf i (List.mem_range.1 hi1)).2

theorem opens_pair {α β H : Type} {P : Program} {enc : TypeId × Value → H} {w : World} {a : Kd α} {b : Kd β} {e : TypeId} {f0 f1 : Field} {ga : α → Prop} {gb : β → Prop} (hs : P.underlying e = some (.struct #[f0, f1])) (o0 : f0.offset = 0) (o1 : f1.offset = a.sz)
    (c0 : P.cellsOf f0.type = a.sz) (c1 : P.cellsOf f1.type = b.sz) (hc : P.cellsOf e = a.sz + b.sz) (ha : Opens P enc w a f0.type ga) (hb : Opens P enc w b f1.type gb) : Opens P enc w (Kd.pair a b) e (fun x => ga x.1 ∧ gb x.2) := by
  intro fuel cs x h hw
  obtain ⟨y0, y1, n, rfl, hl, h0, h1⟩ := trod_struct2 hs h
  simp only [DataW.weights, hs] at hw
  rw [o0, c0, List.drop_zero] at h0
  rw [o1, c1] at h1
  have hcs : (cs.drop a.sz).take b.sz = cs.drop a.sz := List.take_of_length_le (by simp; omega)
  rw [hcs] at h1
  obtain ⟨v0, hK0, g0⟩ := ha _ _ _ h0 (fun z hz => hw z (by simp [DataW.weightsEach]; exact .inl hz))
  obtain ⟨v1, hK1, g1⟩ := hb _ _ _ h1 (fun z hz => hw z (by simp [DataW.weightsEach]; exact .inr hz))
  exact ⟨(v0, v1), ⟨_, _, (List.take_append_drop _ _).symm, hK0, hK1⟩, g0, g1⟩

/-- Another name of the values. -/
theorem opens_iso {α β H : Type} {P : Program} {enc : TypeId × Value → H} {w : World} {d : Kd α} {e : TypeId} {good : α → Prop} (f : β → α) (g : α → β) (hfg : ∀ x, f (g x) = x) (h : Opens P enc w d e good) : Opens P enc w (Kd.iso d f) e (fun x => good (f x)) := by
  intro fuel cs x hx hw
  obtain ⟨v, hK, hg⟩ := h fuel cs x hx hw
  exact ⟨g v, by show d.K w (f (g v)) cs; rw [hfg]; exact hK, by show good (f (g v)); rw [hfg]; exact hg⟩

/-- A slice among a law's arguments. -/
theorem arg_slice {α H : Type} {P : Program} {enc : TypeId × Value → H} {W : World} {d : Kd α} {t e : TypeId} {good : α → Prop} {B : Nat} {a : Option Addr} {len cap : Nat} {x : DataW H} {ps : List MemPlace} {ts : List TypeId} {ds : List (DataW H)} {j : Nat}
    (ho : Opens P enc W (Kd.slice e d) t (fun l => l.length * B ≤ 140737488351232 ∧ ∀ x ∈ l, good x)) (hsz : (DataW.weightsEach P ts ds).all (· ≤ reachBytes) = true) (ht : ts[j]? = some t) (hd : ds[j]? = some x)
    (h : DataW.Trod enc P W 0 (fun _ => true) true t (.slice a len cap) x ps) : ∃ l : List α, len = l.length ∧ l.length ≤ cap ∧ d.C W a l.length l ∧ l.length * B ≤ 140737488351232 ∧ ∀ x ∈ l, good x := by
  obtain ⟨fuel, hf⟩ := h
  obtain ⟨l, ⟨A, c, e1, h1, h2⟩, h3, h4⟩ := ho fuel _ _ hf (fun n hn => by
    have := List.all_eq_true.1 hsz _ (DataW.weights_mem_each ht hd n hn)
    simpa using this)
  simp [Value.cells] at e1
  obtain ⟨rfl, rfl, rfl⟩ := e1
  exact ⟨l, rfl, h1, h2, h3, h4⟩

open Go.Proofs.Ytoefligelajfkaa.PBlockOpens (S58 k58 k58_mk)
theorem opens58 {H : Type} {enc : TypeId × Value → H} {w : World} : Opens Try.prog enc w k58 58 (fun b => (Lit.int .i64 b.f0).wf = true ∧ (Lit.int .i64 b.f1).wf = true ∧ (Lit.int .i64 b.f2).wf = true ∧ (Lit.int .i64 b.f3).wf = true) := by
  intro fuel cs x h _
  obtain ⟨xs, n, _, rfl, hl, hlen, hf⟩ := DataW.trod_struct Try.underlying58 h
  have hc : Try.prog.cellsOf 58 = 4 := by kernel_rfl
  have h3 : Try.prog.cellsOf 3 = 1 := by kernel_rfl
  rw [hc] at hl
  match cs, hl with
  | [c0, c1, c2, c3], _ =>
    match xs, hlen with
    | [y0, y1, y2, y3], _ =>
      have f0 : DataW.trod enc Try.prog w 0 (fun _ => true) true n 3 ((([c0, c1, c2, c3] : List Value).drop 0).take (Try.prog.cellsOf 3)) = some y0 := hf 0 _ rfl
      have f1 : DataW.trod enc Try.prog w 0 (fun _ => true) true n 3 ((([c0, c1, c2, c3] : List Value).drop 1).take (Try.prog.cellsOf 3)) = some y1 := hf 1 _ rfl
      have f2 : DataW.trod enc Try.prog w 0 (fun _ => true) true n 3 ((([c0, c1, c2, c3] : List Value).drop 2).take (Try.prog.cellsOf 3)) = some y2 := hf 2 _ rfl
      have f3 : DataW.trod enc Try.prog w 0 (fun _ => true) true n 3 ((([c0, c1, c2, c3] : List Value).drop 3).take (Try.prog.cellsOf 3)) = some y3 := hf 3 _ rfl
      rw [h3] at f0 f1 f2 f3
      obtain ⟨n0, e0, _, w0⟩ := DataW.trod_int Try.underlying3 f0
      obtain ⟨n1, e1, _, w1⟩ := DataW.trod_int Try.underlying3 f1
      obtain ⟨n2, e2, _, w2⟩ := DataW.trod_int Try.underlying3 f2
      obtain ⟨n3, e3, _, w3⟩ := DataW.trod_int Try.underlying3 f3
      simp only [List.drop_zero, List.take_succ_cons, List.take_zero, List.drop_succ_cons, List.cons.injEq, and_true] at e0 e1 e2 e3
      subst e0 e1 e2 e3
      exact ⟨⟨n0, n1, n2, n3⟩, k58_mk w _, w0, w1, w2, w3⟩
theorem opens47 {H : Type} {enc : TypeId × Value → H} {w : World} : Opens Try.prog enc w (Kd.slice 58 k58) 47 (fun l => l.length * 32 ≤ 140737488351232 ∧ ∀ b ∈ l, (Lit.int .i64 b.f0).wf = true ∧ (Lit.int .i64 b.f1).wf = true ∧ (Lit.int .i64 b.f2).wf = true ∧ (Lit.int .i64 b.f3).wf = true) :=
  haveI : Inhabited S58 := ⟨⟨0, 0, 0, 0⟩⟩
  opens_slice Try.underlying47 (by kernel_rfl) (by kernel_rfl) opens58

open Go.Proofs.Ytoefligelajfkaa.PBlockOpens (S60 k60)
/-- A row of bytes that a law is given. -/
def GoodB (l : List Int) : Prop := l.length * 1 ≤ 140737488351232 ∧ ∀ x ∈ l, (Lit.int .u8 x).wf = true
def Good58 (b : S58) : Prop := (Lit.int .i64 b.f0).wf = true ∧ (Lit.int .i64 b.f1).wf = true ∧ (Lit.int .i64 b.f2).wf = true ∧ (Lit.int .i64 b.f3).wf = true
theorem opens22 {H : Type} {enc : TypeId × Value → H} {w : World} : Opens Try.prog enc w (Kd.slice 5 (Kd.int .u8)) 22 GoodB :=
  opens_slice Try.underlying22 (by kernel_rfl) (by kernel_rfl) (opens_int Try.underlying5)
theorem opens60 {H : Type} {enc : TypeId × Value → H} {w : World} : Opens Try.prog enc w k60 60 (fun x => GoodB x.f0 ∧ Good58 x.f1) :=
  opens_iso (fun x : S60 => (x.f0, x.f1)) (fun p => ⟨p.1, p.2⟩) (fun _ => rfl) (opens_pair Try.underlying60 rfl rfl (by kernel_rfl) (by kernel_rfl) (by kernel_rfl) opens22 opens58)
theorem opens56 {H : Type} {enc : TypeId × Value → H} {w : World} : Opens Try.prog enc w (Kd.slice 60 k60) 56 (fun l => l.length * 56 ≤ 140737488351232 ∧ ∀ x ∈ l, GoodB x.f0 ∧ Good58 x.f1) :=
  haveI : Inhabited S60 := ⟨⟨[], ⟨0, 0, 0, 0⟩⟩⟩
  opens_slice Try.underlying56 (by kernel_rfl) (by kernel_rfl) opens60
theorem GoodB.bytes {l : List Int} (h : GoodB l) : ∀ x ∈ l, 0 ≤ x ∧ x ≤ 255 := fun x hx => Go.bounds_u8 (h.2 x hx)

/-- A row and a size. -/
structure SAsk where
  f0 : List Int
  f1 : Int
def kAsk : Kd SAsk := Kd.iso (Kd.pair (Kd.slice 5 (Kd.int .u8)) (Kd.int .i64)) (fun x : SAsk => (x.f0, x.f1))
theorem opens42 {H : Type} {enc : TypeId × Value → H} {w : World} : Opens Try.prog enc w kAsk 42 (fun x => GoodB x.f0 ∧ (Lit.int .i64 x.f1).wf = true) :=
  opens_iso (fun x : SAsk => (x.f0, x.f1)) (fun p => ⟨p.1, p.2⟩) (fun _ => rfl) (opens_pair Try.underlying42 rfl rfl (by kernel_rfl) (by kernel_rfl) (by kernel_rfl) opens22 (opens_int Try.underlying3))
theorem opens40 {H : Type} {enc : TypeId × Value → H} {w : World} : Opens Try.prog enc w (Kd.slice 42 kAsk) 40 (fun l => l.length * 32 ≤ 140737488351232 ∧ ∀ x ∈ l, GoodB x.f0 ∧ (Lit.int .i64 x.f1).wf = true) :=
  haveI : Inhabited SAsk := ⟨⟨[], 0⟩⟩
  opens_slice Try.underlying40 (by kernel_rfl) (by kernel_rfl) opens42
def rd_Ask (xs : List SAsk) (i : Int) : SAsk := xs.getD i.toNat ⟨[], 0⟩
theorem at_Ask {w : World} {A : Option Addr} {n : Nat} {xs : List SAsk} (h : Kd.C kAsk w A n xs) (i : Int) (h0 : 0 ≤ i) (h1 : i < n) : ∃ ad A0 c0, A = some ad ∧ w.cell? (ad.add (i.toNat * 2)) = some (.slice A0 (rd_Ask xs i).f0.length c0) ∧ w.cell? ⟨(ad.add (i.toNat * 2)).block, (ad.add (i.toNat * 2)).off + 1, none⟩ = some (.int .i64 (rd_Ask xs i).f1) ∧ (rd_Ask xs i).f0.length ≤ c0 ∧ (Kd.int .u8).C w A0 (rd_Ask xs i).f0.length (rd_Ask xs i).f0 := by
  obtain ⟨ad, c, e, _, hK, hc0⟩ := Kd.C_get h (⟨[], 0⟩ : SAsk) i h0 h1
  have hc : ∀ j u, c[j]? = some u → w.cell? (ad.add (i.toNat * 2 + j)) = some u := hc0
  obtain ⟨_, _, rfl, ⟨A0, c0, rfl, l0, g0⟩, rfl⟩ := hK
  exact ⟨ad, A0, c0, e, hc 0 _ rfl, by rw [← add_field _ _ 1 (by omega)]; exact hc 1 _ rfl, l0, g0⟩
end Go.Proofs.Ytoefligelajfkaa.OpenK

namespace Go.Proofs.Ytoefligelajfkaa.Block
open Go.RowKit Go.Proofs.YtoefligelajfkaaW.PrintWords Go.Proofs.YtoefligelajfkaaW.PrintLast Go.Proofs.YtoefligelajfkaaW.PrintMore Go.Proofs.Ytoefligelajfkaa.Press

/-- The desk: its block holds a slice of bytes of the law's own. -/
structure DInv (w0 : World) (gd : Nat) (W : World) (vb : Value) (B : List Int) : Prop where
  blk : W.heap[gd]? = some (.cells #[vb] 45 (0, 0))
  row : Kd.R (Kd.int .u8) 5 W w0.heap.size (fun _ => True) vb B
  bel : Below w0.heap.size w0 W
  old : w0.heap.size ≤ gd
theorem DInv.step {w0 : World} {gd : Nat} {W W1 : World} {vb : Value} {B : List Int} (h : DInv w0 gd W vb B) (hb : Below W.heap.size W W1) : DInv w0 gd W1 vb B :=
  ⟨blk_below h.blk hb, Kd.R_below h.row hb, below_step h.bel hb, h.old⟩
theorem DInv.ne {w0 : World} {gd g n k : Nat} {W : World} {B : List Int} (h : DInv w0 gd W (.slice (some ⟨g, 0, none⟩) n k) B) : gd ≠ g := by
  intro e
  subst e
  exact ne_block h.row h.blk (by decide) rfl
theorem DInv.put {w0 : World} {gd g n k : Nat} {W : World} {B : List Int} (h : DInv w0 gd W (.slice (some ⟨g, 0, none⟩) n k) B) (i : Nat) (x : Int) : DInv w0 gd (W.setCell ⟨g, i, none⟩ (.int .u8 x)) (.slice (some ⟨g, 0, none⟩) n k) (B.set i x) := by
  have hp := Kd.R_putn (enc := Value.int .u8) (h1 := fun _ => rfl) h.row (i : Int) x
  simp only [Int.toNat_natCast] at hp
  exact ⟨blk_far h.blk (p := ⟨g, i, none⟩) h.ne _, hp, h.bel.setCell (p := ⟨g, i, none⟩) (Kd.R_base h.row g rfl) _, h.old⟩
theorem DInv.grown {w0 : World} {gd g n k : Nat} {W W1 : World} {B B1 : List Int} (h : DInv w0 gd W (.slice (some ⟨g, 0, none⟩) n k) B) (hg : W.grownBy W1 (Value.slice (some ⟨g, 0, none⟩) n k).ownBlock)
    (hr : Kd.R (Kd.int .u8) 5 W1 w0.heap.size (fun _ => True) (.slice (some ⟨g, 0, none⟩) n k) B1) (hb : Below w0.heap.size w0 W1) : DInv w0 gd W1 (.slice (some ⟨g, 0, none⟩) n k) B1 :=
  ⟨blk_grown h.blk hg (by simp [Value.ownBlock]; exact h.ne), hr, hb, h.old⟩
theorem DInv.new {w0 : World} {gd : Nat} {W W1 : World} {vb v : Value} {B B1 : List Int} (h : DInv w0 gd W vb B) (hg : W.grownBy W1 none) (hr : Kd.R (Kd.int .u8) 5 W1 w0.heap.size (fun _ => True) v B1) (hb : Below w0.heap.size w0 W1) :
    W1.heap[gd]? = some (.cells #[vb] 45 (0, 0)) ∧ DInv w0 gd (W1.setCell ⟨gd, 0, none⟩ v) v B1 := by
  have hb1 : W1.heap[gd]? = some (.cells #[vb] 45 (0, 0)) := blk_grown h.blk hg (by simp)
  refine ⟨hb1, one_setCell hb1, ?_, hb.setCell (p := ⟨gd, 0, none⟩) h.old _, h.old⟩
  exact R_kept (row := some gd) hr (grown_set _ _ _ _) (by
    cases e : v.ownBlock with
    | none => exact .inl rfl
    | some q => exact .inr (fun he => ne_block hr hb1 (by decide) (by rw [e]; exact he)))

/-- What a lay may have written: the desk's block, the row that lay there, and new memory. -/
structure Kp (W W1 : World) (gd : Nat) (v0 : Value) : Prop where
  size : W.heap.size ≤ W1.heap.size
  keep : ∀ k, k < W.heap.size → k ≠ gd → some k ≠ v0.ownBlock → W1.heap[k]? = W.heap[k]?
theorem Kp.refl (W : World) (gd : Nat) (v0 : Value) : Kp W W gd v0 := ⟨Nat.le_refl _, fun _ _ _ _ => rfl⟩
theorem Kp.grown {W W1 W2 : World} {gd : Nat} {v0 : Value} {row : Option Nat} (h : Kp W W1 gd v0) (hg : W1.grownBy W2 row) (hr : ∀ k, row = some k → k = gd ∨ some k = v0.ownBlock ∨ W.heap.size ≤ k) : Kp W W2 gd v0 :=
  ⟨Nat.le_trans h.size hg.size, fun k hk h1 h2 => by
    rw [← h.keep k hk h1 h2]
    refine hg.block k (Nat.lt_of_lt_of_le hk h.size) (fun e => ?_)
    rcases hr k e.symm with h3 | h3 | h3
    · exact h1 h3
    · exact h2 h3
    · omega⟩
theorem Kp.set {W W1 : World} {gd : Nat} {v0 : Value} (h : Kp W W1 gd v0) {g : Nat} (hg : g = gd ∨ some g = v0.ownBlock ∨ W.heap.size ≤ g) (j : Nat) (u : Value) : Kp W (W1.setCell ⟨g, j, none⟩ u) gd v0 :=
  h.grown (grown_set W1 g j u) (fun k e => by cases e; exact hg)
theorem Kp.below {W W1 W2 : World} {gd : Nat} {v0 : Value} (h : Kp W W1 gd v0) (hb : Below W1.heap.size W1 W2) : Kp W W2 gd v0 :=
  ⟨Nat.le_trans h.size hb.size, fun k hk h1 h2 => (hb.block k (Nat.lt_of_lt_of_le hk h.size)).trans (h.keep k hk h1 h2)⟩
/-- Where a row lies behind a lay. -/
def At (W : World) (v0 v : Value) : Prop := ∀ k, v.ownBlock = some k → some k = v0.ownBlock ∨ W.heap.size ≤ k

/-- So many bytes of the desk are marked. -/
def markD (B : List Int) (i : Nat) : List Int := List.replicate i 171 ++ B.drop i
theorem markD_length (B : List Int) (i : Nat) (h : i ≤ B.length) : (markD B i).length = B.length := by simp [markD]; omega
theorem markD_set (B : List Int) (i : Nat) (h : i < B.length) : (markD B i).set i 171 = markD B (i + 1) := by
  rw [markD, markD, List.set_append_right _ _ (by simp), List.length_replicate, Nat.sub_self, List.drop_eq_getElem_cons h, List.set_cons_zero, List.replicate_succ', List.append_assoc]
  rfl
def deskS (data : List Int) (n : Nat) : List Int := data ++ List.replicate (n - data.length) 171

set_option maxHeartbeats 4000000 in
theorem desk_lay_any (w0 : World) (gd : Nat) (W : World) (vb : Value) (B : List Int) (A : Option Addr) (c : Nat) (data : List Int) (hI : DInv w0 gd W vb B) (hC : Kd.C (Kd.int .u8) w0 A data.length data) (hd : data.length ≤ 300000) (hB : B.length ≤ 1000000) :
    Calls Try.prog 32 #[.pointer (some ⟨gd, 0, none⟩), .slice A data.length c] W fun e w' => ∃ g k n, e = .returned (.slice (some ⟨g, 0, none⟩) data.length k) ∧ data.length + 5 ≤ n ∧ n ≤ 1000000 ∧ DInv w0 gd w' (.slice (some ⟨g, 0, none⟩) n k) (deskS data n) ∧ Kp W w' gd vb ∧ At W vb (.slice (some ⟨g, 0, none⟩) n k) := by
  have HI := Aside0.mk hI
  have HC := Aside0.mk hC
  obtain ⟨v0, hv0⟩ : ∃ v0, vb = v0 := ⟨_, rfl⟩
  have HV0 := Aside0.mk hv0
  rw [hv0]
  clear hv0
  obtain ⟨Ab, kb, rfl⟩ := Kd.R_slice hI.row
  have hc0 := cell_of_one hI.blk
  have hf0 := free_of_one hI.blk
  clear hI hC
  obtain ⟨N, hN⟩ : ∃ N, 2 * data.length + 40 = N := ⟨_, rfl⟩
  have hN1 : 2 * (data.length : Int) + 40 = (N : Int) := by omega
  have hN2 : N ≤ 700000 := by omega
  have hN3 : data.length + 5 ≤ N := by omega
  clear hN
  go_enter Try.func32, Try.ntmps32
  go_upto_if 14 with (fail)
  go_cut [15, 16, 17, 18, 19, 20, 21, 22] (fun _ _ _ _ _ _ _ _ wc => ∃ (vb : Value) (B : List Int), data.length + 5 ≤ B.length ∧ B.length ≤ 1000000 ∧ Aside0 (DInv w0 gd wc vb B ∧ Kp W wc gd v0 ∧ At W v0 vb))
  case first =>
    by_cases hs : B.length < data.length + 5
    · have hs1 : (B.length : Int) < (data.length : Int) + 5 := by omega
      go_wp2_with (at_make; go_loud (refine Kd.R_make (Kd.int .u8) (w0 := w0) w0.heap.size 5 rfl rfl 22 _ _ rfl (N : Int) rfl rfl Try.underlying22 (.int .u8 0) 1 info5 rfl (by decide) (by omega) 0 (ok := fun _ => True) (okp := fun _ => False) rfl (fun _ _ => trivial) trivial (by omega) (by simp; omega) HI.out.bel HI.out.bel.size ?_); intro v2 w2 ho2 hb2 hg2 hat2; rw [Int.toNat_natCast] at ho2; obtain ⟨A2, k2, e2⟩ := Kd.R_slice ho2; rw [List.length_replicate] at e2; subst e2; have HD2 := Aside0.mk (HI.out.new hg2 ho2 hb2); have hc2 := cell_of_one HD2.out.1; have hf2 := free_of_one HD2.out.1; have HK2 : Aside0 (Kp W (w2.setCell ⟨gd, 0, none⟩ (.slice A2 N k2)) gd v0 ∧ At W v0 (.slice A2 N k2)) := ⟨((Kp.refl W gd v0).grown hg2 (fun _ e => by cases e)).set (.inl rfl) _ _, fun k hk => by obtain ⟨b, hb, hb'⟩ := hat2; rw [hb] at hk; injection hk with hk; exact .inr (by omega)⟩)
      go_meet
      case rel => exact ⟨_, _, by simp; omega, by simp; omega, ⟨HD2.out.2, HK2.out⟩⟩
    · have hs1 : decide ((B.length : Int) < (data.length : Int) + 5) = false := by simp; omega
      go_wp2
      go_meet
      case rel => exact ⟨_, B, by omega, hB, ⟨HI.out, Kp.refl _ _ _, fun k hk => .inl (by rw [← HV0.out]; exact hk.symm)⟩⟩
  case rest =>
    obtain ⟨vb, B, hb5, hb6, HI3⟩ := hcut
    have HI := Aside0.mk HI3.out.1
    obtain ⟨A1, k1, rfl⟩ := Kd.R_slice HI.out.row
    obtain ⟨g, k, e1, hgb, -, -⟩ := Kd.R_form HI.out.row (by omega)
    injection e1 with e1 _ e3
    subst e1 e3
    obtain ⟨n, hn⟩ : ∃ n, B.length = n := ⟨_, rfl⟩
    rw [hn] at HI hb5 hb6
    have HN := Aside0.mk hn
    have hk := (Kd.R_reads' HI.out.row).2.1
    have HG : Aside0 (g = gd ∨ some g = v0.ownBlock ∨ W.heap.size ≤ g) := ⟨.inr (HI3.out.2.2 g rfl)⟩
    have HAT := Aside0.mk HI3.out.2.2
    have HK0 := Aside0.mk HI3.out.2.1
    clear hc0 hf0 hn hN1 hN2 hN3 hB HI3
    go_wp2_with fail
    go_loopg [5] n (fun k' v5 w' => ∃ i : Nat, v5 = .int .i64 i ∧ i + k' = n ∧ Aside0 (DInv w0 gd w' (.slice (some ⟨g, 0, none⟩) n k1) (markD B i)) ∧ Aside0 (Kp W w' gd v0))
    case atStart => exact ⟨0, rfl, by omega, HI, HK0⟩
    case round =>
      clear HI HK0
      obtain ⟨i, rfl, hik, HI, HK⟩ := hrel
      have hc1 := cell_of_one HI.out.blk
      have hf1 := free_of_one HI.out.blk
      cases gk with
      | zero =>
        have hi : i = n := by omega
        subst hi
        have hm : markD B i = List.replicate i 171 := by rw [markD, List.drop_eq_nil_of_le (by have := HN.out; omega), List.append_nil]
        have hr := HI.out.row
        rw [hm] at hr
        have HR := Aside0.mk hr
        have hn3 : (data.length : Int) ≤ (k1 : Int) := by omega
        have HFIN : Aside0 (data.take (min data.length (List.replicate i (171 : Int)).length) ++ (List.replicate i (171 : Int)).drop (min data.length (List.replicate i (171 : Int)).length) = deskS data i) := ⟨by
          rw [List.length_replicate, Nat.min_eq_left (by omega), List.take_length, List.drop_replicate, deskS]⟩
        clear hm hr hik
        go_wp2_with ((with_reducible refine gate_builtin (b := .copy) (xs := #[.tmp 41, .tmp 42]) rfl ?_); go_loud (refine Kd.R_copy (0 : Int) (w0 := w0) w0.heap.size rfl (.tmp 41) (.tmp 42) 22 22 5 rfl Try.underlying22 (by kernel_rfl) (.slice (some ⟨g, 0, none⟩) i k1) (List.replicate i 171) data A data.length c (fun _ => True) rfl rfl HR.out (Kd.C_below HC.out HI.out.bel) HI.out.bel HI.out.bel.size ?_); intro w3 ho3 hb3 hg3; rw [HFIN.out] at ho3; have H3 := Aside0.mk (HI.out.grown hg3 ho3 hb3); have HK3 := Aside0.mk (HK.out.grown hg3 (fun k e => by simp [Value.ownBlock] at e; subst e; exact HG.out)); have hc3 := cell_of_one H3.out.blk; clear ho3 hb3 hg3)
        go_ret
        exact ⟨g, k1, i, rfl, hb5, hb6, H3.out, HK3.out, HAT.out⟩
      | succ k' =>
        have hi : i < n := by omega
        have hi1 : (i : Int) < (n : Int) := by omega
        obtain ⟨hx, hz⟩ := Kd.R_celln (0 : Int) HI.out.row (i : Int) (by omega) (by omega)
        simp only [Int.toNat_natCast] at hx hz
        have hN := HI.out.put i 171
        rw [markD_set B i (by rw [HN.out]; exact hi)] at hN
        have HNX := Aside0.mk hN
        have HKX := Aside0.mk (HK.out.set HG.out i (.int .u8 171))
        generalize rdOf 0 (markD B i) (i : Int) = z at hx
        clear hN
        go_wp2
        go_roundg k'
        case measure => omega
        case rel => exact ⟨i + 1, by go_num, by omega, HNX, HKX⟩

set_option maxHeartbeats 4000000 in
theorem desk_lies_any (w0 : World) (gd : Nat) (W : World) (g n k : Nat) (A : Option Addr) (c : Nat) (data : List Int) (hI : DInv w0 gd W (.slice (some ⟨g, 0, none⟩) n k) (deskS data n)) (hC : Kd.C (Kd.int .u8) w0 A data.length data) (hd : data.length ≤ n) (hn : n ≤ 1000000) :
    Calls Try.prog 33 #[.pointer (some ⟨gd, 0, none⟩), .slice A data.length c] W fun e w' => e = .returned (.bool true) ∧ Drawn0 W w' := by
  have HI := Aside0.mk hI
  have HC := Aside0.mk hC
  clear hI hC
  go_enter Try.func33, Try.ntmps33
  go_wp2
  go_loopg [5] n (fun k' v5 w' => ∃ i : Nat, v5 = .int .i64 i ∧ i + k' = n ∧ Aside0 (Drawn0 W w'))
  case atStart => exact ⟨0, rfl, by omega, ⟨Drawn0.refl _⟩⟩
  case round =>
    obtain ⟨i, rfl, hik, HD⟩ := hrel
    have HJ := Aside0.mk (HI.out.step HD.out.below)
    have hc1 := cell_of_one HJ.out.blk
    cases gk with
    | zero =>
      have hi : i = n := by omega
      subst hi
      go_wp2
      go_ret
      exact ⟨rfl, HD.out⟩
    | succ k' =>
      have hi : i < n := by omega
      have hi1 : (i : Int) < (n : Int) := by omega
      obtain ⟨hx, hz⟩ := Kd.R_celln (0 : Int) HJ.out.row (i : Int) (by omega) (by omega)
      simp only [Int.toNat_natCast] at hx hz
      by_cases hl : i < data.length
      · have hl1 : (i : Int) < (data.length : Int) := by omega
        have d1 : decide (i < data.length) = true := by simp; omega
        have d2 : decide ((i : Int) < (data.length : Int)) = true := by simp; omega
        have d3 : decide (data.length ≤ i) = false := by simp; omega
        have d4 : decide ((data.length : Int) ≤ (i : Int)) = false := by simp; omega
        obtain ⟨ad, e, hy⟩ := Kd.at_int (Kd.C_below HC.out HJ.out.bel) (i : Int) (by omega) (by omega)
        cases e
        simp only [Int.toNat_natCast] at hy
        have hxy : rdOf 0 (deskS data n) (i : Int) = rd data (i : Int) := by
          rw [rdOf, rd, Int.toNat_natCast, deskS, List.getD_eq_getElem?_getD, List.getD_eq_getElem?_getD, List.getElem?_append_left hl]
        rw [hxy] at hx
        generalize rd data (i : Int) = x at hx hy
        clear hxy
        go_wp2
        go_quiet (fail)
        go_wp2
        go_roundg k'
        case measure => omega
        case rel => exact ⟨i + 1, by go_num, by omega, ⟨HD.out.step _⟩⟩
      · have d1 : decide (i < data.length) = false := by simp; omega
        have d2 : decide ((i : Int) < (data.length : Int)) = false := by simp; omega
        have d3 : decide (data.length ≤ i) = true := by simp; omega
        have d4 : decide ((data.length : Int) ≤ (i : Int)) = true := by simp; omega
        have hxy : rdOf 0 (deskS data n) (i : Int) = 171 := by
          rw [rdOf, Int.toNat_natCast, deskS, List.getD_eq_getElem?_getD, List.getElem?_append_right (by omega), List.getElem?_replicate, if_pos (by omega)]; rfl
        rw [hxy] at hx
        clear hxy
        go_wp2
        go_quiet (fail)
        go_wp2
        go_roundg k'
        case measure => omega
        case rel => exact ⟨i + 1, by go_num, by omega, ⟨HD.out.step _⟩⟩
end Go.Proofs.Ytoefligelajfkaa.Block

namespace Go.Proofs.Ytoefligelajfkaa.Block
open Go.RowKit Go.Proofs.YtoefligelajfkaaW.PrintWords Go.Proofs.YtoefligelajfkaaW.PrintLast Go.Proofs.YtoefligelajfkaaW.PrintMore Go.Proofs.Ytoefligelajfkaa.Press Go.Proofs.Ytoefligelajfkaa.OpenK
open Go.Proofs.Ytoefligelajfkaa.PBlockOpens (S58 k58 S60 k60 z60 rd_T60 at_T60 freightlaw11_turn.f freightlaw11_turn.calls freightlaw11_num.f freightlaw11_num.calls)

/-- The place of the k-th question. -/
theorem turn_f (k n : Nat) (hn : n ≤ 1000000) (hk : k < 2 * n) : ∃ d, d < n ∧ freightlaw11_turn.f (k : Int) (n : Int) = some (d : Int) := by
  unfold freightlaw11_turn.f
  by_cases h : k < n
  · exact ⟨k, h, by rw [if_pos (by omega)]⟩
  · refine ⟨2 * n - 1 - k, by omega, ?_⟩
    rw [if_neg (by omega)]
    congr 1
    have e1 : wrap64 (2 * (n : Int)) = 2 * (n : Int) := by unfold wrap64; omega
    have e2 : wrap64 (2 * (n : Int) - 1) = 2 * (n : Int) - 1 := by unfold wrap64; omega
    rw [e1, e2]
    unfold wrap64
    omega

theorem openS_len (l : List Int) (b : S58) (hb : ∀ x ∈ l, 0 ≤ x ∧ x ≤ 255) : (openS l b).1.length ≤ l.length + 4096 := by
  unfold openS
  split
  · simp
  · split
    · exact Nat.le_add_right _ _
    · split
      · simp
      · rcases unpackS_ends l b.f2 hb with h | h
        · show (unpackS l b.f2).1.length ≤ _
          omega
        · show (unpackS l b.f2).1.length ≤ _
          rw [h.2]; simp
theorem cells5 {w : World} {g : Nat} {a b c d e : Value} {t : TypeId} (h : w.heap[g]? = some (.cells #[a, b, c, d, e] t (0, 0))) : w.cell? ⟨g, 0, none⟩ = some a ∧ w.cell? ⟨g, 1, none⟩ = some b ∧ w.cell? ⟨g, 2, none⟩ = some c ∧ w.cell? ⟨g, 3, none⟩ = some d ∧ w.cell? ⟨g, 4, none⟩ = some e :=
  ⟨blk_cell h 0, blk_cell h 1, blk_cell h 2, blk_cell h 3, blk_cell h 4⟩
theorem R_kp {W W1 : World} {base gd : Nat} {v v0 : Value} {xs : List Int} (h : Kd.R (Kd.int .u8) 5 W base (fun _ => True) v xs) (hk : Kp W W1 gd v0) (hne : ∀ k, v.ownBlock = some k → k ≠ gd ∧ some k ≠ v0.ownBlock) : Kd.R (Kd.int .u8) 5 W1 base (fun _ => True) v xs :=
  Kd.R_mono (Kd.R_step (Kd.R_tight rfl h) (fun k hk1 hk2 => hk.keep k hk2 (hne k hk1.symm).1 (hne k hk1.symm).2)) (fun _ _ => trivial)
theorem desk_reads {w0 : World} {gd g n k : Nat} {W : World} {p : List Int} (h : DInv w0 gd W (.slice (some ⟨g, 0, none⟩) n k) (deskS p n)) (_hn : p.length ≤ n) : Kd.C (Kd.int .u8) W (some ⟨g, 0, none⟩) p.length p := by
  have h1 := Kd.C_take (m := p.length) (Kd.R_reads' h.row).2.2 (by simp [deskS])
  have e : (deskS p n).take p.length = p := by rw [deskS, List.take_left' rfl]
  rw [e] at h1
  exact h1

attribute [local go_sem ↓] Go.wp_at_zero Go.wp_at_succ
set_option maxRecDepth 100000 in
set_option maxHeartbeats 8000000 in
theorem blockOpens_walk (A0 : Option Addr) (c0 : Nat) (l0 : List S60) (w : World) (hr0 : k60.C w A0 l0.length l0) (_hc0 : l0.length ≤ c0) (hz : l0.length * 56 ≤ 140737488351232) (hg : ∀ x ∈ l0, GoodB x.f0 ∧ Good58 x.f1) :
    Calls Try.prog 12 #[.slice A0 l0.length c0] w fun e w' => e = .returned (.bool true) ∧ Below w.heap.size w w' := by
  have HR0 := Aside0.mk hr0
  have HG := Aside0.mk hg
  have hl : l0.length ≤ 140737488355328 := by omega
  clear hr0 hg _hc0 hz
  go_enter Try.func12, Try.ntmps12
  go_wp2
  go_loopg [3, 4] l0.length (fun k v3 v4 w' => ∃ n i : Nat, v3 = .int .i64 n ∧ v4 = .int .i64 i ∧ i + k = l0.length ∧ i ≤ n ∧ n ≤ 200000 ∧ Aside0 (∀ j, j < i → (rd_T60 l0 (j : Int)).f0.length ≤ 200000) ∧ w = w')
  case atStart => exact ⟨0, 0, rfl, rfl, by omega, by omega, by omega, ⟨fun j h => absurd h (by omega)⟩, rfl⟩
  case round =>
    obtain ⟨n, i, rfl, rfl, hik, hin, hn, HL, rfl⟩ := hrel
    cases gk with
    | zero =>
      have hi : i = l0.length := by omega
      subst hi
      have hl2 : l0.length ≤ 200000 := by omega
      have HD0 : Aside0 (DInv w w.heap.size (w.alloc (.cells #[.slice none 0 0] 45)) (.slice none 0 0) []) := ⟨⟨heap_alloc_new w _, Kd.R_nil _ _ _ _ _, (Below.refl _ _).alloc (Nat.le_refl _) _, Nat.le_refl _⟩⟩
      obtain ⟨gd, hgd⟩ : ∃ gd, w.heap.size = gd := ⟨_, rfl⟩
      have HGD := Aside0.mk hgd
      rw [hgd] at HD0
      clear hgd hik hin hn
      go_wp2_with fail
      rw [HGD.out]
      generalize w.alloc (.cells #[.slice none 0 0] 45) = w1 at HD0
      go_loopg [6] (2 * l0.length) (fun k v6 w' => ∃ i : Nat, v6 = .int .i64 i ∧ i + k = 2 * l0.length ∧ Aside0 (∃ (vb : Value) (B : List Int), DInv w gd w' vb B ∧ B.length ≤ 1000000))
      case atStart => exact ⟨0, rfl, by omega, ⟨_, _, HD0.out, by simp⟩⟩
      case round =>
        clear HD0
        obtain ⟨i, rfl, hik, HI⟩ := hrel
        cases gk with
        | zero =>
          have hi : (i : Int) = 2 * (l0.length : Int) := by omega
          have hi2 : decide ((i : Int) < 2 * (l0.length : Int)) = false := by simp; omega
          obtain ⟨vb, B, hD, hB⟩ := HI.out
          have HD := Aside0.mk hD
          clear hD HI
          clear hi
          go_wp2_with (go_at_call 37; refine (known_any _).mono ?_; rintro e w6 ⟨rfl, hB6⟩)
          go_ret
          exact ⟨rfl, below_step HD.out.bel hB6⟩
        | succ k =>
          have hi1 : (i : Int) < 2 * (l0.length : Int) := by omega
          obtain ⟨vb, B, hD, hB⟩ := HI.out
          have HD := Aside0.mk hD
          clear hD HI
          obtain ⟨d, hdl, hdf⟩ := turn_f i l0.length (by omega) (by omega)
          have HDF := Aside0.mk hdf
          have hd1 : (d : Int) < (l0.length : Int) := by omega
          have HDW := Aside0.mk (HD.out.bel)
          obtain ⟨ad, Ap, cp, e, p0, p1, p2, p3, p4, hcp, hCp⟩ := at_T60 (Kd.C_below HR0.out HD.out.bel) (d : Int) (by omega) hd1
          cases e
          have hCp0 : Kd.C (Kd.int .u8) w Ap (rd_T60 l0 (d : Int)).f0.length (rd_T60 l0 (d : Int)).f0 := by
            obtain ⟨ad', Ap', cp', e', p0', -, -, -, -, -, hC'⟩ := at_T60 HR0.out (d : Int) (by omega) hd1
            cases e'
            have := pw_cell_below HD.out.bel p0'
            rw [this] at p0
            injection p0 with p0
            injection p0 with q1 _ _
            rw [← q1]; exact hC'
          simp only [Int.toNat_natCast] at p0 p1 p2 p3 p4
          have hmem : rd_T60 l0 (d : Int) ∈ l0 := by
            rw [rd_T60, Int.toNat_natCast, List.getD_eq_getElem?_getD, List.getElem?_eq_getElem hdl]; exact List.getElem_mem hdl
          have hgood := (HG.out _ hmem).1.bytes
          have hlen := HL.out d hdl
          obtain ⟨⟨p, ⟨x0, x1, x2, x3⟩⟩, hx⟩ : ∃ x, rd_T60 l0 (d : Int) = x := ⟨_, rfl⟩
          rw [hx] at p0 p1 p2 p3 p4 hcp hCp hCp0 hgood hlen
          simp only [] at p0 p1 p2 p3 p4 hcp hCp hCp0 hgood hlen
          clear hx hmem hdf
          go_upto_region 13 with (go_at_call 29; refine (freightlaw11_turn.calls _ _ _ _ HDF.out).mono ?_; rintro e w2 ⟨rfl, hd2⟩; have q0 := pw_cell_below hd2.below p0; have q1 := pw_cell_below hd2.below p1; have q2 := pw_cell_below hd2.below p2; have q3 := pw_cell_below hd2.below p3; have q4 := pw_cell_below hd2.below p4; have HD2 := Aside0.mk (HD.out.step hd2.below))
          obtain ⟨gx, hgx⟩ : ∃ gx, w2.heap.size = gx := ⟨_, rfl⟩
          have HX : Aside0 ((w2.alloc (.cells #[.slice Ap p.length cp, .int .i64 x0, .int .i64 x1, .int .i64 x2, .int .i64 x3] 60)).heap[gx]? = some (.cells #[.slice Ap p.length cp, .int .i64 x0, .int .i64 x1, .int .i64 x2, .int .i64 x3] 60 (0, 0))) := ⟨by rw [← hgx]; exact heap_alloc_new w2 _⟩
          have HD3 := Aside0.mk (HD2.out.step (below_alloc (Below.refl _ _) (.cells #[.slice Ap p.length cp, .int .i64 x0, .int .i64 x1, .int .i64 x2, .int .i64 x3] 60)))
          have HCP := Aside0.mk hCp0
          rw [hgx]
          clear hgx p0 p1 p2 p3 p4 q0 q1 q2 q3 q4 hCp hCp0 HD HD2 HDF HDW hd2
          generalize w2.alloc (.cells #[.slice Ap p.length cp, .int .i64 x0, .int .i64 x1, .int .i64 x2, .int .i64 x3] 60) = W3 at HX HD3
          obtain ⟨y0, y1, y2, y3, y4⟩ := cells5 HX.out
          obtain ⟨⟨want, f⟩, hwf⟩ : ∃ r, openS p ⟨x0, x1, x2, x3⟩ = r := ⟨_, rfl⟩
          have HWF := Aside0.mk hwf
          clear hwf
          go_upto_region 14 with (go_at_call 38; refine (ropen_any Ap cp p x0 x1 x2 x3 _ (Kd.C_below HCP.out HD3.out.bel) hgood hcp (by omega)).mono ?_; rw [HWF.out]; rintro e w4 ⟨v4, rfl, hR4, hB4⟩; obtain ⟨A4, k4, rfl⟩ := Kd.R_slice hR4; have H4 : Aside0 (w4.heap[gx]? = some (.cells #[.slice Ap p.length cp, .int .i64 x0, .int .i64 x1, .int .i64 x2, .int .i64 x3] 60 (0, 0)) ∧ DInv w gd w4 vb B ∧ Kd.R (Kd.int .u8) 5 w4 W3.heap.size (fun _ => True) (.slice A4 want.length k4) want) := ⟨blk_below HX.out hB4, HD3.out.step hB4, hR4⟩; clear hR4 hB4)
          have hgd3 := blk_lt HD3.out.blk
          have hvb3 := Kd.R_lt HD3.out.row
          clear y0 y1 y2 y3 y4
          obtain ⟨y0, y1, y2, y3, y4⟩ := cells5 H4.out.1
          have HNX : Aside0 (gx ≠ gd ∧ some gx ≠ vb.ownBlock ∧ gx < w4.heap.size) := ⟨fun e => by
            have h1 := H4.out.1
            rw [e, H4.out.2.1.blk] at h1
            injection h1 with h1
            injection h1 with _ h2
            exact absurd h2 (by decide), fun e => ne_block H4.out.2.1.row H4.out.1 (by decide) e.symm, blk_lt H4.out.1⟩
          have HVB3 := Aside0.mk (⟨hgd3, hvb3⟩ : _ ∧ _)
          clear HX hgd3 hvb3
          go_region_held3 (fun w' => w'.cell? ⟨gx, 0, none⟩ = some (.slice Ap p.length cp) ∧ w'.cell? ⟨gx, 1, none⟩ = some (.int .i64 x0) ∧ w'.cell? ⟨gx, 2, none⟩ = some (.int .i64 x1) ∧ w'.cell? ⟨gx, 3, none⟩ = some (.int .i64 x2) ∧ w'.cell? ⟨gx, 4, none⟩ = some (.int .i64 x3)) (go_keep)
            (first
              | (go_at_call 32; refine (desk_lay_any w gd _ vb B Ap cp p (H4.out.2.1.step (below_drew (Below.refl _ _))) HCP.out (by omega) hB).mono ?_; rintro e w5 ⟨g5, k5, n5, rfl, h5a, h5b, hD5, hK5, hA5⟩; have H5 : Aside0 (w5.heap[gx]? = some (.cells #[.slice Ap p.length cp, .int .i64 x0, .int .i64 x1, .int .i64 x2, .int .i64 x3] 60 (0, 0)) ∧ DInv w gd w5 (.slice (some ⟨g5, 0, none⟩) n5 k5) (deskS p n5) ∧ Kd.R (Kd.int .u8) 5 w5 W3.heap.size (fun _ => True) (.slice A4 want.length k4) want) := ⟨(hK5.keep gx HNX.out.2.2 HNX.out.1 HNX.out.2.1).trans H4.out.1, hD5, R_kp (Kd.R_drew H4.out.2.2) hK5 (fun k hk => ⟨by have := Kd.R_base H4.out.2.2 k hk; have := HVB3.out.1; omega, fun e => by have := Kd.R_base H4.out.2.2 k hk; have := HVB3.out.2 k e.symm; omega⟩)⟩; obtain ⟨z0, z1, z2, z3, z4⟩ := cells5 H5.out.1; have hsz5 := hK5.size; clear hD5 hK5)
              | (go_at_call 39; refine (bopen_any (some ⟨g5, 0, none⟩) k5 p x0 x1 x2 x3 _ (desk_reads H5.out.2.1 (by omega)) hgood (by omega)).mono ?_; rw [HWF.out]; rintro e w6 ⟨v6, rfl, hR6, hB6⟩; obtain ⟨A6, k6, rfl⟩ := Kd.R_slice hR6; have H6 : Aside0 (w6.heap[gx]? = some (.cells #[.slice Ap p.length cp, .int .i64 x0, .int .i64 x1, .int .i64 x2, .int .i64 x3] 60 (0, 0)) ∧ DInv w gd w6 (.slice (some ⟨g5, 0, none⟩) n5 k5) (deskS p n5) ∧ Kd.R (Kd.int .u8) 5 w6 W3.heap.size (fun _ => True) (.slice A4 want.length k4) want ∧ Kd.R (Kd.int .u8) 5 w6 w5.heap.size (fun _ => True) (.slice A6 want.length k6) want) := ⟨blk_below H5.out.1 hB6, H5.out.2.1.step hB6, Kd.R_below H5.out.2.2 hB6, hR6⟩; obtain ⟨t0, t1, t2, t3, t4⟩ := cells5 H6.out.1; clear hR6 hB6))
          have hg5 := Kd.R_lt H5.out.2.1.row g5 rfl
          have hgd5 := blk_lt H5.out.2.1.blk
          have hwl : want.length ≤ 140737488355328 := by
            have h1 := openS_len p ⟨x0, x1, x2, x3⟩ hgood
            rw [HWF.out] at h1
            simp only [] at h1
            omega
          have hdl5 : (deskS p n5).length ≤ 1000000 := by simp [deskS]; omega
          have hfar4 : ∀ k, (Value.slice A4 want.length k4).ownBlock = some k → k ≠ gd ∧ some k ≠ (Value.slice (some ⟨g5, 0, none⟩) n5 k5).ownBlock := fun k hk => ⟨by have := Kd.R_base H4.out.2.2 k hk; have := HVB3.out.1; omega, fun e => by
            have h1 := Kd.R_base H4.out.2.2 k hk
            simp [Value.ownBlock] at e
            rcases hA5 g5 rfl with h2 | h2
            · have := HVB3.out.2 g5 h2.symm; omega
            · have h3 := Kd.R_lt H4.out.2.2 k hk
              have h4 : w4.heap.size ≤ g5 := h2
              omega⟩
          have HFAR4 := Aside0.mk hfar4
          clear hfar4 z0 z1 z2 z3 z4 y0 y1 y2 y3 y4 hA5
          go_wp2_with (first
            | (go_at_call 33; refine (desk_lies_any w gd _ g5 n5 k5 Ap cp p H6.out.2.1 HCP.out (by omega) (by omega)).mono ?_; rintro e w7 ⟨rfl, hd7⟩; have H7 : Aside0 (DInv w gd w7 (.slice (some ⟨g5, 0, none⟩) n5 k5) (deskS p n5) ∧ Kd.R (Kd.int .u8) 5 w7 W3.heap.size (fun _ => True) (.slice A4 want.length k4) want ∧ Kd.R (Kd.int .u8) 5 w7 w5.heap.size (fun _ => True) (.slice A6 want.length k6) want) := ⟨H6.out.2.1.step hd7.below, Kd.R_below H6.out.2.2.1 hd7.below, Kd.R_below H6.out.2.2.2 hd7.below⟩; clear hd7)
            | (go_at_call 32; refine (desk_lay_any w gd _ (.slice (some ⟨g5, 0, none⟩) n5 k5) (deskS p n5) none 0 [] H7.out.1 (Kd.C_nil _ _) (by simp) hdl5).mono ?_; rintro e w8 ⟨g8, k8, n8, rfl, h8a, h8b, hD8, hK8, hA8⟩; have H8 : Aside0 (DInv w gd w8 (.slice (some ⟨g8, 0, none⟩) n8 k8) (deskS [] n8) ∧ Kd.R (Kd.int .u8) 5 w8 W3.heap.size (fun _ => True) (.slice A4 want.length k4) want ∧ Kd.R (Kd.int .u8) 5 w8 w5.heap.size (fun _ => True) (.slice A6 want.length k6) want) := ⟨hD8, R_kp H7.out.2.1 hK8 HFAR4.out, R_kp H7.out.2.2 hK8 (fun k hk => ⟨by have := Kd.R_base H7.out.2.2 k hk; omega, fun e => by have := Kd.R_base H7.out.2.2 k hk; simp [Value.ownBlock] at e; omega⟩)⟩; clear hD8 hK8 hA8)
            | (go_at_call 34; refine (freightlaw11_num.calls _ _ _ rfl).mono ?_; rintro e w9 ⟨rfl, hd9⟩)
            | (go_at_call 35; refine (bytes_true _ _ _ _ want _ (Kd.R_reads' (Kd.R_below H8.out.2.2 hd9.below)).2.2 (Kd.R_reads' (Kd.R_below H8.out.2.1 hd9.below)).2.2 hwl).mono ?_; rintro e w10 ⟨rfl, hd10⟩))
          go_roundg k
          case measure => omega
          case rel => exact ⟨i + 1, by go_num, by omega, ⟨_, _, (H8.out.1.step hd9.below).step hd10.below, by simp [deskS]; omega⟩⟩
    | succ k =>
      have hi : i < l0.length := by omega
      have hi1 : (i : Int) < (l0.length : Int) := by omega
      obtain ⟨ad, Ap, cp, e, p0, -, -, -, -, -, -⟩ := at_T60 HR0.out (i : Int) (by omega) hi1
      cases e
      simp only [Int.toNat_natCast] at p0
      have hmem : rd_T60 l0 (i : Int) ∈ l0 := by
        rw [rd_T60, Int.toNat_natCast, List.getD_eq_getElem?_getD, List.getElem?_eq_getElem hi]; exact List.getElem_mem hi
      have hlen := (HG.out _ hmem).1.1
      obtain ⟨m, hm⟩ : ∃ m, (rd_T60 l0 (i : Int)).f0.length = m := ⟨_, rfl⟩
      rw [hm] at p0 hlen
      have HM := Aside0.mk hm
      clear hm hmem
      by_cases hbig : n + m + 1 > 200000
      · have hb1 : (200000 : Int) < (n : Int) + (m : Int) + 1 := by omega
        go_wp2
        go_ret
        exact ⟨rfl, Below.refl _ _⟩
      · have hb1 : decide ((200000 : Int) < (n : Int) + (m : Int) + 1) = false := by simp; omega
        go_wp2
        go_roundg k
        case measure => omega
        case rel => exact ⟨n + m + 1, i + 1, by go_num, by go_num, by omega, by omega, by omega, ⟨fun j hj => by
          by_cases hji : j < i
          · exact HL.out j hji
          · have : j = i := by omega
            subst this
            rw [HM.out]; omega⟩, rfl⟩
end Go.Proofs.Ytoefligelajfkaa.Block
