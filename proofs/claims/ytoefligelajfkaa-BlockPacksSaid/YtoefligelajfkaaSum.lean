import Derived.Test.YtoefligelajfkaaSumSpec
import Derived.Test.YtoefligelajfkaaLawU
namespace Go.Proofs.Ytoefligelajfkaa.Block
open Go.RowKit Go.Proofs.YtoefligelajfkaaW.PrintWords Go.Proofs.YtoefligelajfkaaW.PrintLast Go.Proofs.YtoefligelajfkaaW.PrintMore Go.Proofs.Ytoefligelajfkaa.Press

def tabL (f : Nat → Nat) (i : Nat) : List Int := (List.range 16).map fun j => if j < i then (f j : Int) else 0
theorem tabL_length (f : Nat → Nat) (i : Nat) : (tabL f i).length = 16 := by simp [tabL]
theorem tabL_zero (f : Nat → Nat) : tabL f 0 = List.replicate 16 0 := by rfl
theorem tabL_set (f : Nat → Nat) (i : Nat) (h : i < 16) : (tabL f i).set i (f i : Int) = tabL f (i + 1) := by
  apply List.ext_getElem
  · simp [tabL]
  · intro j h1 h2
    rw [List.getElem_set]
    simp only [tabL, List.getElem_map, List.getElem_range]
    split
    · subst_vars; rw [if_pos (by omega)]
    · by_cases hj : j < i
      · rw [if_pos hj, if_pos (by omega)]
      · rw [if_neg hj, if_neg (by omega)]
theorem tabL_get (f : Nat → Nat) (j : Nat) (h : j < 16) : rd (tabL f 16) (j : Int) = (f j : Int) := by
  rw [rd_nat, List.getD_eq_getElem?_getD, List.getElem?_eq_getElem (by rw [tabL_length]; exact h)]
  simp [tabL, h]

def f1n : Nat → Nat → Nat
  | 0, r => r
  | k + 1, r => f1n k (f1 r)

theorem f1n_lt : ∀ (k r : Nat), r < 4294967296 → f1n k r < 4294967296 := by
  intro k
  induction k with
  | zero => intro r h; exact h
  | succ k ih => intro r h; exact ih _ (f1_lt h)
theorem low_odd {r : Nat} (hr : r < 4294967296) (h : r % 2 = 1) : bits .and .u32 (r : Int) 1 = 1 := by
  have := u32_and_nat r 1 hr (by omega)
  rw [Nat.and_one_is_mod, h] at this
  exact this
theorem low_even {r : Nat} (hr : r < 4294967296) (h : ¬ r % 2 = 1) : bits .and .u32 (r : Int) 1 = 0 := by
  have := u32_and_nat r 1 hr (by omega)
  rw [Nat.and_one_is_mod, show r % 2 = 0 by omega] at this
  exact this
theorem half_odd {r : Nat} (hr : r < 4294967296) (h : r % 2 = 1) : bits .xor .u32 ((r : Int) / 2) 3988292384 = (f1 r : Int) := by
  have := u32_xor_nat (r / 2) 3988292384 (by omega) (by omega)
  rw [f1, if_pos h, ← this]; rfl
theorem half_even {r : Nat} (h : ¬ r % 2 = 1) : (r : Int) / 2 = (f1 r : Int) := by rw [f1, if_neg h]; rfl
theorem low_16 {r : Nat} (hr : r < 4294967296) : bits .and .u32 (r : Int) 15 = ((r % 16 : Nat) : Int) := by
  have := u32_and_nat r 15 hr (by omega)
  rw [show (15 : Nat) = 2 ^ 4 - 1 from rfl, Nat.and_two_pow_sub_one_eq_mod] at this
  exact this
theorem xor_16 {r : Nat} (hr : r < 4294967296) : bits .xor .u32 ((r : Int) / 16) ((f4 (r % 16) : Nat) : Int) = (f4 r : Int) := by
  have := u32_xor_nat (r / 16) (f4 (r % 16)) (by omega) (f4_lt (by omega))
  rw [f4_table r, ← this]; rfl

set_option maxHeartbeats 2000000 in
theorem sum_any (A0 : Option Addr) (c0 : Nat) (l0 : List Int) (w : World) (hr0 : Kd.C (Kd.int .u8) w A0 l0.length l0) (hby : ∀ x ∈ l0, 0 ≤ x ∧ x ≤ 255) (hl : l0.length ≤ 140737488355328) :
    Calls Try.prog 45 #[.slice A0 l0.length c0] w fun e w' => e = .returned (.int .i64 (sumS l0)) ∧ Below w.heap.size w w' := by
  have HR0 := Aside0.mk hr0
  clear hr0
  have hrep : (nums .u32 (List.replicate 16 0)).toArray = #[Value.int .u32 0, .int .u32 0, .int .u32 0, .int .u32 0, .int .u32 0, .int .u32 0, .int .u32 0, .int .u32 0, .int .u32 0, .int .u32 0, .int .u32 0, .int .u32 0, .int .u32 0, .int .u32 0, .int .u32 0, .int .u32 0] := rfl
  have h0 := Aside0.mk (Kd.R_of_own (own_lit w w.heap.size 86 .u32 (List.replicate 16 0) (Nat.le_refl _) (by simp)) (fun _ _ => trivial) : Kd.R (Kd.int .u32) 86 (w.alloc (.cells (nums .u32 (List.replicate 16 0)).toArray 86)) w.heap.size (fun _ => True) (.slice (some ⟨w.heap.size, 0, none⟩) 16 16) (List.replicate 16 0))
  rw [hrep] at h0
  clear hrep
  go_enter Try.func45, Try.ntmps45
  go_wp2
  go_loopg [10] 16 (fun k v10 w' => ∃ i : Nat, v10 = .int .i64 i ∧ i + k = 16 ∧ Aside0 (Kd.R (Kd.int .u32) 86 w' w.heap.size (fun _ => True) (.slice (some ⟨w.heap.size, 0, none⟩) 16 16) (tabL f4 i) ∧ Below w.heap.size w w'))
  case atStart => exact ⟨0, rfl, rfl, ⟨by rw [tabL_zero]; exact h0.out, (Below.refl _ _).alloc (Nat.le_refl _) _⟩⟩
  case round =>
    clear h0
    obtain ⟨i, rfl, hik, HT⟩ := hrel
    cases gk with
    | zero => 
      have hi16 : i = 16 := by omega
      subst hi16
      clear hik
      go_wp2
      go_loopg [7, 32] (l0.length) (fun k v7 v32 w' => ∃ r j : Nat, v7 = .int .u32 r ∧ v32 = .int .i64 j ∧ j + k = l0.length ∧ r < 4294967296 ∧ Aside0 (sumR (l0.drop j) r = sumR l0 4294967295) ∧ w' = wr)
      case atStart => exact ⟨4294967295, 0, rfl, rfl, by omega, by omega, ⟨rfl⟩, rfl⟩
      case round =>
        obtain ⟨r, j, rfl, rfl, hjk, hr, HS, rfl⟩ := hrel
        cases gk with
        | zero =>
          have hj : j = l0.length := by omega
          subst hj
          have hs := HS.out
          rw [List.drop_length] at hs
          have hfin : bits .xor .u32 (r : Int) 4294967295 = (sumS l0 : Int) := by
            have h1 := u32_xor_nat r 4294967295 hr (by omega)
            rw [xor_mask hr] at h1
            rw [sumS, ← hs]; exact h1
          have hsl : sumS l0 ≤ 4294967295 := by unfold sumS; omega
          clear hs HS
          go_wp2
          go_ret
          exact ⟨rfl, HT.out.2⟩
        | succ k =>
          have hjl : j < l0.length := by omega
          obtain ⟨ad, e0, hx⟩ := Kd.at_int (Kd.C_below HR0.out HT.out.2) (j : Int) (by omega) (by omega)
          cases e0
          obtain ⟨x, hxn⟩ : ∃ x : Nat, rd l0 (j : Int) = (x : Int) := ⟨(rd l0 (j : Int)).toNat, by have := rd_byte hby (j : Int); omega⟩
          have hxb : x ≤ 255 := by have := rd_byte hby (j : Int); omega
          rw [hxn] at hx
          simp only [Int.toNat_natCast] at hx
          obtain ⟨r1, hr1⟩ : ∃ r1, r1 = r ^^^ x := ⟨_, rfl⟩
          have hr1l : r1 < 4294967296 := by rw [hr1]; exact Nat.xor_lt_two_pow (n := 32) hr (by omega)
          have hs := HS.out
          rw [drop_cons l0 j hjl, sumR, ← rd_nat, hxn, Int.toNat_natCast, ← hr1] at hs
          have hb1 : bits .xor .u32 (r : Int) (x : Int) = (r1 : Int) := by rw [hr1]; exact u32_xor_nat r x hr (by omega)
          obtain ⟨r2, hr2⟩ : ∃ r2, r2 = f4 r1 := ⟨_, rfl⟩
          obtain ⟨r3, hr3⟩ : ∃ r3, r3 = f4 r2 := ⟨_, rfl⟩
          have hr2l : r2 < 4294967296 := by rw [hr2]; exact f4_lt hr1l
          have hr3l : r3 < 4294967296 := by rw [hr3]; exact f4_lt hr2l
          rw [← hr2, ← hr3] at hs
          obtain ⟨m1, hm1⟩ : ∃ m1, m1 = r1 % 16 := ⟨_, rfl⟩
          obtain ⟨m2, hm2⟩ : ∃ m2, m2 = r2 % 16 := ⟨_, rfl⟩
          have hm1l : m1 < 16 := by omega
          have hm2l : m2 < 16 := by omega
          have ha1 := low_16 hr1l
          have ha2 := low_16 hr2l
          have hb2 := xor_16 hr1l
          have hb3 := xor_16 hr2l
          rw [← hm1] at ha1 hb2
          rw [← hm2] at ha2 hb3
          rw [← hr2] at hb2
          rw [← hr3] at hb3
          obtain ⟨t1, ht1⟩ : ∃ t1, t1 = f4 m1 := ⟨_, rfl⟩
          obtain ⟨t2, ht2⟩ : ∃ t2, t2 = f4 m2 := ⟨_, rfl⟩
          rw [← ht1] at hb2
          rw [← ht2] at hb3
          obtain ⟨hc1, -⟩ := Kd.R_celln (0 : Int) HT.out.1 (m1 : Int) (by omega) (by omega)
          obtain ⟨hc2, -⟩ := Kd.R_celln (0 : Int) HT.out.1 (m2 : Int) (by omega) (by omega)
          have hg1 : rdOf 0 (tabL f4 16) (m1 : Int) = (t1 : Int) := by rw [ht1]; exact tabL_get f4 m1 hm1l
          have hg2 : rdOf 0 (tabL f4 16) (m2 : Int) = (t2 : Int) := by rw [ht2]; exact tabL_get f4 m2 hm2l
          rw [hg1] at hc1
          rw [hg2] at hc2
          simp only [Int.toNat_natCast] at hc1 hc2
          have HS2 := Aside0.mk hs
          have hm1i : (m1 : Int) < 16 := by omega
          have hm2i : (m2 : Int) < 16 := by omega
          clear hs HS hr1 hr2 hr3 hm1 hm2 ht1 ht2 hg1 hg2 hxn
          go_wp2
          go_roundg k
          case measure => omega
          case rel => exact ⟨r3, j + 1, rfl, by go_num, by omega, hr3l, HS2, rfl⟩
    | succ k =>
      have hi : i < 16 := by omega
      have hi1 : (i : Int) < 16 := by omega
      go_wp2
      go_loopg [5, 6, 15] 4 (fun k v5 v6 v15 w' => ∃ t r : Nat, v5 = .int .u32 r ∧ v15 = .int .i64 t ∧ t + k = 4 ∧ r < 4294967296 ∧ Aside0 (f1n k r = f4 i) ∧ Aside0 (Kd.R (Kd.int .u32) 86 w' w.heap.size (fun _ => True) (.slice (some ⟨w.heap.size, 0, none⟩) 16 16) (tabL f4 i) ∧ Below w.heap.size w w'))
      case atStart => exact ⟨0, i, rfl, rfl, rfl, by omega, ⟨rfl⟩, HT⟩
      case round =>
        clear HT
        obtain ⟨t, r, rfl, rfl, htk, hr, HF, HT⟩ := hrel
        cases gk with
        | zero =>
          have ht4 : t = 4 := by omega
          subst ht4
          have hrf : r = f4 i := HF.out
          have hR := HT.out.1
          obtain ⟨hc, hz⟩ := Kd.R_celln (0 : Int) hR (i : Int) (by omega) (by omega)
          simp only [Int.toNat_natCast] at hc hz
          have hP := Kd.R_putn (enc := Value.int .u32) (h1 := fun _ => rfl) hR (i : Int) (r : Int)
          simp only [Int.toNat_natCast] at hP
          have HN : Aside0 (Kd.R (Kd.int .u32) 86 (wr.setCell ⟨w.heap.size, i, none⟩ (.int .u32 r)) w.heap.size (fun _ => True) (.slice (some ⟨w.heap.size, 0, none⟩) 16 16) (tabL f4 (i + 1)) ∧ Below w.heap.size w (wr.setCell ⟨w.heap.size, i, none⟩ (.int .u32 r))) := ⟨by rw [← tabL_set f4 i hi, ← hrf]; exact hP, HT.out.2.setCell (p := ⟨w.heap.size, i, none⟩) (Nat.le_refl _) _⟩
          clear hrf hR hP HT HF
          go_wp2
          go_roundg k
          case measure => omega
          case rel => exact ⟨i + 1, by go_num, by omega, HN⟩
        | succ kt =>
          have ht : (t : Int) < 4 := by omega
          have HF2 : Aside0 (f1n kt (f1 r) = f4 i) := ⟨HF.out⟩
          have hf1 : f1 r < 4294967296 := f1_lt hr
          clear HF
          by_cases hodd : r % 2 = 1
          · have hlow := low_odd hr hodd
            have hhalf := half_odd hr hodd
            clear hodd
            go_wp2
            go_roundg kt
            case measure => omega
            case rel => exact ⟨t + 1, f1 r, rfl, by go_num, by omega, hf1, HF2, HT⟩
          · have hlow := low_even hr hodd
            have hhalf := half_even hodd
            clear hodd
            go_wp2
            go_roundg kt
            case measure => omega
            case rel => exact ⟨t + 1, f1 r, by first | rfl | rw [hhalf], by go_num, by omega, hf1, HF2, HT⟩
end Go.Proofs.Ytoefligelajfkaa.Block
