import Derived.Test.YtdekmeanlcpenaaGreatDoorCf1
import Derived.Test.YtdekmeanlcpenaaGreatDoorCf2
import Derived.IntWalk
import Derived.WalkMore
import Derived.Maps.Keyed
import Derived.Maps.RangeRun
import Derived.Maps.Range
import Derived.Below
import Derived.WalkKit
import Derived.Maps.RangeWalk
import Derived.Maps.OwnSet
import Derived.OwnWalk
import Derived.Great.BuildSlice
import Derived.Test.YtdekmeanlcpenaaGreatDoorWApart
import Derived.OrdersHeld
namespace Go.Proofs.YtdekmeanlcpenaaGreatDoor.Block
open Go.RowKit Go.Proofs.YtdekmeanlcpenaaGreatDoorW.PrintWords Go.Proofs.YtdekmeanlcpenaaGreatDoorW.PrintLast Go.Proofs.YtdekmeanlcpenaaGreatDoorW.PrintMore
theorem rd_nat (l : List Int) (i : Nat) : rd l (i : Int) = l.getD i 0 := by simp [rd]
theorem drop_cons (l : List Int) (i : Nat) (h : i < l.length) : l.drop i = l.getD i 0 :: l.drop (i + 1) := by
  rw [List.drop_eq_getElem_cons h, List.getD_eq_getElem?_getD, List.getElem?_eq_getElem h]; rfl
theorem rd_byte {l : List Int} (h : ∀ x ∈ l, 0 ≤ x ∧ x ≤ 255) (i : Int) : 0 ≤ rd l i ∧ rd l i ≤ 255 := by
  unfold rd
  rw [List.getD_eq_getElem?_getD]
  cases hi : l[i.toNat]? with
  | none => simp
  | some x => exact h x (List.mem_of_getElem? hi)
def tabL (f : Nat → Nat) (i : Nat) : List Int := (List.range 16).map fun j => if j < i then (f j : Int) else 0
theorem tabL_length (f : Nat → Nat) (i : Nat) : (tabL f i).length = 16 := by simp [tabL]
theorem tabL_zero (f : Nat → Nat) : tabL f 0 = List.replicate 16 0 := by rfl
theorem tabL_set (f : Nat → Nat) (i : Nat) (h : i < 16) : (tabL f i).set i (f i : Int) = tabL f (i + 1) := by
  apply List.ext_getElem
  · simp [tabL]
  · intro j h1 h2
    rw [List.getElem_set]
    simp only [tabL, List.getElem_map, List.getElem_range]
    split
    · subst_vars; rw [if_pos (by omega)]
    · by_cases hj : j < i
      · rw [if_pos hj, if_pos (by omega)]
      · rw [if_neg hj, if_neg (by omega)]
theorem tabL_get (f : Nat → Nat) (j : Nat) (h : j < 16) : rd (tabL f 16) (j : Int) = (f j : Int) := by
  rw [rd_nat, List.getD_eq_getElem?_getD, List.getElem?_eq_getElem (by rw [tabL_length]; exact h)]
  simp [tabL, h]

def f1n : Nat → Nat → Nat
  | 0, r => r
  | k + 1, r => f1n k (f1 r)

theorem f1n_lt : ∀ (k r : Nat), r < 4294967296 → f1n k r < 4294967296 := by
  intro k
  induction k with
  | zero => intro r h; exact h
  | succ k ih => intro r h; exact ih _ (f1_lt h)
theorem low_odd {r : Nat} (hr : r < 4294967296) (h : r % 2 = 1) : bits .and .u32 (r : Int) 1 = 1 := by
  have := u32_and_nat r 1 hr (by omega)
  rw [Nat.and_one_is_mod, h] at this
  exact this
theorem low_even {r : Nat} (hr : r < 4294967296) (h : ¬ r % 2 = 1) : bits .and .u32 (r : Int) 1 = 0 := by
  have := u32_and_nat r 1 hr (by omega)
  rw [Nat.and_one_is_mod, show r % 2 = 0 by omega] at this
  exact this
theorem half_odd {r : Nat} (hr : r < 4294967296) (h : r % 2 = 1) : bits .xor .u32 ((r : Int) / 2) 3988292384 = (f1 r : Int) := by
  have := u32_xor_nat (r / 2) 3988292384 (by omega) (by omega)
  rw [f1, if_pos h, ← this]; rfl
theorem half_even {r : Nat} (h : ¬ r % 2 = 1) : (r : Int) / 2 = (f1 r : Int) := by rw [f1, if_neg h]; rfl
theorem low_16 {r : Nat} (hr : r < 4294967296) : bits .and .u32 (r : Int) 15 = ((r % 16 : Nat) : Int) := by
  have := u32_and_nat r 15 hr (by omega)
  rw [show (15 : Nat) = 2 ^ 4 - 1 from rfl, Nat.and_two_pow_sub_one_eq_mod] at this
  exact this
theorem xor_16 {r : Nat} (hr : r < 4294967296) : bits .xor .u32 ((r : Int) / 16) ((f4 (r % 16) : Nat) : Int) = (f4 r : Int) := by
  have := u32_xor_nat (r / 16) (f4 (r % 16)) (by omega) (f4_lt (by omega))
  rw [f4_table r, ← this]; rfl

set_option maxRecDepth 100000 in
set_option maxHeartbeats 2000000 in
theorem sum_any (A0 : Option Addr) (c0 : Nat) (l0 : List Int) (w : World) (hr0 : Kd.C (Kd.int .u8) w A0 l0.length l0) (hby : ∀ x ∈ l0, 0 ≤ x ∧ x ≤ 255) (hl : l0.length ≤ 140737488355328) :
    Calls Tryz.prog 52 #[.slice A0 l0.length c0] w fun e w' => e = .returned (.int .i64 (sumS l0)) ∧ Below w.heap.size w w' := by
  have HR0 := Aside0.mk hr0
  clear hr0
  have hrep : (nums .u32 (List.replicate 16 0)).toArray = #[Value.int .u32 0, .int .u32 0, .int .u32 0, .int .u32 0, .int .u32 0, .int .u32 0, .int .u32 0, .int .u32 0, .int .u32 0, .int .u32 0, .int .u32 0, .int .u32 0, .int .u32 0, .int .u32 0, .int .u32 0, .int .u32 0] := rfl
  have h0 := Aside0.mk (Kd.R_of_own (own_lit w w.heap.size 187 .u32 (List.replicate 16 0) (Nat.le_refl _) (by simp)) (fun _ _ => trivial) : Kd.R (Kd.int .u32) 187 (w.alloc (.cells (nums .u32 (List.replicate 16 0)).toArray 187)) w.heap.size (fun _ => True) (.slice (some ⟨w.heap.size, 0, none⟩) 16 16) (List.replicate 16 0))
  rw [hrep] at h0
  clear hrep
  go_enter Tryz.func52, Tryz.ntmps52
  go_wp2
  go_loopg [10] 16 (fun k v10 w' => ∃ i : Nat, v10 = .int .i64 i ∧ i + k = 16 ∧ Aside0 (Kd.R (Kd.int .u32) 187 w' w.heap.size (fun _ => True) (.slice (some ⟨w.heap.size, 0, none⟩) 16 16) (tabL f4 i) ∧ Below w.heap.size w w'))
  case atStart => exact ⟨0, rfl, rfl, ⟨by rw [tabL_zero]; exact h0.out, (Below.refl _ _).alloc (Nat.le_refl _) _⟩⟩
  case round =>
    clear h0
    obtain ⟨i, rfl, hik, HT⟩ := hrel
    cases gk with
    | zero => 
      have hi16 : i = 16 := by omega
      subst hi16
      clear hik
      go_wp2
      go_loopg [7, 32] (l0.length) (fun k v7 v32 w' => ∃ r j : Nat, v7 = .int .u32 r ∧ v32 = .int .i64 j ∧ j + k = l0.length ∧ r < 4294967296 ∧ Aside0 (sumR (l0.drop j) r = sumR l0 4294967295) ∧ w' = wr)
      case atStart => exact ⟨4294967295, 0, rfl, rfl, by omega, by omega, ⟨rfl⟩, rfl⟩
      case round =>
        obtain ⟨r, j, rfl, rfl, hjk, hr, HS, rfl⟩ := hrel
        cases gk with
        | zero =>
          have hj : j = l0.length := by omega
          subst hj
          have hs := HS.out
          rw [List.drop_length] at hs
          have hfin : bits .xor .u32 (r : Int) 4294967295 = (sumS l0 : Int) := by
            have h1 := u32_xor_nat r 4294967295 hr (by omega)
            rw [xor_mask hr] at h1
            rw [sumS, ← hs]; exact h1
          have hsl : sumS l0 ≤ 4294967295 := by unfold sumS; omega
          clear hs HS
          go_wp2
          go_ret
          exact ⟨rfl, HT.out.2⟩
        | succ k =>
          have hjl : j < l0.length := by omega
          obtain ⟨ad, e0, hx⟩ := Kd.at_int (Kd.C_below HR0.out HT.out.2) (j : Int) (by omega) (by omega)
          cases e0
          obtain ⟨x, hxn⟩ : ∃ x : Nat, rd l0 (j : Int) = (x : Int) := ⟨(rd l0 (j : Int)).toNat, by have := rd_byte hby (j : Int); omega⟩
          have hxb : x ≤ 255 := by have := rd_byte hby (j : Int); omega
          rw [hxn] at hx
          simp only [Int.toNat_natCast] at hx
          obtain ⟨r1, hr1⟩ : ∃ r1, r1 = r ^^^ x := ⟨_, rfl⟩
          have hr1l : r1 < 4294967296 := by rw [hr1]; exact Nat.xor_lt_two_pow (n := 32) hr (by omega)
          have hs := HS.out
          rw [drop_cons l0 j hjl, sumR, ← rd_nat, hxn, Int.toNat_natCast, ← hr1] at hs
          have hb1 : bits .xor .u32 (r : Int) (x : Int) = (r1 : Int) := by rw [hr1]; exact u32_xor_nat r x hr (by omega)
          obtain ⟨r2, hr2⟩ : ∃ r2, r2 = f4 r1 := ⟨_, rfl⟩
          obtain ⟨r3, hr3⟩ : ∃ r3, r3 = f4 r2 := ⟨_, rfl⟩
          have hr2l : r2 < 4294967296 := by rw [hr2]; exact f4_lt hr1l
          have hr3l : r3 < 4294967296 := by rw [hr3]; exact f4_lt hr2l
          rw [← hr2, ← hr3] at hs
          obtain ⟨m1, hm1⟩ : ∃ m1, m1 = r1 % 16 := ⟨_, rfl⟩
          obtain ⟨m2, hm2⟩ : ∃ m2, m2 = r2 % 16 := ⟨_, rfl⟩
          have hm1l : m1 < 16 := by omega
          have hm2l : m2 < 16 := by omega
          have ha1 := low_16 hr1l
          have ha2 := low_16 hr2l
          have hb2 := xor_16 hr1l
          have hb3 := xor_16 hr2l
          rw [← hm1] at ha1 hb2
          rw [← hm2] at ha2 hb3
          rw [← hr2] at hb2
          rw [← hr3] at hb3
          obtain ⟨t1, ht1⟩ : ∃ t1, t1 = f4 m1 := ⟨_, rfl⟩
          obtain ⟨t2, ht2⟩ : ∃ t2, t2 = f4 m2 := ⟨_, rfl⟩
          rw [← ht1] at hb2
          rw [← ht2] at hb3
          obtain ⟨hc1, -⟩ := Kd.R_celln (0 : Int) HT.out.1 (m1 : Int) (by omega) (by omega)
          obtain ⟨hc2, -⟩ := Kd.R_celln (0 : Int) HT.out.1 (m2 : Int) (by omega) (by omega)
          have hg1 : rdOf 0 (tabL f4 16) (m1 : Int) = (t1 : Int) := by rw [ht1]; exact tabL_get f4 m1 hm1l
          have hg2 : rdOf 0 (tabL f4 16) (m2 : Int) = (t2 : Int) := by rw [ht2]; exact tabL_get f4 m2 hm2l
          rw [hg1] at hc1
          rw [hg2] at hc2
          simp only [Int.toNat_natCast] at hc1 hc2
          have HS2 := Aside0.mk hs
          have hm1i : (m1 : Int) < 16 := by omega
          have hm2i : (m2 : Int) < 16 := by omega
          clear hs HS hr1 hr2 hr3 hm1 hm2 ht1 ht2 hg1 hg2 hxn
          go_wp2
          go_roundg k
          case measure => omega
          case rel => exact ⟨r3, j + 1, rfl, by go_num, by omega, hr3l, HS2, rfl⟩
    | succ k =>
      have hi : i < 16 := by omega
      have hi1 : (i : Int) < 16 := by omega
      go_wp2
      go_loopg [5, 6, 15] 4 (fun k v5 v6 v15 w' => ∃ t r : Nat, v5 = .int .u32 r ∧ v15 = .int .i64 t ∧ t + k = 4 ∧ r < 4294967296 ∧ Aside0 (f1n k r = f4 i) ∧ Aside0 (Kd.R (Kd.int .u32) 187 w' w.heap.size (fun _ => True) (.slice (some ⟨w.heap.size, 0, none⟩) 16 16) (tabL f4 i) ∧ Below w.heap.size w w'))
      case atStart => exact ⟨0, i, rfl, rfl, rfl, by omega, ⟨rfl⟩, HT⟩
      case round =>
        clear HT
        obtain ⟨t, r, rfl, rfl, htk, hr, HF, HT⟩ := hrel
        cases gk with
        | zero =>
          have ht4 : t = 4 := by omega
          subst ht4
          have hrf : r = f4 i := HF.out
          have hR := HT.out.1
          obtain ⟨hc, hz⟩ := Kd.R_celln (0 : Int) hR (i : Int) (by omega) (by omega)
          simp only [Int.toNat_natCast] at hc hz
          have hP := Kd.R_putn (enc := Value.int .u32) (h1 := fun _ => rfl) hR (i : Int) (r : Int)
          simp only [Int.toNat_natCast] at hP
          have HN : Aside0 (Kd.R (Kd.int .u32) 187 (wr.setCell ⟨w.heap.size, i, none⟩ (.int .u32 r)) w.heap.size (fun _ => True) (.slice (some ⟨w.heap.size, 0, none⟩) 16 16) (tabL f4 (i + 1)) ∧ Below w.heap.size w (wr.setCell ⟨w.heap.size, i, none⟩ (.int .u32 r))) := ⟨by rw [← tabL_set f4 i hi, ← hrf]; exact hP, HT.out.2.setCell (p := ⟨w.heap.size, i, none⟩) (Nat.le_refl _) _⟩
          clear hrf hR hP HT HF
          go_wp2
          go_roundg k
          case measure => omega
          case rel => exact ⟨i + 1, by go_num, by omega, HN⟩
        | succ kt =>
          have ht : (t : Int) < 4 := by omega
          have HF2 : Aside0 (f1n kt (f1 r) = f4 i) := ⟨HF.out⟩
          have hf1 : f1 r < 4294967296 := f1_lt hr
          clear HF
          by_cases hodd : r % 2 = 1
          · have hlow := low_odd hr hodd
            have hhalf := half_odd hr hodd
            clear hodd
            go_wp2
            go_roundg kt
            case measure => omega
            case rel => exact ⟨t + 1, f1 r, rfl, by go_num, by omega, hf1, HF2, HT⟩
          · have hlow := low_even hr hodd
            have hhalf := half_even hodd
            clear hodd
            go_wp2
            go_roundg kt
            case measure => omega
            case rel => exact ⟨t + 1, f1 r, by first | rfl | rw [hhalf], by go_num, by omega, hf1, HF2, HT⟩
end Go.Proofs.YtdekmeanlcpenaaGreatDoor.Block

namespace Go.Proofs.YtdekmeanlcpenaaGreatDoor.Codec
open Go.RowKit Go.Proofs.YtdekmeanlcpenaaGreatDoorW.PrintWords Go.Proofs.YtdekmeanlcpenaaGreatDoor.Mid Go.Proofs.YtdekmeanlcpenaaGreatDoor.Block
set_option maxHeartbeats 4000000
set_option maxRecDepth 100000
theorem u8_and127 (x : Nat) (h : x ≤ 255) : bits .and .u8 (x : Int) 127 = ((x % 128 : Nat) : Int) := by
  have : ∀ m : Fin 256, bits .and .u8 ((m.val : Nat) : Int) 127 = ((m.val % 128 : Nat) : Int) := by decide +kernel
  exact this ⟨x, by omega⟩
theorem bits_or_comm (k : IntKind) (a b : Int) : bits .or k a b = bits .or k b a := by
  unfold bits
  simp [BitVec.or_comm]
theorem dig_one (e : Nat) (m v : Nat) (hm : m < 128) (hv : v < 2 ^ e) (P : Nat) (hP : 2 ^ e = P) (hPQ : P ≤ 268435456) : wrap64 ((m : Int) * (P : Int)) = ((m * P : Nat) : Int) ∧ bits .or .i64 (v : Int) ((m * P : Nat) : Int) = ((v + m * P : Nat) : Int) := by
  subst hP
  have h1 : m * 2 ^ e < 2 ^ 35 := by
    calc m * 2 ^ e < 128 * 2 ^ e := Nat.mul_lt_mul_of_pos_right hm (Nat.two_pow_pos e)
      _ ≤ 128 * 268435456 := Nat.mul_le_mul_left _ hPQ
      _ ≤ 2 ^ 35 := by decide
  refine ⟨?_, ?_⟩
  · rw [← Int.natCast_mul]
    generalize m * 2 ^ e = z at h1
    unfold wrap64
    have : (2 : Nat) ^ 35 = 34359738368 := by decide
    omega
  · rw [bits_or_comm]
    have h2 : v < 2 ^ 35 := Nat.lt_of_lt_of_le hv (Nat.le_trans hPQ (by decide))
    rw [bits_join .i64 35 (by decide) (fun n a b => IntWalk.i64_in n (by omega)) e ((m * 2 ^ e : Nat) : Int) (v : Int) (by omega) (by rw [show ((m * 2 ^ e : Nat) : Int) = (m : Int) * 2 ^ e by simp]; exact Int.mul_emod_left _ _) (by exact_mod_cast h1) (by omega) (by exact_mod_cast hv) (by exact_mod_cast h2)]
    omega
theorem dig_join (n m v : Nat) (hn : n ≤ 4) (hm : m < 128) (hv : v < 128 ^ n) : wrap64 ((m : Int) * 2 ^ (7 * n)) = ((m * 128 ^ n : Nat) : Int) ∧ bits .or .i64 (v : Int) ((m * 128 ^ n : Nat) : Int) = ((v + m * 128 ^ n : Nat) : Int) := by
  have e : (128 : Nat) ^ n = 2 ^ (7 * n) := by rw [Nat.pow_mul]
  have h := dig_one (7 * n) m v hm (by rw [← e]; exact hv) (128 ^ n) e.symm (by
    calc 128 ^ n ≤ 128 ^ 4 := Nat.pow_le_pow_right (by decide) hn
      _ ≤ 268435456 := by decide)
  have e2 : ((128 ^ n : Nat) : Int) = 2 ^ (7 * n) := by rw [e]; simp
  rw [e2] at h
  exact h
theorem codeNum_any (A : Option Addr) (c : Nat) (l : List Int) (w : World) (hC : Kd.C (Kd.int .u8) w A l.length l) (hb : Byt l) (hl : l.length ≤ 1000000000000) :
    Calls Tryz.prog 150 #[.slice A l.length c] w fun e w' => e = .returned (.tuple #[.int .i64 (numR l 0 0 1).1, .int .i64 (numR l 0 0 1).2.1, .int .i64 (numR l 0 0 1).2.2]) ∧ w = w' := by
  have HC := Aside0.mk hC
  have HB := Aside0.mk hb
  obtain ⟨r, hr⟩ : ∃ r, numR l 0 0 1 = r := ⟨_, rfl⟩
  rw [hr]
  have HR : Aside0 (numR (l.drop 0) 0 0 (128 ^ 0) = r) := ⟨hr⟩
  clear hC hb hr
  go_enter Tryz.func150, Tryz.ntmps150
  go_wp2
  apply wp_scope_straight
  go_wp2
  apply wp_label
  go_wp2
  go_loopg [2, 3] 5 (fun k v2 v3 w' => ∃ n v : Nat, v2 = .int .i64 v ∧ v3 = .int .i64 n ∧ n + k = 5 ∧ n ≤ l.length ∧ Aside0 (v < 128 ^ n) ∧ Aside0 (numR (l.drop n) n v (128 ^ n) = r) ∧ w = w')
  case atStart => exact ⟨0, 0, rfl, rfl, rfl, by omega, ⟨by decide⟩, HR, rfl⟩
  case round =>
    clear HR
    obtain ⟨n, v, rfl, rfl, hnk, hnl, HV, HR, rfl⟩ := hrel
    cases gk with
    | zero =>
      have h5 : n = 5 := by omega
      subst h5
      have hr := HR.out
      rw [numR_five] at hr
      have Hr := Aside0.mk hr
      clear hnk hr
      go_wp2
      rw [Exit.noGoto_ret]
      go_ret3
      rw [← Hr.out]
      exact ⟨rfl, rfl⟩
    | succ k =>
      have hn4 : n ≤ 4 := by omega
      by_cases he : n = l.length
      · have hr := HR.out
        rw [List.drop_of_length_le (by omega), numR, if_neg (by omega)] at hr
        have Hr := Aside0.mk hr
        have e1 : ((n : Int) == (l.length : Int)) = true := by rw [he]; simp
        have e2 : (n == l.length) = true := by rw [he]; simp
        have e3 : ((n : Int) == 5) = false := by rw [beq_eq_false_iff_ne]; omega
        have He := Aside0.mk he
        clear hr he hnk hn4 hnl
        go_wp2
        rw [Exit.noGoto_ret]
        go_ret3
        rw [← Hr.out]
        exact ⟨rfl, rfl⟩
      · have hlt : n < l.length := by omega
        obtain ⟨ad, e0, hx⟩ := Kd.at_int HC.out (n : Int) (by omega) (by omega)
        subst e0
        have hxb := rd_byte HB.out (n : Int)
        obtain ⟨x, hxn⟩ : ∃ x : Nat, rd l (n : Int) = (x : Int) := ⟨(rd l (n : Int)).toNat, by omega⟩
        rw [hxn] at hx hxb
        have hxb2 : x ≤ 255 := by omega
        have hr := HR.out
        rw [drop_cons l n hlt, ← rd_nat, hxn, numR, if_neg (by omega), Int.toNat_natCast] at hr
        obtain ⟨m, hm⟩ : ∃ m, x % 128 = m := ⟨_, rfl⟩
        rw [hm] at hr
        have hm1 : m < 128 := by omega
        have hand := u8_and127 x hxb2
        rw [hm] at hand
        have Hr := Aside0.mk hr
        have e1 : ((n : Int) == (l.length : Int)) = false := by rw [beq_eq_false_iff_ne]; omega
        have e2 : (n == l.length) = false := by rw [beq_eq_false_iff_ne]; omega
        have Hm := Aside0.mk hm
        simp only [Int.toNat_natCast] at hx
        clear hr hm hxb hxn HR
        obtain ⟨hsh, hor⟩ := dig_join n m v hn4 hm1 HV.out
        obtain ⟨sft, hsf⟩ : ∃ sft, m * 128 ^ n = sft := ⟨_, rfl⟩
        rw [hsf] at hsh hor
        have hr1 := Hr.out
        rw [hsf] at hr1
        obtain ⟨y, hy⟩ : ∃ y, v + sft = y := ⟨_, rfl⟩
        rw [hy] at hor hr1
        have HY : Aside0 (y < 128 ^ (n + 1)) := ⟨by
          have h1 := HV.out
          have h2 : m * 128 ^ n ≤ 127 * 128 ^ n := Nat.mul_le_mul_right _ (by omega)
          rw [Nat.pow_succ]; omega⟩
        have Hr1 := Aside0.mk hr1
        clear hsf hy hr1 Hr HV
        by_cases hc : x < 128
        · have hc1 : (x : Int) < 128 := by omega
          by_cases hm2 : y ≤ 2147483647
          · have hm3 : (y : Int) ≤ 2147483647 := by omega
            by_cases h0 : 0 < n ∧ x = 0
            · have hr2 := Hr1.out
              rw [if_pos (by omega), if_pos (.inr ⟨h0.1, by omega⟩)] at hr2
              have Hr2 := Aside0.mk hr2
              have hn1 : 1 < (n : Int) + 1 := by omega
              have hx0 : ((x : Int) == 0) = true := by rw [h0.2]; rfl
              clear h0 hr2
              go_wp2
              rw [Exit.noGoto_ret]
              go_ret3
              rw [← Hr2.out]
              exact ⟨rfl, rfl⟩
            · have hr2 := Hr1.out
              rw [if_pos (by omega), if_neg (by omega)] at hr2
              have Hr2 := Aside0.mk hr2
              clear hr2
              by_cases hn0 : n = 0
              · have hn1 : ¬ 1 < (n : Int) + 1 := by omega
                clear h0 hn0
                go_wp2
                try rw [Exit.noGoto_ret]
                go_ret3
                rw [← Hr2.out]
                exact ⟨rfl, rfl⟩
              · have hn1 : 1 < (n : Int) + 1 := by omega
                have hx0 : ((x : Int) == 0) = false := by rw [beq_eq_false_iff_ne]; omega
                clear h0
                go_wp2
                rw [Exit.noGoto_ret]
                go_ret3
                rw [← Hr2.out]
                exact ⟨rfl, rfl⟩
          · have hm3 : 2147483647 < (y : Int) := by omega
            have hr2 := Hr1.out
            rw [if_pos (by omega), if_pos (.inl (by omega))] at hr2
            have Hr2 := Aside0.mk hr2
            clear hr2
            go_wp2
            rw [Exit.noGoto_ret]
            go_ret3
            rw [← Hr2.out]
            exact ⟨rfl, rfl⟩
        · have hc1 : ¬ (x : Int) < 128 := by omega
          have hr2 := Hr1.out
          rw [if_neg (by omega)] at hr2
          have Hr2 : Aside0 (numR (l.drop (n + 1)) (n + 1) y (128 ^ (n + 1)) = r) := ⟨by rw [Nat.pow_succ]; exact hr2⟩
          clear hr2
          go_wp2
          go_roundg k
          case measure => omega
          case rel => exact ⟨n + 1, y, rfl, by go_num, by omega, by omega, HY, Hr2, rfl⟩
end Go.Proofs.YtdekmeanlcpenaaGreatDoor.Codec

namespace Go.Proofs.YtdekmeanlcpenaaGreatDoor.Pick
open Go.RowKit
open Go.Maps (Keyed)
open Go.ChangeMaps (setBlock map_eraseIdx)

theorem heap_setBlock_same {w : World} {b : Nat} {o : Obj} (hb : w.heap[b]? = some o) (o' : Obj) : (setBlock w b o').heap[b]? = some o' := by
  have hlt : b < w.heap.size := (Array.getElem?_eq_some_iff.1 hb).1
  show (w.heap.setIfInBounds b o')[b]? = some o'
  rw [Array.getElem?_setIfInBounds_self_of_lt hlt]
theorem heap_setBlock_other {w : World} {b : Nat} {o : Obj} (_hb : w.heap[b]? = some o) (o' : Obj) {i : Nat} (h : i ≠ b) : (setBlock w b o').heap[i]? = w.heap[i]? := by
  show (w.heap.setIfInBounds b o')[i]? = _
  rw [Array.getElem?_setIfInBounds_ne (by omega)]
theorem nodup_at {α : Type} {l : List α} (h : l.Nodup) {i j : Nat} {a : α} (hi : l[i]? = some a) (hj : l[j]? = some a) : i = j := by
  have li := (List.getElem?_eq_some_iff.1 hi).1
  have lj := (List.getElem?_eq_some_iff.1 hj).1
  rcases Nat.lt_trichotomy i j with e | e | e
  · have := List.pairwise_iff_getElem.1 h i j li lj e
    rw [List.getElem?_eq_getElem li] at hi
    rw [List.getElem?_eq_getElem lj] at hj
    exact absurd ((Option.some.inj hi).trans (Option.some.inj hj).symm) this
  · exact e
  · have := List.pairwise_iff_getElem.1 h j i lj li e
    rw [List.getElem?_eq_getElem li] at hi
    rw [List.getElem?_eq_getElem lj] at hj
    exact absurd ((Option.some.inj hj).trans (Option.some.inj hi).symm) this

/-- The entries of a set: its keys in the order in which they came, each element true. -/
structure SE (P : Program) (k : TypeId) (es : Array MapEntry) (clock : Nat) (ks : List Value) : Prop where
  keys : es.toList.map (·.key) = ks
  vals : ∀ x ∈ es.toList, x.val = .bool true
  lit : ∀ x ∈ es.toList, ∃ l, keyOf P k x.key = some l
  nd : ks.Nodup
  born : ∀ x ∈ es.toList, x.born < clock
  bnd : (es.toList.map (·.born)).Nodup

/-- Block b is a set of these keys. -/
def SetAt (P : Program) (k : TypeId) (w : World) (b : Nat) (ks : List Value) : Prop := ∃ es clock, w.heap[b]? = some (.map es clock) ∧ SE P k es clock ks

section
variable {P : Program} {k t e : TypeId} {w w1 : World} {b : Nat} {ks : List Value}

theorem SetAt.lt (h : SetAt P k w b ks) : b < w.heap.size := by
  obtain ⟨es, clock, hb, _⟩ := h
  exact (Array.getElem?_eq_some_iff.1 hb).1
theorem SetAt.made (P : Program) (k : TypeId) (w : World) : SetAt P k (w.alloc (.map #[] 0)) w.heap.size [] :=
  ⟨#[], 0, heap_alloc_new w _, ⟨rfl, by simp, by simp, by simp, by simp, by simp⟩⟩
theorem SetAt.move (h : SetAt P k w b ks) (hm : w1.heap[b]? = w.heap[b]?) : SetAt P k w1 b ks := by
  obtain ⟨es, clock, hb, S⟩ := h
  exact ⟨es, clock, hm.trans hb, S⟩
theorem SetAt.below (h : SetAt P k w b ks) (hb : Below w.heap.size w w1) : SetAt P k w1 b ks := h.move (hb.block b h.lt)
theorem SetAt.grown (h : SetAt P k w b ks) {row : Option Nat} (hg : w.grownBy w1 row) (hne : some b ≠ row) : SetAt P k w1 b ks := h.move (hg.block b h.lt hne)
theorem SetAt.setCell (h : SetAt P k w b ks) {a : Addr} (ha : b ≠ a.block) (u : Value) : SetAt P k (w.setCell a u) b ks := h.move (Below.heap_setCell w a u b ha)

theorem SE.mem {es : Array MapEntry} {clock : Nat} (S : SE P k es clock ks) {x : MapEntry} (hx : x ∈ es.toList) : x.key ∈ ks := by
  rw [← S.keys]; exact List.mem_map_of_mem hx

theorem SE.find {es : Array MapEntry} {clock : Nat} (S : SE P k es clock ks) (K : Keyed P k) (u : World) {key : Value} {kl : Lit} (hkey : keyOf P k key = some kl) :
    ((Instr.findKey k key es.toList).run P u = .ok none u ∧ key ∉ ks) ∨
    ∃ j x, (Instr.findKey k key es.toList).run P u = .ok (some (j, .bool true)) u ∧ es.toList[j]? = some x ∧ x.key = key ∧ key ∈ ks := by
  rcases K.find u hkey es.toList S.lit with ⟨h1, h2⟩ | ⟨j, x, h1, h2, h3⟩
  · refine .inl ⟨h1, fun hm => ?_⟩
    rw [← S.keys] at hm
    obtain ⟨x, hx, hk⟩ := List.mem_map.1 hm
    exact h2 x hx hk
  · have hx := List.mem_of_getElem? h2
    refine .inr ⟨j, x, ?_, h2, h3, by rw [← h3]; exact S.mem hx⟩
    rw [h1, S.vals x hx]

/-- m[k]. -/
theorem SetAt.look (h : SetAt P k w b ks) (K : Keyed P k) (ht : P.underlying t = some (.map k e)) (hz : (zeroValue e).run P w = .ok (.bool false) w) {key : Value} {kl : Lit} (hkey : keyOf P k key = some kl) (q : Bool) (hq : q = true ↔ key ∈ ks) :
    (Instr.lookup t (.map (some b)) key false).run P w = .ok (.bool q) w := by
  obtain ⟨es, clock, hb, S⟩ := h
  rcases S.find K w hkey with ⟨h1, h2⟩ | ⟨j, x, h1, h2, h3, h4⟩
  · have : q = false := by cases q <;> simp_all
    subst this
    simp [Instr.lookup, run_underlying ht, MapKept.run_getObj_map hb, K.check w _ hkey, h1, hz, Result.andThen]
  · have : q = true := hq.2 h4
    subst this
    simp [Instr.lookup, run_underlying ht, MapKept.run_getObj_map hb, K.check w _ hkey, h1, Result.andThen]

theorem setBlock_grown {o o' : Obj} (hb : w.heap[b]? = some o) : w.grownBy (setBlock w b o') (some b) ∧ (setBlock w b o').heap.size = w.heap.size :=
  ⟨⟨rfl, rfl, rfl, by simp [setBlock], fun i _ hi => heap_setBlock_other hb _ (fun e => hi (by rw [e]))⟩, by simp [setBlock]⟩

/-- m[k] = true. -/
theorem SetAt.put (h : SetAt P k w b ks) (K : Keyed P k) (ht : P.underlying t = some (.map k e)) {key : Value} {kl : Lit} (hkey : keyOf P k key = some kl) :
    ∃ w1 ks1, (Instr.mapUpdate t (.map (some b)) key (.bool true)).run P w = .ok () w1 ∧ SetAt P k w1 b ks1 ∧ (∀ v, v ∈ ks1 ↔ v ∈ ks ∨ v = key) ∧ w.grownBy w1 (some b) ∧ w1.heap.size = w.heap.size := by
  obtain ⟨es, clock, hb, S⟩ := h
  rcases S.find K w hkey with ⟨h1, h2⟩ | ⟨j, x, h1, h2, h3, h4⟩
  · obtain ⟨g1, g2⟩ := setBlock_grown (o' := .map (es.push ⟨key, .bool true, clock⟩) (clock + 1)) hb
    refine ⟨_, ks ++ [key], ?_, ⟨_, _, heap_setBlock_same hb _, ?_⟩, by simp, g1, g2⟩
    · simp [Instr.mapUpdate, run_underlying ht, MapKept.run_getObj_map hb, K.check w false hkey, h1, MapKept.run_setObj_map _ hb, Result.andThen, setBlock]
    · refine ⟨by simp [S.keys], ?_, ?_, ?_, ?_, ?_⟩
      · intro x hx
        simp only [Array.toList_push, List.mem_append, List.mem_singleton] at hx
        rcases hx with hx | rfl
        · exact S.vals x hx
        · rfl
      · intro x hx
        simp only [Array.toList_push, List.mem_append, List.mem_singleton] at hx
        rcases hx with hx | rfl
        · exact S.lit x hx
        · exact ⟨kl, hkey⟩
      · exact List.nodup_append.2 ⟨S.nd, by simp, fun a ha c hc e1 => h2 (by simp at hc; rw [← hc, ← e1]; exact ha)⟩
      · intro x hx
        simp only [Array.toList_push, List.mem_append, List.mem_singleton] at hx
        rcases hx with hx | rfl
        · have := S.born x hx; omega
        · show clock < clock + 1; omega
      · simp only [Array.toList_push, List.map_append, List.map_cons, List.map_nil]
        refine List.nodup_append.2 ⟨S.bnd, by simp, fun a ha c hc e1 => ?_⟩
        obtain ⟨x, hx, hxa⟩ := List.mem_map.1 ha
        have := S.born x hx
        simp at hc
        omega
  · obtain ⟨g1, g2⟩ := setBlock_grown (o' := .map (es.modify j fun e => { e with key := key, val := .bool true }) clock) hb
    have hj : es[j]? = some x := by simpa using h2
    refine ⟨_, ks, ?_, ⟨_, _, heap_setBlock_same hb _, ?_⟩, fun v => ⟨.inl, fun hv => hv.elim id (fun e => e ▸ h4)⟩, g1, g2⟩
    · simp [Instr.mapUpdate, run_underlying ht, MapKept.run_getObj_map hb, K.check w false hkey, h1, hj, h3, K.stays w hkey, MapKept.run_setObj_map _ hb, Result.andThen, setBlock]
    · have heq : es.modify j (fun e => { e with key := key, val := .bool true }) = es := by
        apply Array.ext_getElem?
        intro i
        rw [Array.getElem?_modify]
        by_cases hij : j = i
        · subst hij
          rw [if_pos rfl, hj]
          have hv := S.vals x (List.mem_of_getElem? h2)
          cases x
          simp_all
        · rw [if_neg hij]
      rw [heq]
      exact S

/-- delete(m, k). -/
theorem SetAt.drop (h : SetAt P k w b ks) (K : Keyed P k) (ht : P.underlying t = some (.map k e)) (k' ty : TypeId) {key : Value} {kl : Lit} (hkey : keyOf P k key = some kl) :
    ∃ w1 ks1, (Builtin.delete_ #[t, k'] ty #[.map (some b), key]).run P w = .ok (.tuple #[]) w1 ∧ SetAt P k w1 b ks1 ∧ (∀ v, v ∈ ks1 ↔ v ∈ ks ∧ v ≠ key) ∧ w.grownBy w1 (some b) ∧ w1.heap.size = w.heap.size := by
  obtain ⟨es, clock, hb, S⟩ := h
  rcases S.find K w hkey with ⟨h1, h2⟩ | ⟨j, x, h1, h2, h3, h4⟩
  · obtain ⟨g1, g2⟩ := setBlock_grown (o' := .map es clock) hb
    refine ⟨_, ks, ?_, ⟨_, _, heap_setBlock_same hb _, S⟩, fun v => ⟨fun hv => ⟨hv, fun e => h2 (e ▸ hv)⟩, And.left⟩, g1, g2⟩
    simp [Builtin.delete_, run_underlying ht, MapKept.run_getObj_map hb, K.check w _ hkey, h1, MapKept.run_setObj_map _ hb, Result.andThen, setBlock]
  · obtain ⟨g1, g2⟩ := setBlock_grown (o' := .map (es.eraseIdxIfInBounds j) clock) hb
    have hj : j < es.toList.length := (List.getElem?_eq_some_iff.1 h2).1
    have hl : (es.eraseIdxIfInBounds j).toList = es.toList.eraseIdx j := by
      have : j < es.size := by simpa using hj
      simp [Array.eraseIdxIfInBounds, this]
    have sub : ∀ {z}, z ∈ (es.eraseIdxIfInBounds j).toList → z ∈ es.toList := fun hz => by rw [hl] at hz; exact List.mem_of_mem_eraseIdx hz
    refine ⟨_, ks.eraseIdx j, ?_, ⟨_, _, heap_setBlock_same hb _, ⟨?_, fun z hz => S.vals z (sub hz), fun z hz => S.lit z (sub hz), ?_, fun z hz => S.born z (sub hz), ?_⟩⟩, ?_, g1, g2⟩
    · simp [Builtin.delete_, run_underlying ht, MapKept.run_getObj_map hb, K.check w _ hkey, h1, MapKept.run_setObj_map _ hb, Result.andThen, setBlock]
    · rw [hl, map_eraseIdx, S.keys]
    · exact S.nd.sublist (List.eraseIdx_sublist ..)
    · rw [hl, map_eraseIdx]
      exact S.bnd.sublist (List.eraseIdx_sublist ..)
    · intro v
      have hkj : ks[j]? = some key := by rw [← S.keys, List.getElem?_map, h2]; simp [h3]
      constructor
      · intro hv
        refine ⟨List.mem_of_mem_eraseIdx hv, ?_⟩
        rintro rfl
        obtain ⟨i, hi⟩ := List.mem_iff_getElem?.1 hv
        rw [List.getElem?_eraseIdx] at hi
        have inj : ∀ i i' : Nat, ks[i]? = some v → ks[i']? = some v → i = i' := fun i i' a a' => nodup_at S.nd a a'
        split at hi
        · have := inj _ _ hi hkj; omega
        · have := inj _ _ hi hkj; omega
      · rintro ⟨hv, hne⟩
        obtain ⟨i, hi⟩ := List.mem_iff_getElem?.1 hv
        have hij : i ≠ j := by
          rintro rfl
          rw [hkj] at hi
          exact hne (Option.some.inj hi).symm
        by_cases hlt : i < j
        · exact List.mem_of_getElem? (i := i) (by rw [List.getElem?_eraseIdx, if_pos hlt]; exact hi)
        · refine List.mem_of_getElem? (i := i - 1) ?_
          rw [List.getElem?_eraseIdx, if_neg (by omega), Nat.sub_add_cancel (by omega)]
          exact hi

/-- The set b, and the loop over it in block r, to which these keys are left. -/
def LoopAt (P : Program) (k : TypeId) (w : World) (b r : Nat) (ks left : List Value) : Prop :=
  ∃ es clock since seen c0, w.heap[b]? = some (.map es clock) ∧ SE P k es clock ks ∧ w.heap[r]? = some (.mapIter (some b) since seen c0) ∧ (∀ x ∈ es.toList, x.born < since) ∧ since ≤ c0 ∧ since ≤ clock ∧ left = (leftOf es seen).toList.map (·.key)

theorem LoopAt.set {r : Nat} {left : List Value} (h : LoopAt P k w b r ks left) : SetAt P k w b ks := by
  obtain ⟨es, clock, since, seen, c0, hb, S, _⟩ := h
  exact ⟨es, clock, hb, S⟩
theorem LoopAt.move {r : Nat} {left : List Value} (h : LoopAt P k w b r ks left) (hb : w1.heap[b]? = w.heap[b]?) (hr : w1.heap[r]? = w.heap[r]?) : LoopAt P k w1 b r ks left := by
  obtain ⟨es, clock, since, seen, c0, h1, S, h2, r⟩ := h
  exact ⟨es, clock, since, seen, c0, hb.trans h1, S, hr.trans h2, r⟩
theorem LoopAt.lt {r : Nat} {left : List Value} (h : LoopAt P k w b r ks left) : r < w.heap.size := by
  obtain ⟨es, clock, since, seen, c0, _, _, h2, _⟩ := h
  exact (Array.getElem?_eq_some_iff.1 h2).1
theorem LoopAt.below {r : Nat} {left : List Value} (h : LoopAt P k w b r ks left) (hb : Below w.heap.size w w1) : LoopAt P k w1 b r ks left := h.move (hb.block b h.set.lt) (hb.block r h.lt)
/-- left are keys of the set. -/
theorem LoopAt.sub {r : Nat} {left : List Value} (h : LoopAt P k w b r ks left) : ∀ v ∈ left, v ∈ ks := by
  obtain ⟨es, clock, since, seen, c0, _, S, _, _, _, _, rfl⟩ := h
  intro v hv
  obtain ⟨x, hx, rfl⟩ := List.mem_map.1 hv
  exact S.mem (mem_left hx).1

/-- range m. -/
theorem SetAt.range (h : SetAt P k w b ks) (ht : P.underlying t = some (.map k e)) :
    ∃ w1, (Instr.range t (.map (some b))).run P w = .ok (.pointer (some ⟨w.heap.size, 0, none⟩)) w1 ∧ LoopAt P k w1 b w.heap.size ks ks ∧ w.grownBy w1 none ∧ w1.heap.size = w.heap.size + 1 := by
  have hlt := h.lt
  obtain ⟨es, clock, hb, S⟩ := h
  refine ⟨_, run_range_map w t k e b es clock ht hb, ⟨es, clock, clock, #[], clock, ((MapKept.heap_alloc w _).2 b hlt).trans hb, S, (MapKept.heap_alloc w _).1, S.born, Nat.le_refl _, Nat.le_refl _, ?_⟩, World.grownBy_alloc w _ none, by simp⟩
  have hf : (leftOf es #[]).toList = es.toList := by simp [leftOf]
  rw [hf]
  exact S.keys.symm

/-- next. -/
theorem LoopAt.next {r : Nat} {left : List Value} (h : LoopAt P k w b r ks left) (ty : TypeId) :
    (left = [] ∧ (Instr.next (.pointer (some ⟨r, 0, none⟩)) false ty).run P w = .ok (.tuple #[.bool false]) w) ∨
    ∃ key w1 left1, key ∈ left ∧ (Instr.next (.pointer (some ⟨r, 0, none⟩)) false ty).run P w = .ok (.tuple #[.bool true, key, .bool true]) w1 ∧ LoopAt P k w1 b r ks left1 ∧ (∀ v, v ∈ left1 ↔ v ∈ left ∧ v ≠ key) ∧ left1.length < left.length ∧ w.grownBy w1 (some r) ∧ w1.heap.size = w.heap.size ∧ (Instr.entry (.pointer (some ⟨r, 0, none⟩))).run P w1 = .ok (.tuple #[key, .bool true]) w1 := by
  have hrl := h.lt
  obtain ⟨es, clock, since, seen, c0, hb, S, hr, h3, h4, h7, rfl⟩ := h
  rcases run_next_at w ty r b since c0 seen es clock hr hb h3 h4 with ⟨h5, h6⟩ | ⟨x, hx, w2, hw2, h6⟩
  · refine .inl ⟨?_, h6⟩
    have : leftOf es seen = #[] := Array.eq_empty_of_size_eq_zero h5
    rw [this]; rfl
  · have hm := mem_left hx
    have hne : b ≠ r := by
      rintro rfl
      rw [hb] at hr; cases hr
    have hb2 : w2.heap[b]? = some (.map es clock) := by rcases hw2 with rfl | rfl <;> exact hb
    have hr2 : w2.heap[r]? = some (.mapIter (some b) since seen c0) := by rcases hw2 with rfl | rfl <;> exact hr
    have hg2 : w.grownBy w2 none ∧ w2.heap.size = w.heap.size := by
      rcases hw2 with rfl | rfl
      · exact ⟨⟨rfl, rfl, rfl, Nat.le_refl _, fun _ _ _ => rfl⟩, rfl⟩
      · exact ⟨⟨rfl, rfl, rfl, Nat.le_refl _, fun _ _ _ => rfl⟩, rfl⟩
    obtain ⟨g1, g2⟩ := setBlock_grown (o' := .mapIter (some b) since (seen.push x.born) clock) hr2
    refine .inr ⟨x.key, _, _, List.mem_map_of_mem hx, ?_, ⟨es, clock, since, seen.push x.born, clock, (heap_setBlock_other hr2 _ hne).trans hb2, S, heap_setBlock_same hr2 _, h3, h7, h7, rfl⟩, ?_, ?_, ?_, ?_, ?_⟩
    · rw [h6, S.vals x hm.1]
    · intro v
      have same : ∀ y ∈ es.toList, y.born = x.born ↔ y.key = x.key := by
        intro y hy
        obtain ⟨i, hi⟩ := List.mem_iff_getElem?.1 hy
        obtain ⟨j, hj⟩ := List.mem_iff_getElem?.1 hm.1
        have hkd : (es.toList.map (·.key)).Nodup := by rw [S.keys]; exact S.nd
        constructor
        · intro e1
          have h1 : (es.toList.map (·.born))[i]? = some y.born := by rw [List.getElem?_map, hi]; rfl
          have h2 : (es.toList.map (·.born))[j]? = some y.born := by rw [List.getElem?_map, hj, e1]; rfl
          have : i = j := nodup_at S.bnd h1 h2
          subst this
          rw [hi] at hj
          rw [Option.some.inj hj]
        · intro e1
          have h1 : (es.toList.map (·.key))[i]? = some y.key := by rw [List.getElem?_map, hi]; rfl
          have h2 : (es.toList.map (·.key))[j]? = some y.key := by rw [List.getElem?_map, hj, e1]; rfl
          have : i = j := nodup_at hkd h1 h2
          subst this
          rw [hi] at hj
          rw [Option.some.inj hj]
      have ml : ∀ (sn : Array Nat) (y : MapEntry), y ∈ (leftOf es sn).toList ↔ y ∈ es.toList ∧ sn.contains y.born = false := by
        intro sn y
        refine ⟨mem_left, fun hy => ?_⟩
        unfold leftOf
        rw [Array.mem_toList_iff, Array.mem_filter]
        exact ⟨Array.mem_toList_iff.1 hy.1, by rw [hy.2]; rfl⟩
      constructor
      · intro hv
        obtain ⟨y, hy, rfl⟩ := List.mem_map.1 hv
        obtain ⟨hy1, hy2⟩ := (ml _ _).1 hy
        rw [contains_push] at hy2
        simp only [Bool.or_eq_false_iff, beq_eq_false_iff_ne, ne_eq] at hy2
        exact ⟨List.mem_map_of_mem ((ml _ _).2 ⟨hy1, hy2.1⟩), fun e1 => hy2.2 ((same y hy1).2 e1)⟩
      · rintro ⟨hv, hne1⟩
        obtain ⟨y, hy, rfl⟩ := List.mem_map.1 hv
        obtain ⟨hy1, hy2⟩ := (ml _ _).1 hy
        refine List.mem_map_of_mem ((ml _ _).2 ⟨hy1, ?_⟩)
        rw [contains_push]
        simp only [Bool.or_eq_false_iff, beq_eq_false_iff_ne, ne_eq]
        exact ⟨hy2, fun e1 => hne1 ((same y hy1).1 e1)⟩
    · have := left_shrinks es seen x hx
      simpa using this
    · exact World.grownBy.andThen (row := some r) ⟨hg2.1.os, hg2.1.tape, hg2.1.output, hg2.1.size, fun i hi _ => hg2.1.block i hi (by simp)⟩ g1 (fun j hj => .inr hj)
    · rw [g2, hg2.2]
    · rw [run_entry_at (w := setBlock w2 r (.mapIter (some b) since (seen.push x.born) clock)) (r := r) (bm := b) (since := since) (seen := seen) (es := es) (clock := clock) (e := x) (heap_setBlock_same hr2 _) ((heap_setBlock_other hr2 _ hne).trans hb2) hm.1 S.bnd, S.vals x hm.1]
end
end Go.Proofs.YtdekmeanlcpenaaGreatDoor.Pick

namespace Go.Proofs.YtdekmeanlcpenaaGreatDoor.Pick
open Go.RowKit
open Go.Maps (Keyed)
section
variable {P : Program} {ops : Array Oper} {rest : List Oper} {o : Oper} {a : Act} {Q : Exit → Act → World → Prop} {w : World} {k t e : TypeId} {b : Nat} {ks : List Value}
theorem wpList_look (hg : o.guard = none) (m x : Operand) (hop : o.op = Op.lookup t m x false) (K : Keyed P k) (ht : P.underlying t = some (.map k e)) (hz : ∀ u : World, (zeroValue e).run P u = .ok (.bool false) u)
    (hm : a.eval m = .map (some b)) (hS : SetAt P k w b ks) (key : Value) (kl : Lit) (hx : a.eval x = key) (hkey : keyOf P k key = some kl) (q : Bool) (hq : q = true ↔ key ∈ ks)
    (h : wpList P ops Q rest (a.put o.dst (.bool q)) w) : wpList P ops Q (o :: rest) a w := by
  refine wpList_plain hg fun K' hK' => ?_
  have hrun := hS.look K ht (hz w) hkey q hq
  unfold Oper.wp
  simp [execOp, hop, hm, hx, hrun, Result.andThen]
  exact hK' _ _ h
theorem wpList_put (hg : o.guard = none) (m x v : Operand) (hop : o.op = Op.mapUpdate t m x v) (K : Keyed P k) (ht : P.underlying t = some (.map k e))
    (hm : a.eval m = .map (some b)) (hS : SetAt P k w b ks) (key : Value) (kl : Lit) (hx : a.eval x = key) (hv : a.eval v = .bool true) (hkey : keyOf P k key = some kl)
    (h : ∀ w1 ks1, SetAt P k w1 b ks1 → (∀ v, v ∈ ks1 ↔ v ∈ ks ∨ v = key) → w.grownBy w1 (some b) → w1.heap.size = w.heap.size → wpList P ops Q rest (a.put o.dst undef) w1) : wpList P ops Q (o :: rest) a w := by
  refine wpList_plain hg fun K' hK' => ?_
  obtain ⟨w1, ks1, hrun, h1, h2, h3, h4⟩ := hS.put K ht hkey
  unfold Oper.wp
  simp [execOp, hop, hm, hx, hv, hrun, Result.andThen]
  exact hK' _ _ (h w1 ks1 h1 h2 h3 h4)
theorem wpList_drop (hg : o.guard = none) (m x : Operand) (k' : TypeId) (hop : o.op = Op.call { callee := Callee.builtin Builtin.delete, args := #[m, x], argTypes := #[t, k'] }) (K : Keyed P k) (ht : P.underlying t = some (.map k e))
    (hm : a.eval m = .map (some b)) (hS : SetAt P k w b ks) (key : Value) (kl : Lit) (hx : a.eval x = key) (hkey : keyOf P k key = some kl)
    (h : ∀ w1 ks1, SetAt P k w1 b ks1 → (∀ v, v ∈ ks1 ↔ v ∈ ks ∧ v ≠ key) → w.grownBy w1 (some b) → w1.heap.size = w.heap.size → wpList P ops Q rest (a.put o.dst (.tuple #[])) w1) : wpList P ops Q (o :: rest) a w := by
  refine wpList_plain hg fun K' hK' => ?_
  obtain ⟨w1, ks1, hrun, h1, h2, h3, h4⟩ := hS.drop K ht k' o.type hkey
  unfold Oper.wp
  simp [execOp, hop, resolve, invoke, builtin, hm, hx, hrun, Result.andThen]
  exact hK' _ _ (h w1 ks1 h1 h2 h3 h4)
theorem wpList_range (hg : o.guard = none) (m : Operand) (hop : o.op = Op.range t m) (ht : P.underlying t = some (.map k e)) (hm : a.eval m = .map (some b)) (hS : SetAt P k w b ks)
    (h : ∀ w1, LoopAt P k w1 b w.heap.size ks ks → w.grownBy w1 none → w1.heap.size = w.heap.size + 1 → wpList P ops Q rest (a.put o.dst (.pointer (some ⟨w.heap.size, 0, none⟩))) w1) : wpList P ops Q (o :: rest) a w := by
  refine wpList_plain hg fun K' hK' => ?_
  obtain ⟨w1, hrun, h1, h2, h3⟩ := hS.range ht
  unfold Oper.wp
  simp [execOp, hop, hm, hrun, Result.andThen]
  exact hK' _ _ (h w1 h1 h2 h3)
theorem wpList_run (hg : o.guard = none) (v : Value) (w1 : World) (hrun : (execOp a.eval o).run P w = .ok (.value v) w1) (h : wpList P ops Q rest (a.put o.dst v) w1) : wpList P ops Q (o :: rest) a w := by
  refine wpList_plain hg fun K' hK' => ?_
  unfold Oper.wp
  rw [hrun]
  exact hK' _ _ h
theorem wpList_next (hg : o.guard = none) (it : Operand) (hop : o.op = Op.next it false) {r : Nat} {v : Value} {w1 : World} (hit : a.eval it = .pointer (some ⟨r, 0, none⟩)) (hrun : (Instr.next (.pointer (some ⟨r, 0, none⟩)) false o.type).run P w = .ok v w1)
    (h : wpList P ops Q rest (a.put o.dst v) w1) : wpList P ops Q (o :: rest) a w := wpList_run hg v w1 (by simp [execOp, hop, hit, hrun, Result.andThen]) h
theorem wpList_entry (hg : o.guard = none) (it : Operand) (hop : o.op = Op.entry it) {r : Nat} {v : Value} (hit : a.eval it = .pointer (some ⟨r, 0, none⟩)) (hrun : (Instr.entry (.pointer (some ⟨r, 0, none⟩))).run P w = .ok v w)
    (h : wpList P ops Q rest (a.put o.dst v) w) : wpList P ops Q (o :: rest) a w := wpList_run hg v w (by simp [execOp, hop, hit, hrun, Result.andThen]) h
end
end Go.Proofs.YtdekmeanlcpenaaGreatDoor.Pick

namespace Go.Proofs.YtdekmeanlcpenaaGreatDoor.Mid
open Go.RowKit Go.Proofs.YtdekmeanlcpenaaGreatDoorW.PrintWords
set_option maxRecDepth 100000

theorem fold_put (pre post : List Value) : ∀ (v done mid : List Value), mid.length = v.length →
    (v.zipIdx done.length).foldl (fun (cs : Array Value) x => cs.setIfInBounds (pre.length + x.2) x.1) (pre ++ (done ++ mid) ++ post).toArray = (pre ++ (done ++ v) ++ post).toArray
  | [], done, mid, h => by
    have : mid = [] := List.length_eq_zero_iff.1 (by simpa using h)
    subst this
    rfl
  | c :: v, done, [], h => by simp at h
  | c :: v, done, m :: mid, h => by
    have ih := fold_put pre post v (done ++ [c]) mid (by simpa using h)
    have e : (pre ++ (done ++ m :: mid) ++ post).toArray.setIfInBounds (pre.length + done.length) c = (pre ++ ((done ++ [c]) ++ mid) ++ post).toArray := by
      rw [List.setIfInBounds_toArray]
      congr 1
      have h1 : pre ++ (done ++ m :: mid) ++ post = (pre ++ done) ++ (m :: (mid ++ post)) := by simp
      rw [h1, ← List.length_append, List.set_append_right _ _ (Nat.le_refl _), Nat.sub_self]
      simp
    rw [List.zipIdx_cons, List.foldl_cons]
    show ((v.zipIdx (done.length + 1)).foldl _ ((pre ++ (done ++ m :: mid) ++ post).toArray.setIfInBounds (pre.length + done.length) c)) = _
    rw [e]
    rw [List.length_append, List.length_singleton] at ih
    rw [ih]
    simp
theorem fold_arr (off : Nat) (v : List Value) (cs : Array Value) : v.toArray.zipIdx.foldl (fun (cs : Array Value) (x : Value × Nat) => cs.setIfInBounds (off + x.2) x.1) cs = (v.zipIdx 0).foldl (fun (cs : Array Value) x => cs.setIfInBounds (off + x.2) x.1) cs := by
  rw [← Array.foldl_toList]
  simp
/-- One part of full size. -/
theorem fill_part {place : Nat → Option (Nat × Nat)} {i off sz : Nat} {rest : List (Nat × Value)} (hp : place i = some (off, sz)) (pre mid post v : List Value) (x : Value) (hx : x.cells = v.toArray) (hl : pre.length = off) (hm : mid.length = sz) (hv : v.length = sz) :
    Instr.fill place (pre ++ mid ++ post).toArray ((i, x) :: rest) = Instr.fill place (pre ++ v ++ post).toArray rest := by
  rw [Instr.fill]
  simp only [hp]
  rw [if_neg (by simp [hx]; omega), hx]
  have h1 := fold_put pre post v [] mid (by omega)
  simp only [List.nil_append, List.length_nil] at h1
  have h2 := fold_arr off v (pre ++ mid ++ post).toArray
  rw [← hl] at h2 ⊢
  exact congrArg (fun z => Instr.fill place z rest) (h2.trans h1)
theorem fill_one {place : Nat → Option (Nat × Nat)} {i off sz : Nat} {rest : List (Nat × Value)} (hp : place i = some (off, sz)) (pre mid post v : List Value) (hl : pre.length = off) (hm : mid.length = sz) (hv : v.length = sz) :
    Instr.fill place (pre ++ mid ++ post).toArray ((i, .agg v.toArray) :: rest) = Instr.fill place (pre ++ v ++ post).toArray rest := fill_part hp pre mid post v _ rfl hl hm hv
theorem fill_rows (sz : Nat) : ∀ (vs : List (List Value)) (i : Nat) (pre zs : List Value), (∀ v ∈ vs, v.length = sz) → pre.length = i * sz → zs.length = vs.length * sz →
    Instr.fill (fun i => some (i * sz, sz)) (pre ++ zs).toArray ((vs.zipIdx i).map fun x => (x.2, .agg x.1.toArray)) = some (pre ++ vs.flatten).toArray
  | [], i, pre, zs, _, _, hz => by
    have : zs = [] := List.length_eq_zero_iff.1 (by simpa using hz)
    subst this
    rfl
  | v :: vs, i, pre, zs, hv, hp, hz => by
    rw [List.length_cons, Nat.add_mul, Nat.one_mul] at hz
    have h1 := fill_one (place := fun i => some (i * sz, sz)) (i := i) (rest := (vs.zipIdx (i + 1)).map fun x => (x.2, .agg x.1.toArray)) rfl pre (zs.take sz) (zs.drop sz) v hp (by rw [List.length_take]; omega) (hv v (by simp))
    have ih := fill_rows sz vs (i + 1) (pre ++ v) (zs.drop sz) (fun u hu => hv u (List.mem_cons_of_mem _ hu)) (by rw [List.length_append, hp, hv v (by simp), Nat.add_mul, Nat.one_mul]) (by rw [List.length_drop]; omega)
    rw [List.append_assoc, List.take_append_drop] at h1
    rw [List.zipIdx_cons, List.map_cons, h1, ih]
    simp

section
variable {ops : Array Oper} {rest : List Oper} {o : Oper} {a : Act} {w : World} {Q : Exit → Act → World → Prop} {K : Act → World → Prop}
theorem wp_buildRows {t e sz : Nat} (n : Nat) (parts : Array (Nat × Operand)) (ho : o.op = .buildSlice t n parts) (vs : List (List Value)) (hu : Tryz.prog.underlying t = some (.slice e)) (hi : ∃ z b, (Tryz.prog.info? e).map (fun i => (i.zero, i.size, i.bytes)) = some (some z, sz, b) ∧ z.cells.size = sz)
    (hp : (parts.map fun (i, x) => (i, a.eval x)).toList = (vs.zipIdx 0).map fun x => (x.2, .agg x.1.toArray)) (hv : ∀ v ∈ vs, v.length = sz) (hn : vs.length = n) (h0 : 0 < n * sz) (hs : n * sz ≤ 16777216)
    (h : K (a.put o.dst (.slice (some ⟨w.heap.size, 0, none⟩) n n)) (w.alloc (.cells vs.flatten.toArray e))) : o.wp Tryz.prog a w K Q := by
  obtain ⟨z, b, hz1, hz2⟩ := hi
  obtain ⟨ie, hie, he⟩ := Option.map_eq_some_iff.1 hz1
  simp only [Prod.mk.injEq] at he
  obtain ⟨e1, e2, _⟩ := he
  refine wp_buildSlice t e n parts ho _ ie z hu hie e1 (by rw [e2]; omega) (by rw [e2]; omega) ?_ h
  rw [hp, e2]
  have := fill_rows sz vs 0 [] ((Array.range (n * sz)).map (z.cells[· % z.cells.size]!)).toList hv (by simp) (by simp [hn])
  rw [List.nil_append, List.nil_append, Array.toArray_toList] at this
  exact this
theorem wpList_buildRows {t e sz : Nat} (hg : o.guard = none) (n : Nat) (parts : Array (Nat × Operand)) (ho : o.op = .buildSlice t n parts) (vs : List (List Value)) (hu : Tryz.prog.underlying t = some (.slice e)) (hi : ∃ z b, (Tryz.prog.info? e).map (fun i => (i.zero, i.size, i.bytes)) = some (some z, sz, b) ∧ z.cells.size = sz)
    (hp : (parts.map fun (i, x) => (i, a.eval x)).toList = (vs.zipIdx 0).map fun x => (x.2, .agg x.1.toArray)) (hv : ∀ v ∈ vs, v.length = sz) (hn : vs.length = n) (h0 : 0 < n * sz) (hs : n * sz ≤ 16777216)
    (h : wpList Tryz.prog ops Q rest (a.put o.dst (.slice (some ⟨w.heap.size, 0, none⟩) n n)) (w.alloc (.cells vs.flatten.toArray e))) : wpList Tryz.prog ops Q (o :: rest) a w :=
  wpList_plain hg fun _ hK => wp_buildRows n parts ho vs hu hi hp hv hn h0 hs (hK _ _ h)
theorem wpList_build33 (hg : o.guard = none) (x : Operand) (ho : o.op = .buildSlice 22 1 #[(0, x)]) (r : Res) (hr : ResOk r) (hx : a.eval x = .agg (resC r).toArray)
    (h : wpList Tryz.prog ops Q rest (a.put o.dst (.slice (some ⟨w.heap.size, 0, none⟩) 1 1)) (w.alloc (.cells (resC r).toArray 33))) : wpList Tryz.prog ops Q (o :: rest) a w := by
  obtain ⟨z, h1, h2⟩ := info33full
  refine wpList_buildRows hg 1 _ ho [resC r] Tryz.underlying22 ⟨z, _, h1, h2⟩ (by simp [hx]) (fun v hv => by rw [List.mem_singleton.1 hv, resC_length hr]) rfl (by decide) (by decide) ?_
  simpa using h
end

/-! ### Literals of ids and of results -/
def z32 : List Int := List.replicate 32 0
theorem z32_ok : IdOk z32 := ⟨rfl, fun u hu => by rw [List.eq_of_mem_replicate hu]; decide⟩
def bld (t : TypeId) (ps : Array (Nat × Value)) : Sem Value := Instr.build t ps
theorem build29_eq (ps : Array (Nat × Value)) : Instr.build 29 ps = bld 29 ps := rfl
theorem build33_eq (ps : Array (Nat × Value)) : Instr.build 33 ps = bld 33 ps := rfl
theorem bld29_none (w : World) : (bld 29 #[]).run Tryz.prog w = .ok (.agg (u8s z32).toArray) w := by kernel_rfl
theorem bld29_one (w : World) (n : Int) : (bld 29 #[(0, .int .u8 n)]).run Tryz.prog w = .ok (.agg (u8s (n :: List.replicate 31 0)).toArray) w := by kernel_rfl
theorem bld33_none (w : World) : (bld 33 #[]).run Tryz.prog w = .ok (.agg (resC ⟨z32, z32, 0⟩).toArray) w := by kernel_rfl
theorem bld33_code (w : World) (n : Int) : (bld 33 #[(2, .int .i64 n)]).run Tryz.prog w = .ok (.agg (resC ⟨z32, z32, n⟩).toArray) w := by kernel_rfl
theorem zero33 (w : World) : (zeroValue 33).run Tryz.prog w = .ok (.agg (resC ⟨z32, z32, 0⟩).toArray) w := by kernel_rfl
/-! ### A fault -/
/-- The cells of a Fault: which call, of what name, of which id, and its number. -/
def faultC (op name : ByteArray) (id : List Int) (err : Value) : List Value := [.string op] ++ [.string name] ++ u8s id ++ [err]
def errno (n : Int) : Value := .iface 80 (.int .i64 n)
theorem faultC_length {op name : ByteArray} {id : List Int} {err : Value} (h : IdOk id) : (faultC op name id err).length = 35 := by simp [faultC, u8s_length, h.len]
theorem build69_eq (ps : Array (Nat × Value)) : Instr.build 82 ps = bld 82 ps := rfl
def places69 : Array (Nat × Nat) := #[(0, 1), (1, 1), (2, 32), (34, 1)]
theorem run_build69 (w : World) (ps : Array (Nat × Value)) (cells : Array Value) (h : Instr.fill (places69[·]?) (faultC .empty .empty z32 .nilIface).toArray ps.toList = some cells) : (bld 82 ps).run Tryz.prog w = .ok (.agg cells) w := by
  have hz : (zeroValue 82).run Tryz.prog w = .ok (.agg (faultC .empty .empty z32 .nilIface).toArray) w := by kernel_rfl
  have h9 : (sizeOf 9).run Tryz.prog w = .ok 1 w := by kernel_rfl
  have h29 : (sizeOf 29).run Tryz.prog w = .ok 32 w := by kernel_rfl
  have h35 : (sizeOf 35).run Tryz.prog w = .ok 1 w := by kernel_rfl
  unfold bld Instr.build
  simp only [Sem.run_bind, hz, Result.andThen_ok, run_underlying Tryz.underlying82 w, Value.cells]
  simp [h9, h29, h35, Sem.run_bind, Result.andThen]
  have e : (fun x : Nat => places69[x]?) = fun x => ([(0, 1), (1, 1), (2, 32), (34, 1)] : List (Nat × Nat))[x]? := by
    funext x
    simp [places69]
  rw [e] at h
  simp only [h]
  rfl
theorem bld69_two (w : World) (op : ByteArray) (err : Value) (he : err.cells = #[err]) : (bld 82 #[(0, .string op), (3, err)]).run Tryz.prog w = .ok (.agg (faultC op .empty z32 err).toArray) w := by
  refine run_build69 w _ _ ?_
  have h1 := fill_part (place := (places69[·]?)) (i := 0) (off := 0) (sz := 1) (rest := [(3, err)]) rfl [] [.string .empty] ([.string .empty] ++ u8s z32 ++ [.nilIface]) [.string op] (.string op) rfl rfl rfl rfl
  have h2 := fill_part (place := (places69[·]?)) (i := 3) (off := 34) (sz := 1) (rest := []) rfl ([.string op] ++ [.string .empty] ++ u8s z32) [.nilIface] [] [err] err he (by simp [u8s_length, z32]) rfl rfl
  simp only [faultC, List.nil_append, List.append_nil, List.append_assoc] at h1 h2 ⊢
  rw [h1, h2]
  rfl
theorem bld69_three (w : World) (op : ByteArray) (x : List Int) (hx : IdOk x) (err : Value) (he : err.cells = #[err]) : (bld 82 #[(0, .string op), (2, .agg (u8s x).toArray), (3, err)]).run Tryz.prog w = .ok (.agg (faultC op .empty x err).toArray) w := by
  refine run_build69 w _ _ ?_
  have hl : (u8s x).length = 32 := by rw [u8s_length, hx.len]
  have h1 := fill_part (place := (places69[·]?)) (i := 0) (off := 0) (sz := 1) (rest := [(2, .agg (u8s x).toArray), (3, err)]) rfl [] [.string .empty] ([.string .empty] ++ u8s z32 ++ [.nilIface]) [.string op] (.string op) rfl rfl rfl rfl
  have h2 := fill_part (place := (places69[·]?)) (i := 2) (off := 2) (sz := 32) (rest := [(3, err)]) rfl ([.string op] ++ [.string .empty]) (u8s z32) [.nilIface] (u8s x) (.agg (u8s x).toArray) rfl rfl rfl hl
  have h3 := fill_part (place := (places69[·]?)) (i := 3) (off := 34) (sz := 1) (rest := []) rfl ([.string op] ++ [.string .empty] ++ u8s x) [.nilIface] [] [err] err he (by simp [hl]) rfl rfl
  simp only [faultC, List.nil_append, List.append_nil, List.append_assoc] at h1 h2 h3 ⊢
  rw [h1, h2, h3]
  rfl
theorem bld69_four (w : World) (op nm : ByteArray) (x : List Int) (hx : IdOk x) (err : Value) (he : err.cells = #[err]) : (bld 82 #[(0, .string op), (1, .string nm), (2, .agg (u8s x).toArray), (3, err)]).run Tryz.prog w = .ok (.agg (faultC op nm x err).toArray) w := by
  refine run_build69 w _ _ ?_
  have hl : (u8s x).length = 32 := by rw [u8s_length, hx.len]
  have h1 := fill_part (place := (places69[·]?)) (i := 0) (off := 0) (sz := 1) (rest := [(1, .string nm), (2, .agg (u8s x).toArray), (3, err)]) rfl [] [.string .empty] ([.string .empty] ++ u8s z32 ++ [.nilIface]) [.string op] (.string op) rfl rfl rfl rfl
  have h0 := fill_part (place := (places69[·]?)) (i := 1) (off := 1) (sz := 1) (rest := [(2, .agg (u8s x).toArray), (3, err)]) rfl [.string op] [.string .empty] (u8s z32 ++ [.nilIface]) [.string nm] (.string nm) rfl rfl rfl rfl
  have h2 := fill_part (place := (places69[·]?)) (i := 2) (off := 2) (sz := 32) (rest := [(3, err)]) rfl ([.string op] ++ [.string nm]) (u8s z32) [.nilIface] (u8s x) (.agg (u8s x).toArray) rfl rfl rfl hl
  have h3 := fill_part (place := (places69[·]?)) (i := 3) (off := 34) (sz := 1) (rest := []) rfl ([.string op] ++ [.string nm] ++ u8s x) [.nilIface] [] [err] err he (by simp [hl]) rfl rfl
  simp only [faultC, List.nil_append, List.append_nil, List.append_assoc] at h0 h1 h2 h3 ⊢
  rw [h1, h0, h2, h3]
  rfl
theorem errno_cells (n : Int) : (errno n).cells = #[errno n] := rfl
end Go.Proofs.YtdekmeanlcpenaaGreatDoor.Mid

namespace Go.Proofs.YtdekmeanlcpenaaGreatDoor.Mid
open Go.RowKit Go.Proofs.YtdekmeanlcpenaaGreatDoorW.PrintWords Go.Proofs.YtdekmeanlcpenaaGreatDoor.Pick

theorem R_off {α : Type} {d : Kd α} {e : Nat} {W W1 : World} {b : Nat} {v : Value} {y : List α} {r : Option Nat} (hE : d.E = []) (h : d.R e W b (fun _ => True) v y) (hg : W.grownBy W1 r) (hne : ∀ k, v.ownBlock = some k → some k ≠ r) : d.R e W1 b (fun _ => True) v y :=
  Kd.R_mono (Kd.R_grown (Kd.R_tight hE h) hg (fun k hk => hne k hk.symm)) (fun _ _ => trivial)
theorem set_ne {α : Type} {d : Kd α} {e : Nat} {W : World} {b : Nat} {v : Value} {y : List α} {ok : Nat → Prop} {P : Program} {t k : Nat} {ks : List Value} (hS : SetAt P t W k ks) (h : d.R e W b ok v y) : some k ≠ v.ownBlock := by
  intro he
  obtain ⟨cells, hc⟩ := Kd.R_typed h k he.symm
  obtain ⟨es, clock, hb, _⟩ := hS
  rw [hc] at hb
  cases hb
theorem At.grown {W W1 : World} {p : Addr} {cs : List Value} {r : Option Nat} (h : At W p cs) (hlt : p.block < W.heap.size) (hg : W.grownBy W1 r) (hne : some p.block ≠ r) : At W1 p cs := h.move (hg.block _ hlt hne)
theorem grown_none {W W1 : World} {r : Option Nat} (h : W.grownBy W1 none) : W.grownBy W1 r := ⟨h.os, h.tape, h.output, h.size, fun k hk _ => h.block k hk (by simp)⟩
theorem grown_of_below {W W1 : World} {r : Option Nat} (h : Below W.heap.size W W1) : W.grownBy W1 r := ⟨h.os, h.tape, h.output, h.size, fun k hk _ => h.block k hk⟩
theorem res_M {w : World} {b : Nat} {ok : Nat → Prop} {r : Res} (hr : ResOk r) : resK.M w b ok r (resC r) := (show ResOk r ∧ resC r = resC r from ⟨hr, rfl⟩)
theorem id_M {w : World} {b : Nat} {ok : Nat → Prop} {x : List Int} (hx : IdOk x) : idK.M w b ok x (u8s x) := (show IdOk x ∧ u8s x = u8s x from ⟨hx, rfl⟩)
theorem resK_sz : resK.sz = 65 := rfl
theorem idK_sz : idK.sz = 32 := rfl
/-- The walk stands here. -/
theorem wpList_stop {P : Program} {ops : Array Oper} {Q : Exit → Act → World → Prop} {l : List Oper} {a : Act} {w : World} (h : Aside0 (wpList P ops Q l a w)) : wpList P ops Q l a w := h.out
theorem results_tct {fn : Func} {p q u : Tmp} {x : List Int} (hx : IdOk x) (h : fn.results = #[.tmp p, .cell q 29, .tmp u]) (tmps : Array Value) (w : World) (g : Nat)
    (hp : tmps.getD q undef = .pointer (some ⟨g, 0, none⟩)) (hg : w.heap[g]? = some (.cells (u8s x).toArray 29 (0, 0))) :
    (results fn tmps).run Tryz.prog w = .ok (.tuple #[tmps.getD p undef, idv x, tmps.getD u undef]) w := by
  have hp' : tmps[q]?.getD undef = .pointer (some ⟨g, 0, none⟩) := by simpa using hp
  have hl := run_loadVar_at (P := Tryz.prog) w ⟨g, 0, none⟩ 29 (u8s x) _ (At.blk hg) Tryz.underlying29 rfl (by rw [u8s_length, hx.len]; exact info29)
  simp [results, h, hp', asAddr, hl, idv]
theorem results_ttc {fn : Func} {p q u : Tmp} {x : List Int} (hx : IdOk x) (h : fn.results = #[.tmp p, .tmp u, .cell q 29]) (tmps : Array Value) (w : World) (g : Nat)
    (hp : tmps.getD q undef = .pointer (some ⟨g, 0, none⟩)) (hg : w.heap[g]? = some (.cells (u8s x).toArray 29 (0, 0))) :
    (results fn tmps).run Tryz.prog w = .ok (.tuple #[tmps.getD p undef, tmps.getD u undef, idv x]) w := by
  have hp' : tmps[q]?.getD undef = .pointer (some ⟨g, 0, none⟩) := by simpa using hp
  have hl := run_loadVar_at (P := Tryz.prog) w ⟨g, 0, none⟩ 29 (u8s x) _ (At.blk hg) Tryz.underlying29 rfl (by rw [u8s_length, hx.len]; exact info29)
  simp [results, h, hp', asAddr, hl, idv]
end Go.Proofs.YtdekmeanlcpenaaGreatDoor.Mid

namespace Go.Proofs.YtdekmeanlcpenaaGreatDoor.Codec
open Go.RowKit Go.Proofs.YtdekmeanlcpenaaGreatDoorW.PrintWords Go.Proofs.YtdekmeanlcpenaaGreatDoor.Mid Go.Proofs.YtdekmeanlcpenaaGreatDoor.Block
set_option maxHeartbeats 4000000
set_option maxRecDepth 100000
/-- A reader in memory. -/
structure Rd (W : World) (g : Nat) (D : Option Addr) (k : Nat) (s : RS) : Prop where
  blk : W.heap[g]? = some (.cells #[.int .i64 s.code, .int .i64 s.place, .slice D s.data.length k, .int .i64 s.at_] 265 (0, 0))
  dat : Kd.C (Kd.int .u8) W D s.data.length s.data
  cap : s.data.length ≤ k
  off : ∀ ad, D = some ad → ad.block ≠ g
  at_ : s.at_ ≤ s.data.length
  byt : Byt s.data
  len : s.data.length ≤ 1000000000000
section
variable {W W1 : World} {g k : Nat} {D : Option Addr} {s s1 : RS}
theorem Rd.below (h : Rd W g D k s) (hb : Below W.heap.size W W1) : Rd W1 g D k s := ⟨blk_below h.blk hb, Kd.C_below h.dat hb, h.cap, h.off, h.at_, h.byt, h.len⟩
theorem Rd.lt (h : Rd W g D k s) : g < W.heap.size := blk_lt h.blk
/-- The reader's variable is written. -/
theorem Rd.put (h : Rd W g D k s) (hd : s1.data = s.data) (ha : s1.at_ ≤ s.data.length) (hg : W.grownBy W1 (some g)) (hb : W1.heap[g]? = some (.cells #[.int .i64 s1.code, .int .i64 s1.place, .slice D s.data.length k, .int .i64 s1.at_] 265 (0, 0))) : Rd W1 g D k s1 := by
  have hc : Kd.C (Kd.int .u8) W1 D s.data.length s.data := Kd.C_foot_neS (S := fun k => k = g) (fun h => h) h.dat (fun ad he _ => h.off ad he) W1 ⟨hg.size, fun i hi hn => hg.block i hi (fun e => hn (by injection e))⟩
  exact ⟨by rw [hd]; exact hb, by rw [hd]; exact hc, by rw [hd]; exact h.cap, h.off, by rw [hd]; exact ha, by rw [hd]; exact h.byt, by rw [hd]; exact h.len⟩
end
/-- One alone may come up. -/
theorem heldOne {P : Program} {md : Region.Mode} {ops : Array Oper} {Q : Exit → Act → World → Prop} {S : World → Prop} {i : Nat} {o : Oper} {fuel : Nat} {listed : Array Bool} {a : Act} {w : World} (hr : Region.ready md ops listed = [i]) (hi : ops[i]? = some o) (hw : Region.wanted o (yielded ops a.tmps) = true)
    (h : o.wp P a w (fun a' w' => S w' ∧ wpAnyH P md ops Q S fuel (listed.setIfInBounds i true) a' w') Q) : wpAnyH P md ops Q S (fuel + 1) listed a w := by
  refine ⟨fun h0 => (by rw [hr] at h0; cases h0), fun j hj => ?_⟩
  rw [hr, List.mem_singleton] at hj
  subst hj
  unfold wpOp
  simp only [hi, hw, if_true]
  exact .inl h
theorem grown_set (w : World) (p : Addr) (v : Value) : w.grownBy (w.setCell p v) (some p.block) := ⟨rfl, rfl, rfl, by simp [World.setCell], fun k _ hk => Below.heap_setCell w p v k (fun e => hk (by rw [e]))⟩
theorem spoilt_is (g : Nat) (n : Nat) (w : World) (h : w.cell? ⟨g, 0, none⟩ = some (.int .i64 n)) : Calls Tryz.prog 100 #[.pointer (some ⟨g, 0, none⟩)] w fun e w' => e = .returned (.bool (!((n : Int) == 0))) ∧ w = w' := by
  go_enter Tryz.func100, Tryz.ntmps100
  go_wp2
  go_ret
  exact ⟨rfl, rfl⟩
theorem goes_yes {W : World} {g k : Nat} {D : Option Addr} {s : RS} (h : Rd W g D k s) (hc : s.code = 0) : Calls Tryz.prog 148 #[.pointer (some ⟨g, 0, none⟩)] W fun e w' => e = .returned (.bool true) ∧ W = w' := by
  have c0 : W.cell? ⟨g, 0, none⟩ = some (.int .i64 ((0 : Nat) : Int)) := by rw [blk_cell h.blk, hc]; rfl
  have C0 := Aside0.mk c0
  clear h hc c0
  go_enter Tryz.func148, Tryz.ntmps148
  go_wp2_with (go_at_call 100; refine (spoilt_is g 0 _ C0.out).mono ?_; rintro e w1 ⟨rfl, rfl⟩)
  go_ret
  exact ⟨rfl, rfl⟩
theorem goes_no {W : World} {g k : Nat} {D : Option Addr} {s : RS} (h : Rd W g D k s) (hc : s.code ≠ 0) : Calls Tryz.prog 148 #[.pointer (some ⟨g, 0, none⟩)] W fun e w' => e = .returned (.bool false) ∧ W = w' := by
  have c0 : W.cell? ⟨g, 0, none⟩ = some (.int .i64 (s.code : Int)) := by rw [blk_cell h.blk]; rfl
  have C0 := Aside0.mk c0
  have hb : (!((s.code : Int) == 0)) = true := by simp; omega
  have HB := Aside0.mk hb
  clear h hc c0 hb
  go_enter Tryz.func148, Tryz.ntmps148
  go_wp2_with (go_at_call 100; refine (spoilt_is g s.code _ C0.out).mono ?_; rw [HB.out]; rintro e w1 ⟨rfl, rfl⟩)
  go_ret
  exact ⟨rfl, rfl⟩
theorem spoil_any (g : Nat) (e at_ : Nat) (c1 d a : Value) (w : World) (h : w.heap[g]? = some (.cells #[.int .i64 0, c1, d, a] 265 (0, 0))) :
    Calls Tryz.prog 142 #[.pointer (some ⟨g, 0, none⟩), .int .i64 e, .int .i64 at_] w fun r w' => r = .returned (.tuple #[]) ∧ w'.heap[g]? = some (.cells #[.int .i64 e, .int .i64 at_, d, a] 265 (0, 0)) ∧ w.grownBy w' (some g) := by
  have c0 : w.cell? ⟨g, 0, none⟩ = some (.int .i64 0) := (blk_cell h _).trans rfl
  have c1' : w.cell? ⟨g, 1, none⟩ = some c1 := (blk_cell h _).trans rfl
  have f0 : w.frozen? ⟨g, 0, none⟩ = false := blk_frozen h _
  have f1 : w.frozen? ⟨g, 1, none⟩ = false := blk_frozen h _
  have H := Aside0.mk h
  clear h
  go_enter Tryz.func142, Tryz.ntmps142
  go_wp2
  go_end0
  refine ⟨rfl, ?_, World.grownBy.trans (grown_set w ⟨g, 0, none⟩ _) (grown_set _ ⟨g, 1, none⟩ _)⟩
  exact blk_set (blk_set H.out 0 (.int .i64 e)) 1 (.int .i64 at_)
end Go.Proofs.YtdekmeanlcpenaaGreatDoor.Codec
