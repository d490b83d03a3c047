import Derived.Test.YtdekmeanlcpenaaGreatDoorCe5
import Derived.IntWalk
import Derived.WalkMore
import Derived.OrdersHeld
import Derived.Test.YtdekmeanlcpenaaGreatDoorCe3
import Derived.Laws.CopyOwn
import Derived.Test.YtdekmeanlcpenaaGreatDoorCe2
set_option linter.unusedSimpArgs false
set_option linter.unusedVariables false
namespace Go.Proofs.YtdekmeanlcpenaaGreatDoor.Block
open Go.RowKit Go.Proofs.YtdekmeanlcpenaaGreatDoorW.PrintWords Go.Proofs.YtdekmeanlcpenaaGreatDoorW.PrintLast Go.Proofs.YtdekmeanlcpenaaGreatDoorW.PrintMore
theorem rd_nat (l : List Int) (i : Nat) : rd l (i : Int) = l.getD i 0 := by simp [rd]
theorem drop_cons (l : List Int) (i : Nat) (h : i < l.length) : l.drop i = l.getD i 0 :: l.drop (i + 1) := by
  rw [List.drop_eq_getElem_cons h, List.getD_eq_getElem?_getD, List.getElem?_eq_getElem h]; rfl
theorem rd_byte {l : List Int} (h : ∀ x ∈ l, 0 ≤ x ∧ x ≤ 255) (i : Int) : 0 ≤ rd l i ∧ rd l i ≤ 255 := by
  unfold rd
  rw [List.getD_eq_getElem?_getD]
  cases hi : l[i.toNat]? with
  | none => simp
  | some x => exact h x (List.mem_of_getElem? hi)
def tabL (f : Nat → Nat) (i : Nat) : List Int := (List.range 16).map fun j => if j < i then (f j : Int) else 0
theorem tabL_length (f : Nat → Nat) (i : Nat) : (tabL f i).length = 16 := by simp [tabL]
theorem tabL_zero (f : Nat → Nat) : tabL f 0 = List.replicate 16 0 := by rfl
theorem tabL_set (f : Nat → Nat) (i : Nat) (h : i < 16) : (tabL f i).set i (f i : Int) = tabL f (i + 1) := by
  apply List.ext_getElem
  · simp [tabL]
  · intro j h1 h2
    rw [List.getElem_set]
    simp only [tabL, List.getElem_map, List.getElem_range]
    split
    · subst_vars; rw [if_pos (by omega)]
    · by_cases hj : j < i
      · rw [if_pos hj, if_pos (by omega)]
      · rw [if_neg hj, if_neg (by omega)]
theorem tabL_get (f : Nat → Nat) (j : Nat) (h : j < 16) : rd (tabL f 16) (j : Int) = (f j : Int) := by
  rw [rd_nat, List.getD_eq_getElem?_getD, List.getElem?_eq_getElem (by rw [tabL_length]; exact h)]
  simp [tabL, h]

def f1n : Nat → Nat → Nat
  | 0, r => r
  | k + 1, r => f1n k (f1 r)

theorem f1n_lt : ∀ (k r : Nat), r < 4294967296 → f1n k r < 4294967296 := by
  intro k
  induction k with
  | zero => intro r h; exact h
  | succ k ih => intro r h; exact ih _ (f1_lt h)
theorem low_odd {r : Nat} (hr : r < 4294967296) (h : r % 2 = 1) : bits .and .u32 (r : Int) 1 = 1 := by
  have := u32_and_nat r 1 hr (by omega)
  rw [Nat.and_one_is_mod, h] at this
  exact this
theorem low_even {r : Nat} (hr : r < 4294967296) (h : ¬ r % 2 = 1) : bits .and .u32 (r : Int) 1 = 0 := by
  have := u32_and_nat r 1 hr (by omega)
  rw [Nat.and_one_is_mod, show r % 2 = 0 by omega] at this
  exact this
theorem half_odd {r : Nat} (hr : r < 4294967296) (h : r % 2 = 1) : bits .xor .u32 ((r : Int) / 2) 3988292384 = (f1 r : Int) := by
  have := u32_xor_nat (r / 2) 3988292384 (by omega) (by omega)
  rw [f1, if_pos h, ← this]; rfl
theorem half_even {r : Nat} (h : ¬ r % 2 = 1) : (r : Int) / 2 = (f1 r : Int) := by rw [f1, if_neg h]; rfl
theorem low_16 {r : Nat} (hr : r < 4294967296) : bits .and .u32 (r : Int) 15 = ((r % 16 : Nat) : Int) := by
  have := u32_and_nat r 15 hr (by omega)
  rw [show (15 : Nat) = 2 ^ 4 - 1 from rfl, Nat.and_two_pow_sub_one_eq_mod] at this
  exact this
theorem xor_16 {r : Nat} (hr : r < 4294967296) : bits .xor .u32 ((r : Int) / 16) ((f4 (r % 16) : Nat) : Int) = (f4 r : Int) := by
  have := u32_xor_nat (r / 16) (f4 (r % 16)) (by omega) (f4_lt (by omega))
  rw [f4_table r, ← this]; rfl

set_option maxRecDepth 100000 in
set_option maxHeartbeats 2000000 in
theorem sum_any (A0 : Option Addr) (c0 : Nat) (l0 : List Int) (w : World) (hr0 : Kd.C (Kd.int .u8) w A0 l0.length l0) (hby : ∀ x ∈ l0, 0 ≤ x ∧ x ≤ 255) (hl : l0.length ≤ 140737488355328) :
    Calls Tryz.prog 52 #[.slice A0 l0.length c0] w fun e w' => e = .returned (.int .i64 (sumS l0)) ∧ Below w.heap.size w w' := by
  have HR0 := Aside0.mk hr0
  clear hr0
  have hrep : (nums .u32 (List.replicate 16 0)).toArray = #[Value.int .u32 0, .int .u32 0, .int .u32 0, .int .u32 0, .int .u32 0, .int .u32 0, .int .u32 0, .int .u32 0, .int .u32 0, .int .u32 0, .int .u32 0, .int .u32 0, .int .u32 0, .int .u32 0, .int .u32 0, .int .u32 0] := rfl
  have h0 := Aside0.mk (Kd.R_of_own (own_lit w w.heap.size 187 .u32 (List.replicate 16 0) (Nat.le_refl _) (by simp)) (fun _ _ => trivial) : Kd.R (Kd.int .u32) 187 (w.alloc (.cells (nums .u32 (List.replicate 16 0)).toArray 187)) w.heap.size (fun _ => True) (.slice (some ⟨w.heap.size, 0, none⟩) 16 16) (List.replicate 16 0))
  rw [hrep] at h0
  clear hrep
  go_enter Tryz.func52, Tryz.ntmps52
  go_wp2
  go_loopg [10] 16 (fun k v10 w' => ∃ i : Nat, v10 = .int .i64 i ∧ i + k = 16 ∧ Aside0 (Kd.R (Kd.int .u32) 187 w' w.heap.size (fun _ => True) (.slice (some ⟨w.heap.size, 0, none⟩) 16 16) (tabL f4 i) ∧ Below w.heap.size w w'))
  case atStart => exact ⟨0, rfl, rfl, ⟨by rw [tabL_zero]; exact h0.out, (Below.refl _ _).alloc (Nat.le_refl _) _⟩⟩
  case round =>
    clear h0
    obtain ⟨i, rfl, hik, HT⟩ := hrel
    cases gk with
    | zero => 
      have hi16 : i = 16 := by omega
      subst hi16
      clear hik
      go_wp2
      go_loopg [7, 32] (l0.length) (fun k v7 v32 w' => ∃ r j : Nat, v7 = .int .u32 r ∧ v32 = .int .i64 j ∧ j + k = l0.length ∧ r < 4294967296 ∧ Aside0 (sumR (l0.drop j) r = sumR l0 4294967295) ∧ w' = wr)
      case atStart => exact ⟨4294967295, 0, rfl, rfl, by omega, by omega, ⟨rfl⟩, rfl⟩
      case round =>
        obtain ⟨r, j, rfl, rfl, hjk, hr, HS, rfl⟩ := hrel
        cases gk with
        | zero =>
          have hj : j = l0.length := by omega
          subst hj
          have hs := HS.out
          rw [List.drop_length] at hs
          have hfin : bits .xor .u32 (r : Int) 4294967295 = (sumS l0 : Int) := by
            have h1 := u32_xor_nat r 4294967295 hr (by omega)
            rw [xor_mask hr] at h1
            rw [sumS, ← hs]; exact h1
          have hsl : sumS l0 ≤ 4294967295 := by unfold sumS; omega
          clear hs HS
          go_wp2
          go_ret
          exact ⟨rfl, HT.out.2⟩
        | succ k =>
          have hjl : j < l0.length := by omega
          obtain ⟨ad, e0, hx⟩ := Kd.at_int (Kd.C_below HR0.out HT.out.2) (j : Int) (by omega) (by omega)
          cases e0
          obtain ⟨x, hxn⟩ : ∃ x : Nat, rd l0 (j : Int) = (x : Int) := ⟨(rd l0 (j : Int)).toNat, by have := rd_byte hby (j : Int); omega⟩
          have hxb : x ≤ 255 := by have := rd_byte hby (j : Int); omega
          rw [hxn] at hx
          simp only [Int.toNat_natCast] at hx
          obtain ⟨r1, hr1⟩ : ∃ r1, r1 = r ^^^ x := ⟨_, rfl⟩
          have hr1l : r1 < 4294967296 := by rw [hr1]; exact Nat.xor_lt_two_pow (n := 32) hr (by omega)
          have hs := HS.out
          rw [drop_cons l0 j hjl, sumR, ← rd_nat, hxn, Int.toNat_natCast, ← hr1] at hs
          have hb1 : bits .xor .u32 (r : Int) (x : Int) = (r1 : Int) := by rw [hr1]; exact u32_xor_nat r x hr (by omega)
          obtain ⟨r2, hr2⟩ : ∃ r2, r2 = f4 r1 := ⟨_, rfl⟩
          obtain ⟨r3, hr3⟩ : ∃ r3, r3 = f4 r2 := ⟨_, rfl⟩
          have hr2l : r2 < 4294967296 := by rw [hr2]; exact f4_lt hr1l
          have hr3l : r3 < 4294967296 := by rw [hr3]; exact f4_lt hr2l
          rw [← hr2, ← hr3] at hs
          obtain ⟨m1, hm1⟩ : ∃ m1, m1 = r1 % 16 := ⟨_, rfl⟩
          obtain ⟨m2, hm2⟩ : ∃ m2, m2 = r2 % 16 := ⟨_, rfl⟩
          have hm1l : m1 < 16 := by omega
          have hm2l : m2 < 16 := by omega
          have ha1 := low_16 hr1l
          have ha2 := low_16 hr2l
          have hb2 := xor_16 hr1l
          have hb3 := xor_16 hr2l
          rw [← hm1] at ha1 hb2
          rw [← hm2] at ha2 hb3
          rw [← hr2] at hb2
          rw [← hr3] at hb3
          obtain ⟨t1, ht1⟩ : ∃ t1, t1 = f4 m1 := ⟨_, rfl⟩
          obtain ⟨t2, ht2⟩ : ∃ t2, t2 = f4 m2 := ⟨_, rfl⟩
          rw [← ht1] at hb2
          rw [← ht2] at hb3
          obtain ⟨hc1, -⟩ := Kd.R_celln (0 : Int) HT.out.1 (m1 : Int) (by omega) (by omega)
          obtain ⟨hc2, -⟩ := Kd.R_celln (0 : Int) HT.out.1 (m2 : Int) (by omega) (by omega)
          have hg1 : rdOf 0 (tabL f4 16) (m1 : Int) = (t1 : Int) := by rw [ht1]; exact tabL_get f4 m1 hm1l
          have hg2 : rdOf 0 (tabL f4 16) (m2 : Int) = (t2 : Int) := by rw [ht2]; exact tabL_get f4 m2 hm2l
          rw [hg1] at hc1
          rw [hg2] at hc2
          simp only [Int.toNat_natCast] at hc1 hc2
          have HS2 := Aside0.mk hs
          have hm1i : (m1 : Int) < 16 := by omega
          have hm2i : (m2 : Int) < 16 := by omega
          clear hs HS hr1 hr2 hr3 hm1 hm2 ht1 ht2 hg1 hg2 hxn
          go_wp2
          go_roundg k
          case measure => omega
          case rel => exact ⟨r3, j + 1, rfl, by go_num, by omega, hr3l, HS2, rfl⟩
    | succ k =>
      have hi : i < 16 := by omega
      have hi1 : (i : Int) < 16 := by omega
      go_wp2
      go_loopg [5, 6, 15] 4 (fun k v5 v6 v15 w' => ∃ t r : Nat, v5 = .int .u32 r ∧ v15 = .int .i64 t ∧ t + k = 4 ∧ r < 4294967296 ∧ Aside0 (f1n k r = f4 i) ∧ Aside0 (Kd.R (Kd.int .u32) 187 w' w.heap.size (fun _ => True) (.slice (some ⟨w.heap.size, 0, none⟩) 16 16) (tabL f4 i) ∧ Below w.heap.size w w'))
      case atStart => exact ⟨0, i, rfl, rfl, rfl, by omega, ⟨rfl⟩, HT⟩
      case round =>
        clear HT
        obtain ⟨t, r, rfl, rfl, htk, hr, HF, HT⟩ := hrel
        cases gk with
        | zero =>
          have ht4 : t = 4 := by omega
          subst ht4
          have hrf : r = f4 i := HF.out
          have hR := HT.out.1
          obtain ⟨hc, hz⟩ := Kd.R_celln (0 : Int) hR (i : Int) (by omega) (by omega)
          simp only [Int.toNat_natCast] at hc hz
          have hP := Kd.R_putn (enc := Value.int .u32) (h1 := fun _ => rfl) hR (i : Int) (r : Int)
          simp only [Int.toNat_natCast] at hP
          have HN : Aside0 (Kd.R (Kd.int .u32) 187 (wr.setCell ⟨w.heap.size, i, none⟩ (.int .u32 r)) w.heap.size (fun _ => True) (.slice (some ⟨w.heap.size, 0, none⟩) 16 16) (tabL f4 (i + 1)) ∧ Below w.heap.size w (wr.setCell ⟨w.heap.size, i, none⟩ (.int .u32 r))) := ⟨by rw [← tabL_set f4 i hi, ← hrf]; exact hP, HT.out.2.setCell (p := ⟨w.heap.size, i, none⟩) (Nat.le_refl _) _⟩
          clear hrf hR hP HT HF
          go_wp2
          go_roundg k
          case measure => omega
          case rel => exact ⟨i + 1, by go_num, by omega, HN⟩
        | succ kt =>
          have ht : (t : Int) < 4 := by omega
          have HF2 : Aside0 (f1n kt (f1 r) = f4 i) := ⟨HF.out⟩
          have hf1 : f1 r < 4294967296 := f1_lt hr
          clear HF
          by_cases hodd : r % 2 = 1
          · have hlow := low_odd hr hodd
            have hhalf := half_odd hr hodd
            clear hodd
            go_wp2
            go_roundg kt
            case measure => omega
            case rel => exact ⟨t + 1, f1 r, rfl, by go_num, by omega, hf1, HF2, HT⟩
          · have hlow := low_even hr hodd
            have hhalf := half_even hodd
            clear hodd
            go_wp2
            go_roundg kt
            case measure => omega
            case rel => exact ⟨t + 1, f1 r, by first | rfl | rw [hhalf], by go_num, by omega, hf1, HF2, HT⟩
end Go.Proofs.YtdekmeanlcpenaaGreatDoor.Block

namespace Go.Proofs.YtdekmeanlcpenaaGreatDoor.Codec
open Go.RowKit Go.Proofs.YtdekmeanlcpenaaGreatDoorW.PrintWords Go.Proofs.YtdekmeanlcpenaaGreatDoor.Mid Go.Proofs.YtdekmeanlcpenaaGreatDoor.Block
set_option maxHeartbeats 4000000
set_option maxRecDepth 100000
theorem u8_and127 (x : Nat) (h : x ≤ 255) : bits .and .u8 (x : Int) 127 = ((x % 128 : Nat) : Int) := by
  have : ∀ m : Fin 256, bits .and .u8 ((m.val : Nat) : Int) 127 = ((m.val % 128 : Nat) : Int) := by decide +kernel
  exact this ⟨x, by omega⟩
theorem bits_or_comm (k : IntKind) (a b : Int) : bits .or k a b = bits .or k b a := by
  unfold bits
  simp [BitVec.or_comm]
theorem dig_one (e : Nat) (m v : Nat) (hm : m < 128) (hv : v < 2 ^ e) (P : Nat) (hP : 2 ^ e = P) (hPQ : P ≤ 268435456) : wrap64 ((m : Int) * (P : Int)) = ((m * P : Nat) : Int) ∧ bits .or .i64 (v : Int) ((m * P : Nat) : Int) = ((v + m * P : Nat) : Int) := by
  subst hP
  have h1 : m * 2 ^ e < 2 ^ 35 := by
    calc m * 2 ^ e < 128 * 2 ^ e := Nat.mul_lt_mul_of_pos_right hm (Nat.two_pow_pos e)
      _ ≤ 128 * 268435456 := Nat.mul_le_mul_left _ hPQ
      _ ≤ 2 ^ 35 := by decide
  refine ⟨?_, ?_⟩
  · rw [← Int.natCast_mul]
    generalize m * 2 ^ e = z at h1
    unfold wrap64
    have : (2 : Nat) ^ 35 = 34359738368 := by decide
    omega
  · rw [bits_or_comm]
    have h2 : v < 2 ^ 35 := Nat.lt_of_lt_of_le hv (Nat.le_trans hPQ (by decide))
    rw [bits_join .i64 35 (by decide) (fun n a b => IntWalk.i64_in n (by omega)) e ((m * 2 ^ e : Nat) : Int) (v : Int) (by omega) (by rw [show ((m * 2 ^ e : Nat) : Int) = (m : Int) * 2 ^ e by simp]; exact Int.mul_emod_left _ _) (by exact_mod_cast h1) (by omega) (by exact_mod_cast hv) (by exact_mod_cast h2)]
    omega
theorem dig_join (n m v : Nat) (hn : n ≤ 4) (hm : m < 128) (hv : v < 128 ^ n) : wrap64 ((m : Int) * 2 ^ (7 * n)) = ((m * 128 ^ n : Nat) : Int) ∧ bits .or .i64 (v : Int) ((m * 128 ^ n : Nat) : Int) = ((v + m * 128 ^ n : Nat) : Int) := by
  have e : (128 : Nat) ^ n = 2 ^ (7 * n) := by rw [Nat.pow_mul]
  have h := dig_one (7 * n) m v hm (by rw [← e]; exact hv) (128 ^ n) e.symm (by
    calc 128 ^ n ≤ 128 ^ 4 := Nat.pow_le_pow_right (by decide) hn
      _ ≤ 268435456 := by decide)
  have e2 : ((128 ^ n : Nat) : Int) = 2 ^ (7 * n) := by rw [e]; simp
  rw [e2] at h
  exact h
theorem codeNum_any (A : Option Addr) (c : Nat) (l : List Int) (w : World) (hC : Kd.C (Kd.int .u8) w A l.length l) (hb : Byt l) (hl : l.length ≤ 1000000000000) :
    Calls Tryz.prog 150 #[.slice A l.length c] w fun e w' => e = .returned (.tuple #[.int .i64 (numR l 0 0 1).1, .int .i64 (numR l 0 0 1).2.1, .int .i64 (numR l 0 0 1).2.2]) ∧ w = w' := by
  have HC := Aside0.mk hC
  have HB := Aside0.mk hb
  obtain ⟨r, hr⟩ : ∃ r, numR l 0 0 1 = r := ⟨_, rfl⟩
  rw [hr]
  have HR : Aside0 (numR (l.drop 0) 0 0 (128 ^ 0) = r) := ⟨hr⟩
  clear hC hb hr
  go_enter Tryz.func150, Tryz.ntmps150
  go_wp2
  apply wp_scope_straight
  go_wp2
  apply wp_label
  go_wp2
  go_loopg [2, 3] 5 (fun k v2 v3 w' => ∃ n v : Nat, v2 = .int .i64 v ∧ v3 = .int .i64 n ∧ n + k = 5 ∧ n ≤ l.length ∧ Aside0 (v < 128 ^ n) ∧ Aside0 (numR (l.drop n) n v (128 ^ n) = r) ∧ w = w')
  case atStart => exact ⟨0, 0, rfl, rfl, rfl, by omega, ⟨by decide⟩, HR, rfl⟩
  case round =>
    clear HR
    obtain ⟨n, v, rfl, rfl, hnk, hnl, HV, HR, rfl⟩ := hrel
    cases gk with
    | zero =>
      have h5 : n = 5 := by omega
      subst h5
      have hr := HR.out
      rw [numR_five] at hr
      have Hr := Aside0.mk hr
      clear hnk hr
      go_wp2
      rw [Exit.noGoto_ret]
      go_ret3
      rw [← Hr.out]
      exact ⟨rfl, rfl⟩
    | succ k =>
      have hn4 : n ≤ 4 := by omega
      by_cases he : n = l.length
      · have hr := HR.out
        rw [List.drop_of_length_le (by omega), numR, if_neg (by omega)] at hr
        have Hr := Aside0.mk hr
        have e1 : ((n : Int) == (l.length : Int)) = true := by rw [he]; simp
        have e2 : (n == l.length) = true := by rw [he]; simp
        have e3 : ((n : Int) == 5) = false := by rw [beq_eq_false_iff_ne]; omega
        have He := Aside0.mk he
        clear hr he hnk hn4 hnl
        go_wp2
        rw [Exit.noGoto_ret]
        go_ret3
        rw [← Hr.out]
        exact ⟨rfl, rfl⟩
      · have hlt : n < l.length := by omega
        obtain ⟨ad, e0, hx⟩ := Kd.at_int HC.out (n : Int) (by omega) (by omega)
        subst e0
        have hxb := rd_byte HB.out (n : Int)
        obtain ⟨x, hxn⟩ : ∃ x : Nat, rd l (n : Int) = (x : Int) := ⟨(rd l (n : Int)).toNat, by omega⟩
        rw [hxn] at hx hxb
        have hxb2 : x ≤ 255 := by omega
        have hr := HR.out
        rw [drop_cons l n hlt, ← rd_nat, hxn, numR, if_neg (by omega), Int.toNat_natCast] at hr
        obtain ⟨m, hm⟩ : ∃ m, x % 128 = m := ⟨_, rfl⟩
        rw [hm] at hr
        have hm1 : m < 128 := by omega
        have hand := u8_and127 x hxb2
        rw [hm] at hand
        have Hr := Aside0.mk hr
        have e1 : ((n : Int) == (l.length : Int)) = false := by rw [beq_eq_false_iff_ne]; omega
        have e2 : (n == l.length) = false := by rw [beq_eq_false_iff_ne]; omega
        have Hm := Aside0.mk hm
        simp only [Int.toNat_natCast] at hx
        clear hr hm hxb hxn HR
        obtain ⟨hsh, hor⟩ := dig_join n m v hn4 hm1 HV.out
        obtain ⟨sft, hsf⟩ : ∃ sft, m * 128 ^ n = sft := ⟨_, rfl⟩
        rw [hsf] at hsh hor
        have hr1 := Hr.out
        rw [hsf] at hr1
        obtain ⟨y, hy⟩ : ∃ y, v + sft = y := ⟨_, rfl⟩
        rw [hy] at hor hr1
        have HY : Aside0 (y < 128 ^ (n + 1)) := ⟨by
          have h1 := HV.out
          have h2 : m * 128 ^ n ≤ 127 * 128 ^ n := Nat.mul_le_mul_right _ (by omega)
          rw [Nat.pow_succ]; omega⟩
        have Hr1 := Aside0.mk hr1
        clear hsf hy hr1 Hr HV
        by_cases hc : x < 128
        · have hc1 : (x : Int) < 128 := by omega
          by_cases hm2 : y ≤ 2147483647
          · have hm3 : (y : Int) ≤ 2147483647 := by omega
            by_cases h0 : 0 < n ∧ x = 0
            · have hr2 := Hr1.out
              rw [if_pos (by omega), if_pos (.inr ⟨h0.1, by omega⟩)] at hr2
              have Hr2 := Aside0.mk hr2
              have hn1 : 1 < (n : Int) + 1 := by omega
              have hx0 : ((x : Int) == 0) = true := by rw [h0.2]; rfl
              clear h0 hr2
              go_wp2
              rw [Exit.noGoto_ret]
              go_ret3
              rw [← Hr2.out]
              exact ⟨rfl, rfl⟩
            · have hr2 := Hr1.out
              rw [if_pos (by omega), if_neg (by omega)] at hr2
              have Hr2 := Aside0.mk hr2
              clear hr2
              by_cases hn0 : n = 0
              · have hn1 : ¬ 1 < (n : Int) + 1 := by omega
                clear h0 hn0
                go_wp2
                try rw [Exit.noGoto_ret]
                go_ret3
                rw [← Hr2.out]
                exact ⟨rfl, rfl⟩
              · have hn1 : 1 < (n : Int) + 1 := by omega
                have hx0 : ((x : Int) == 0) = false := by rw [beq_eq_false_iff_ne]; omega
                clear h0
                go_wp2
                rw [Exit.noGoto_ret]
                go_ret3
                rw [← Hr2.out]
                exact ⟨rfl, rfl⟩
          · have hm3 : 2147483647 < (y : Int) := by omega
            have hr2 := Hr1.out
            rw [if_pos (by omega), if_pos (.inl (by omega))] at hr2
            have Hr2 := Aside0.mk hr2
            clear hr2
            go_wp2
            rw [Exit.noGoto_ret]
            go_ret3
            rw [← Hr2.out]
            exact ⟨rfl, rfl⟩
        · have hc1 : ¬ (x : Int) < 128 := by omega
          have hr2 := Hr1.out
          rw [if_neg (by omega)] at hr2
          have Hr2 : Aside0 (numR (l.drop (n + 1)) (n + 1) y (128 ^ (n + 1)) = r) := ⟨by rw [Nat.pow_succ]; exact hr2⟩
          clear hr2
          go_wp2
          go_roundg k
          case measure => omega
          case rel => exact ⟨n + 1, y, rfl, by go_num, by omega, by omega, HY, Hr2, rfl⟩
end Go.Proofs.YtdekmeanlcpenaaGreatDoor.Codec

namespace Go.Proofs.YtdekmeanlcpenaaGreatDoor.Codec
open Go.RowKit Go.Proofs.YtdekmeanlcpenaaGreatDoorW.PrintWords Go.Proofs.YtdekmeanlcpenaaGreatDoor.Mid Go.Proofs.YtdekmeanlcpenaaGreatDoor.Block
set_option maxHeartbeats 4000000
set_option maxRecDepth 100000
/-- A reader in memory. -/
structure Rd (W : World) (g : Nat) (D : Option Addr) (k : Nat) (s : RS) : Prop where
  blk : W.heap[g]? = some (.cells #[.int .i64 s.code, .int .i64 s.place, .slice D s.data.length k, .int .i64 s.at_] 265 (0, 0))
  dat : Kd.C (Kd.int .u8) W D s.data.length s.data
  cap : s.data.length ≤ k
  off : ∀ ad, D = some ad → ad.block ≠ g
  at_ : s.at_ ≤ s.data.length
  byt : Byt s.data
  len : s.data.length ≤ 1000000000000
section
variable {W W1 : World} {g k : Nat} {D : Option Addr} {s s1 : RS}
theorem Rd.below (h : Rd W g D k s) (hb : Below W.heap.size W W1) : Rd W1 g D k s := ⟨blk_below h.blk hb, Kd.C_below h.dat hb, h.cap, h.off, h.at_, h.byt, h.len⟩
theorem Rd.lt (h : Rd W g D k s) : g < W.heap.size := blk_lt h.blk
/-- The reader's variable is written. -/
theorem Rd.put (h : Rd W g D k s) (hd : s1.data = s.data) (ha : s1.at_ ≤ s.data.length) (hg : W.grownBy W1 (some g)) (hb : W1.heap[g]? = some (.cells #[.int .i64 s1.code, .int .i64 s1.place, .slice D s.data.length k, .int .i64 s1.at_] 265 (0, 0))) : Rd W1 g D k s1 := by
  have hc : Kd.C (Kd.int .u8) W1 D s.data.length s.data := Kd.C_foot_neS (S := fun k => k = g) (fun h => h) h.dat (fun ad he _ => h.off ad he) W1 ⟨hg.size, fun i hi hn => hg.block i hi (fun e => hn (by injection e))⟩
  exact ⟨by rw [hd]; exact hb, by rw [hd]; exact hc, by rw [hd]; exact h.cap, h.off, by rw [hd]; exact ha, by rw [hd]; exact h.byt, by rw [hd]; exact h.len⟩
end
/-- One alone may come up. -/
theorem heldOne {P : Program} {md : Region.Mode} {ops : Array Oper} {Q : Exit → Act → World → Prop} {S : World → Prop} {i : Nat} {o : Oper} {fuel : Nat} {listed : Array Bool} {a : Act} {w : World} (hr : Region.ready md ops listed = [i]) (hi : ops[i]? = some o) (hw : Region.wanted o (yielded ops a.tmps) = true)
    (h : o.wp P a w (fun a' w' => S w' ∧ wpAnyH P md ops Q S fuel (listed.setIfInBounds i true) a' w') Q) : wpAnyH P md ops Q S (fuel + 1) listed a w := by
  refine ⟨fun h0 => (by rw [hr] at h0; cases h0), fun j hj => ?_⟩
  rw [hr, List.mem_singleton] at hj
  subst hj
  unfold wpOp
  simp only [hi, hw, if_true]
  exact .inl h
theorem grown_set (w : World) (p : Addr) (v : Value) : w.grownBy (w.setCell p v) (some p.block) := ⟨rfl, rfl, rfl, by simp [World.setCell], fun k _ hk => Below.heap_setCell w p v k (fun e => hk (by rw [e]))⟩
theorem spoilt_is (g : Nat) (n : Nat) (w : World) (h : w.cell? ⟨g, 0, none⟩ = some (.int .i64 n)) : Calls Tryz.prog 100 #[.pointer (some ⟨g, 0, none⟩)] w fun e w' => e = .returned (.bool (!((n : Int) == 0))) ∧ w = w' := by
  go_enter Tryz.func100, Tryz.ntmps100
  go_wp2
  go_ret
  exact ⟨rfl, rfl⟩
theorem goes_yes {W : World} {g k : Nat} {D : Option Addr} {s : RS} (h : Rd W g D k s) (hc : s.code = 0) : Calls Tryz.prog 148 #[.pointer (some ⟨g, 0, none⟩)] W fun e w' => e = .returned (.bool true) ∧ W = w' := by
  have c0 : W.cell? ⟨g, 0, none⟩ = some (.int .i64 ((0 : Nat) : Int)) := by rw [blk_cell h.blk, hc]; rfl
  have C0 := Aside0.mk c0
  clear h hc c0
  go_enter Tryz.func148, Tryz.ntmps148
  go_wp2_with (go_at_call 100; refine (spoilt_is g 0 _ C0.out).mono ?_; rintro e w1 ⟨rfl, rfl⟩)
  go_ret
  exact ⟨rfl, rfl⟩
theorem goes_no {W : World} {g k : Nat} {D : Option Addr} {s : RS} (h : Rd W g D k s) (hc : s.code ≠ 0) : Calls Tryz.prog 148 #[.pointer (some ⟨g, 0, none⟩)] W fun e w' => e = .returned (.bool false) ∧ W = w' := by
  have c0 : W.cell? ⟨g, 0, none⟩ = some (.int .i64 (s.code : Int)) := by rw [blk_cell h.blk]; rfl
  have C0 := Aside0.mk c0
  have hb : (!((s.code : Int) == 0)) = true := by simp; omega
  have HB := Aside0.mk hb
  clear h hc c0 hb
  go_enter Tryz.func148, Tryz.ntmps148
  go_wp2_with (go_at_call 100; refine (spoilt_is g s.code _ C0.out).mono ?_; rw [HB.out]; rintro e w1 ⟨rfl, rfl⟩)
  go_ret
  exact ⟨rfl, rfl⟩
theorem spoil_any (g : Nat) (e at_ : Nat) (c1 d a : Value) (w : World) (h : w.heap[g]? = some (.cells #[.int .i64 0, c1, d, a] 265 (0, 0))) :
    Calls Tryz.prog 142 #[.pointer (some ⟨g, 0, none⟩), .int .i64 e, .int .i64 at_] w fun r w' => r = .returned (.tuple #[]) ∧ w'.heap[g]? = some (.cells #[.int .i64 e, .int .i64 at_, d, a] 265 (0, 0)) ∧ w.grownBy w' (some g) := by
  have c0 : w.cell? ⟨g, 0, none⟩ = some (.int .i64 0) := (blk_cell h _).trans rfl
  have c1' : w.cell? ⟨g, 1, none⟩ = some c1 := (blk_cell h _).trans rfl
  have f0 : w.frozen? ⟨g, 0, none⟩ = false := blk_frozen h _
  have f1 : w.frozen? ⟨g, 1, none⟩ = false := blk_frozen h _
  have H := Aside0.mk h
  clear h
  go_enter Tryz.func142, Tryz.ntmps142
  go_wp2
  go_end0
  refine ⟨rfl, ?_, World.grownBy.trans (grown_set w ⟨g, 0, none⟩ _) (grown_set _ ⟨g, 1, none⟩ _)⟩
  exact blk_set (blk_set H.out 0 (.int .i64 e)) 1 (.int .i64 at_)
end Go.Proofs.YtdekmeanlcpenaaGreatDoor.Codec

namespace Go.Proofs.YtdekmeanlcpenaaGreatDoor.Codec
open Go.RowKit Go.Proofs.YtdekmeanlcpenaaGreatDoorW.PrintWords Go.Proofs.YtdekmeanlcpenaaGreatDoor.Mid Go.Proofs.YtdekmeanlcpenaaGreatDoor.Block
set_option maxHeartbeats 4000000
set_option maxRecDepth 100000
theorem info5s : ∃ i, Tryz.prog.info? 5 = some i ∧ i.size = 1 := by
  obtain ⟨i0, hi, hzz⟩ := Option.map_eq_some_iff.1 info5
  simp only [Prod.mk.injEq] at hzz
  exact ⟨i0, hi, hzz.2.1⟩
/-- What take answers: bytes that lie in the reader's own row. -/
def RetTake (W : World) (g : Nat) (D : Option Addr) (k : Nat) (xs : List Int) (s1 : RS) (e : Ending) (w' : World) : Prop :=
  ∃ A c, e = .returned (.slice A xs.length c) ∧ xs.length ≤ c ∧ Kd.C (Kd.int .u8) w' A xs.length xs ∧ Rd w' g D k s1 ∧ W.grownBy w' (some g)
theorem take_short (W : World) (g k : Nat) (D : Option Addr) (s : RS) (n : Nat) (h : Rd W g D k s) (h0 : s.code = 0) (hn : s.data.length - s.at_ < n) :
    Calls Tryz.prog 149 #[.pointer (some ⟨g, 0, none⟩), .int .i64 n] W (RetTake W g D k [] (s.bad 10)) := by
  obtain ⟨dt, a, cd, pl⟩ := s
  simp only at h0 hn
  subst h0
  have hal := h.at_
  have hll := h.len
  simp only at hal hll
  have c1 : W.cell? ⟨g, 1, none⟩ = some (.int .i64 pl) := (blk_cell h.blk _).trans rfl
  have c2 : W.cell? ⟨g, 2, none⟩ = some (.slice D dt.length k) := (blk_cell h.blk _).trans rfl
  have c3 : W.cell? ⟨g, 3, none⟩ = some (.int .i64 a) := (blk_cell h.blk _).trans rfl
  have g2 : ∀ x : CW (Since W), x.w.cell? ⟨g, 2, none⟩ = some (.slice D dt.length k) := fun x => pw_cell_below x.h c2
  have g3 : ∀ x : CW (Since W), x.w.cell? ⟨g, 3, none⟩ = some (.int .i64 a) := fun x => pw_cell_below x.h c3
  have hsub : IntKind.i64.wrap ((dt.length : Int) - (a : Int)) = (dt.length : Int) - (a : Int) := IntWalk.i64_in _ (by omega)
  have hlt : (dt.length : Int) - (a : Int) < (n : Int) := by omega
  have H := Aside0.mk h
  clear h c1
  go_enter Tryz.func149, Tryz.ntmps149
  go_upto_region 1 with (fail)
  refine wp_region_S (Since W) (by kernel_rfl) (by kernel_rfl) (since_drew W) ?_
  repeat (go_big_quiet_step (fail))
  refine wpQuiet_nil ?_
  rintro w5 ⟨x5, e5⟩
  have hb5' : Below W.heap.size W w5 := e5 ▸ x5.h
  clear e5 x5
  have d3 : w5.cell? ⟨g, 3, none⟩ = some (.int .i64 a) := pw_cell_below hb5' c3
  have H5 := Aside0.mk (H.out.below hb5')
  have HB5 := Aside0.mk hb5'
  clear g2 g3 c2 c3 hb5' H
  have HS : Aside0 (w5.drew.cell? ⟨g, 3, none⟩ = some (.int .i64 a)) := ⟨d3⟩
  go_upto_region 2 with (fail)
  refine wp_region_held (S := fun u => u.cell? ⟨g, 3, none⟩ = some (.int .i64 a)) (by kernel_rfl) ?_
  change wpAnyH _ _ _ _ _ _ _ _ w5.drew
  refine wpAnyH_take (i := 0) (v := ?_) rfl (by kernel_rfl) (by kernel_rfl) (by kernel_rfl) (fun _ _ _ h => h) (Or.inl ⟨by rfl, ?_⟩) HS.out ?_
  rotate_left
  · (intro wG hSw; have q3 : wG.cell? ⟨g, 3, none⟩ = some (.int .i64 a) := hSw; go_simp; try with_reducible rfl)
  try simp only [Act.put, List.setIfInBounds_toArray, List.set]
  refine wpAnyH_take (i := 1) (v := ?_) rfl (by kernel_rfl) (by kernel_rfl) (by kernel_rfl) (fun _ _ _ h => h) (Or.inl ⟨by rfl, ?_⟩) HS.out ?_
  rotate_left
  · (intro wG hSw; have q3 : wG.cell? ⟨g, 3, none⟩ = some (.int .i64 a) := hSw; go_simp; try with_reducible rfl)
  try simp only [Act.put, List.setIfInBounds_toArray, List.set]
  refine wpAnyH_take (i := 2) (v := ?_) rfl (by kernel_rfl) (by kernel_rfl) (by kernel_rfl) (fun _ _ _ h => h) (Or.inl ⟨by rfl, ?_⟩) HS.out ?_
  rotate_left
  · (intro wG hSw; have q3 : wG.cell? ⟨g, 3, none⟩ = some (.int .i64 a) := hSw; go_simp; try with_reducible rfl)
  try simp only [Act.put, List.setIfInBounds_toArray, List.set]
  refine wpAnyH_take (i := 3) (v := ?_) rfl (by kernel_rfl) (by kernel_rfl) (by kernel_rfl) (fun _ _ _ h => h) (Or.inl ⟨by rfl, ?_⟩) HS.out ?_
  rotate_left
  · (intro wG hSw; have q3 : wG.cell? ⟨g, 3, none⟩ = some (.int .i64 a) := hSw; go_simp; try with_reducible rfl)
  try simp only [Act.put, List.setIfInBounds_toArray, List.set]
  refine wpAnyH_take (i := 4) (v := ?_) rfl (by kernel_rfl) (by kernel_rfl) (by kernel_rfl) (fun _ _ _ h => h) (Or.inl ⟨by rfl, ?_⟩) HS.out ?_
  rotate_left
  · (intro wG hSw; have q3 : wG.cell? ⟨g, 3, none⟩ = some (.int .i64 a) := hSw; go_simp; try with_reducible rfl)
  try simp only [Act.put, List.setIfInBounds_toArray, List.set]
  refine wpAnyH_take (i := 5) (v := ?_) rfl (by kernel_rfl) (by kernel_rfl) (by kernel_rfl) (fun _ _ _ h => h) (Or.inl ⟨by rfl, ?_⟩) HS.out ?_
  rotate_left
  · (intro wG hSw; have q3 : wG.cell? ⟨g, 3, none⟩ = some (.int .i64 a) := hSw; go_simp; try with_reducible rfl)
  try simp only [Act.put, List.setIfInBounds_toArray, List.set]
  refine wpAnyH_take (i := 6) (v := ?_) rfl (by kernel_rfl) (by kernel_rfl) (by kernel_rfl) (fun _ _ _ h => h) (Or.inl ⟨by rfl, ?_⟩) HS.out ?_
  rotate_left
  · (intro wG hSw; have q3 : wG.cell? ⟨g, 3, none⟩ = some (.int .i64 a) := hSw; go_simp; try with_reducible rfl)
  try simp only [Act.put, List.setIfInBounds_toArray, List.set]
  refine heldOne (i := 7) (by kernel_rfl) rfl (by rfl) ?_
  go_simp
  go_at_call 142
  refine (spoil_any g 10 a (.int .i64 pl) (.slice D dt.length k) (.int .i64 a) _ (blk_drew H5.out.blk)).mono ?_
  rintro e w6 ⟨rfl, hb6, hg6⟩
  refine ⟨(blk_cell hb6 _).trans rfl, ?_⟩
  have HG6 : Aside0 (W.grownBy w6 (some g)) := ⟨(Mid.grown_of_below (below_drew HB5.out)).trans hg6⟩
  have H6 : Aside0 (Rd w6 g D k (RS.bad ⟨dt, a, 0, pl⟩ 10)) := ⟨(H5.out.below (below_drew (Below.refl _ _))).put rfl H5.out.at_ hg6 hb6⟩
  clear hb6 hg6 d3
  try simp only [Act.put, List.setIfInBounds_toArray, List.set]
  refine wpAnyH_done (by kernel_rfl) ?_ _
  go_wp2
  go_ret
  exact ⟨none, 0, rfl, Nat.le_refl _, Kd.C_nil _ _, H6.out, HG6.out⟩
theorem take_ok (W : World) (g k : Nat) (D : Option Addr) (s : RS) (n : Nat) (h : Rd W g D k s) (h0 : s.code = 0) (hn : ¬ s.data.length - s.at_ < n) :
    Calls Tryz.prog 149 #[.pointer (some ⟨g, 0, none⟩), .int .i64 n] W (RetTake W g D k (s.rest.take n) (s.on n)) := by
  obtain ⟨dt, a, cd, pl⟩ := s
  simp only at h0 hn
  subst h0
  have hal := h.at_
  have hll := h.len
  have hcp := h.cap
  simp only at hal hll hcp
  have c1 : W.cell? ⟨g, 1, none⟩ = some (.int .i64 pl) := (blk_cell h.blk _).trans rfl
  have c2 : W.cell? ⟨g, 2, none⟩ = some (.slice D dt.length k) := (blk_cell h.blk _).trans rfl
  have c3 : W.cell? ⟨g, 3, none⟩ = some (.int .i64 a) := (blk_cell h.blk _).trans rfl
  have g2 : ∀ x : CW (Since W), x.w.cell? ⟨g, 2, none⟩ = some (.slice D dt.length k) := fun x => pw_cell_below x.h c2
  have g3 : ∀ x : CW (Since W), x.w.cell? ⟨g, 3, none⟩ = some (.int .i64 a) := fun x => pw_cell_below x.h c3
  have hsub : IntKind.i64.wrap ((dt.length : Int) - (a : Int)) = (dt.length : Int) - (a : Int) := IntWalk.i64_in _ (by omega)
  have hlt : ¬ (dt.length : Int) - (a : Int) < (n : Int) := by omega
  have hlt2 : (n : Int) ≤ (dt.length : Int) - (a : Int) := by omega
  have H := Aside0.mk h
  clear h c1
  go_enter Tryz.func149, Tryz.ntmps149
  go_upto_region 1 with (fail)
  refine wp_region_S (Since W) (by kernel_rfl) (by kernel_rfl) (since_drew W) ?_
  repeat (go_big_quiet_step (fail))
  refine wpQuiet_nil ?_
  rintro w5 ⟨x5, e5⟩
  have hb5' : Below W.heap.size W w5 := e5 ▸ x5.h
  clear e5 x5
  have d3 : w5.cell? ⟨g, 3, none⟩ = some (.int .i64 a) := pw_cell_below hb5' c3
  have H5 := Aside0.mk (H.out.below hb5')
  have f3 : w5.frozen? ⟨g, 3, none⟩ = false := blk_frozen H5.out.blk _
  have HB5 := Aside0.mk hb5'
  have hadd : (a : Int) + (n : Int) ≤ 1000000000000 := by omega
  clear g2 g3 c2 c3 hb5' H hsub
  go_upto_region 5 with (fail)
  have hb6 : (w5.setCell ⟨g, 3, none⟩ (.int .i64 ((a : Int) + (n : Int)))).heap[g]? = some (.cells #[.int .i64 ((0 : Nat) : Int), .int .i64 pl, .slice D dt.length k, .int .i64 ((a + n : Nat) : Int)] 265 (0, 0)) := blk_set H5.out.blk 3 _
  have HG6 : Aside0 (W.grownBy (w5.setCell ⟨g, 3, none⟩ (.int .i64 ((a : Int) + (n : Int)))) (some g)) := ⟨(Mid.grown_of_below HB5.out).trans (grown_set w5 ⟨g, 3, none⟩ _)⟩
  have H6 : Aside0 (Rd (w5.setCell ⟨g, 3, none⟩ (.int .i64 ((a : Int) + (n : Int)))) g D k (RS.on ⟨dt, a, 0, pl⟩ n)) := ⟨H5.out.put rfl (by show a + n ≤ dt.length; omega) (grown_set w5 ⟨g, 3, none⟩ _) hb6⟩
  generalize w5.setCell ⟨g, 3, none⟩ (.int .i64 ((a : Int) + (n : Int))) = w6 at HG6 H6 hb6 ⊢
  have e2 : w6.cell? ⟨g, 2, none⟩ = some (.slice D dt.length k) := (blk_cell hb6 _).trans rfl
  have e3 : w6.cell? ⟨g, 3, none⟩ = some (.int .i64 ((a : Int) + (n : Int))) := (blk_cell hb6 _).trans rfl
  have g2 : ∀ x : CW (Since w6), x.w.cell? ⟨g, 2, none⟩ = some (.slice D dt.length k) := fun x => pw_cell_below x.h e2
  have g3 : ∀ x : CW (Since w6), x.w.cell? ⟨g, 3, none⟩ = some (.int .i64 ((a : Int) + (n : Int))) := fun x => pw_cell_below x.h e3
  obtain ⟨i5, hi5, hs5⟩ := info5s
  have hcut := cut_mid (P := Tryz.prog) 47 5 .i64 .i64 Tryz.underlying47 hi5 1 hs5 D dt.length k (a : Int) ((a : Int) + (n : Int)) (by omega) (by omega) (by omega) hcp
  obtain ⟨A', hA'⟩ : ∃ A' : Option Addr, (if k = a then D else D.map (·.add (a * 1))) = A' := ⟨_, rfl⟩
  have hsb3 : ((a : Int) + (n : Int)).toNat - a = n := by omega
  simp only [Int.toNat_natCast] at hcut
  rw [hA', hsb3] at hcut
  have HA' := Aside0.mk hA'
  clear hA'
  have hsb : IntKind.i64.wrap ((a : Int) + (n : Int) - (n : Int)) = (a : Int) := by rw [show (a : Int) + (n : Int) - (n : Int) = (a : Int) by omega]; exact IntWalk.i64_in _ (by omega)
  have hsb2 : (a : Int) + (n : Int) - (n : Int) = (a : Int) := by omega
  clear hb6 e2 e3 d3 f3 hi5 hs5 hlt hlt2
  refine wp_region_S (Since w6) (by kernel_rfl) (by kernel_rfl) (since_drew w6) ?_
  repeat (go_big_quiet_step (fail))
  refine wpQuiet_nil ?_
  rintro w7 ⟨x7, e7⟩
  have hb7 : Below w6.heap.size w6 w7 := e7 ▸ x7.h
  clear e7 x7
  have H7 := Aside0.mk (⟨H6.out.below hb7, World.grownBy.trans HG6.out (Mid.grown_of_below hb7)⟩ : _ ∧ _)
  clear g2 g3 hb7 hcut hsb hsb2
  go_wp2
  go_ret
  have hrl : ((RS.rest ⟨dt, a, 0, pl⟩).take n).length = n := by rw [RS.rest, List.length_take, List.length_drop]; simp only; omega
  have hdl : (RS.rest ⟨dt, a, 0, pl⟩).take n = (dt.take (a + n)).drop a := by rw [RS.rest, List.drop_take]; congr 1; omega
  refine ⟨A', k - a, ?_, ?_, ?_, H7.out⟩
  · rw [hrl]; rfl
  · rw [hrl]; omega
  · rw [hdl, ← HA'.out]
    exact Kd.C_mid (k := Kd.int .u8) H7.out.1.dat (by omega) (by omega) hcp
end Go.Proofs.YtdekmeanlcpenaaGreatDoor.Codec

namespace Go.Proofs.YtdekmeanlcpenaaGreatDoor.Codec
open Go.RowKit Go.Proofs.YtdekmeanlcpenaaGreatDoorW.PrintWords Go.Proofs.YtdekmeanlcpenaaGreatDoor.Mid Go.Proofs.YtdekmeanlcpenaaGreatDoor.Block
set_option maxHeartbeats 4000000
set_option maxRecDepth 100000
theorem take_any (W : World) (g k : Nat) (D : Option Addr) (s : RS) (n : Nat) (h : Rd W g D k s) (h0 : s.code = 0) :
    Calls Tryz.prog 149 #[.pointer (some ⟨g, 0, none⟩), .int .i64 n] W (RetTake W g D k (s.raw n).1 (s.raw n).2) := by
  by_cases hn : s.data.length - s.at_ < n
  · have e : s.raw n = ([], s.bad 10) := by rw [RS.raw, if_neg (by simp [h0]), if_pos hn]
    rw [e]
    exact take_short W g k D s n h h0 hn
  · have e : s.raw n = (s.rest.take n, s.on n) := by rw [RS.raw, if_neg (by simp [h0]), if_neg hn]
    rw [e]
    exact take_ok W g k D s n h h0 hn
theorem raw_byt {s : RS} (h : Byt s.data) (n : Nat) : Byt (s.raw n).1 ∧ (s.raw n).1.length ≤ n := by
  rw [RS.raw]
  split
  · exact ⟨byt_nil, by simp⟩
  · split
    · exact ⟨byt_nil, by simp⟩
    · exact ⟨byt_take (byt_drop h _) _, by rw [List.length_take]; omega⟩
theorem raw_spoilt {s : RS} (h : s.code ≠ 0) (n : Nat) : s.raw n = ([], s) := by rw [RS.raw, if_pos h]
/-- Raw: the bytes, in new memory. -/
def RetRaw (W : World) (g : Nat) (D : Option Addr) (k : Nat) (xs : List Int) (s1 : RS) (e : Ending) (w' : World) : Prop :=
  ∃ A c, e = .returned (.slice A xs.length c) ∧ Kd.R (Kd.int .u8) 5 w' W.heap.size (fun _ => True) (.slice A xs.length c) xs ∧ Rd w' g D k s1 ∧ W.grownBy w' (some g)
theorem rraw_any (W : World) (g k : Nat) (D : Option Addr) (s : RS) (n : Nat) (h : Rd W g D k s) (hn : n ≤ 1000000000) :
    Calls Tryz.prog 113 #[.pointer (some ⟨g, 0, none⟩), .int .i64 n] W (RetRaw W g D k (s.raw n).1 (s.raw n).2) := by
  by_cases h0 : s.code = 0
  · obtain ⟨r, hr⟩ : ∃ r, s.raw n = r := ⟨_, rfl⟩
    have hrl := (raw_byt (s := s) h.byt n).2
    have hT := take_any W g k D s n h h0
    rw [hr] at hT hrl ⊢
    have HT := Aside0.mk hT
    have H := Aside0.mk h
    have H0 := Aside0.mk h0
    have hn0 : ¬ (n : Int) < 0 := by omega
    clear hT h hr h0
    go_enter Tryz.func113, Tryz.ntmps113
    go_wp2_with (first
      | (go_at_call 148; refine (goes_yes H.out H0.out).mono ?_; rintro e w1 ⟨rfl, rfl⟩)
      | (go_at_call 149; refine HT.out.mono ?_; rintro e w2 ⟨A, c, rfl, hc, hC, hR, hG⟩; have H2 := Aside0.mk (⟨hC, hR, hG⟩ : _ ∧ _ ∧ _); clear hC hR hG hc)
      | (at_builtin; refine Kd.R_append_rows (Kd.int .u8) (w0 := w2) w2.heap.size rfl (.const (.slice none 0 0)) (.tmp 20) 47 5 (.int .u8 0) 1 rfl Tryz.underlying47 info5 rfl (by decide) (by omega) (.slice none 0 0) [] r.1 A r.1.length c (fun _ => True) (fun _ => False) rfl rfl (Kd.R_nil _ _ _ _ _) H2.out.1 (fun _ _ h => h) (fun _ hk => hk.elim) (fun _ _ => trivial) (Below.refl _ _) (Nat.le_refl _) (by simp; omega) ?_
         intro v8 w8 ho8 hb8 hg8 hat8
         rw [List.nil_append] at ho8
         obtain ⟨A8, k8, e8⟩ := Kd.R_slice ho8
         subst e8
         have H8 := Aside0.mk (⟨ho8, hb8⟩ : _ ∧ _)
         clear ho8 hb8 hg8 hat8)
      | fail)
    go_ret
    exact ⟨A8, k8, rfl, Kd.R_lower H8.out.1 H2.out.2.2.size, H2.out.2.1.below H8.out.2, World.grownBy.trans H2.out.2.2 (Mid.grown_of_below H8.out.2)⟩
  · rw [raw_spoilt h0]
    have H := Aside0.mk h
    have H0 := Aside0.mk h0
    clear h h0
    go_enter Tryz.func113, Tryz.ntmps113
    go_wp2_with (first
      | (go_at_call 148; refine (goes_no H.out H0.out).mono ?_; rintro e w1 ⟨rfl, rfl⟩)
      | fail)
    go_ret
    exact ⟨none, 0, rfl, Kd.R_nil _ _ _ _ _, H.out, World.grownBy.refl W _⟩
theorem foldB_take (xs : List Int) (i : Nat) (h : i < xs.length) : foldB (xs.take (i + 1)) = 256 * foldB (xs.take i) + xs.getD i 0 := by
  rw [List.take_add_one, List.getElem?_eq_getElem h, Option.toList_some, foldB_snoc, List.getD_eq_getElem?_getD, List.getElem?_eq_getElem h]; rfl
theorem i64_or8 (v : Int) (b : Int) (h0 : 0 ≤ v) (h1 : v < 16777216) (h2 : 0 ≤ b) (h3 : b ≤ 255) : bits .or .i64 (v * 256) b = v * 256 + b :=
  bits_join .i64 32 (by decide) (fun n a b => IntWalk.i64_in n (by omega)) 8 (v * 256) b (by omega) (by omega) (by omega) (by omega) (by omega) (by omega)
/-- Fixed: a number, and the reader further on. -/
def RetNum (W : World) (g : Nat) (D : Option Addr) (k : Nat) (n : Int) (s1 : RS) (e : Ending) (w' : World) : Prop :=
  e = .returned (.int .i64 n) ∧ Rd w' g D k s1 ∧ W.grownBy w' (some g)
theorem rfixed_any (W : World) (g k : Nat) (D : Option Addr) (s : RS) (n : Nat) (h : Rd W g D k s) (hn1 : 1 ≤ n) (hn : n ≤ 4) :
    Calls Tryz.prog 109 #[.pointer (some ⟨g, 0, none⟩), .int .i64 n] W (RetNum W g D k (s.fixed n).1 (s.fixed n).2) := by
  rw [RS.fixed]
  by_cases h0 : s.code = 0
  · obtain ⟨r, hr⟩ : ∃ r, s.raw n = r := ⟨_, rfl⟩
    have hrl := (raw_byt (s := s) h.byt n).2
    have hrb := (raw_byt (s := s) h.byt n).1
    have hT := take_any W g k D s n h h0
    rw [hr] at hT hrl hrb ⊢
    have HT := Aside0.mk hT
    have H := Aside0.mk h
    have H0 := Aside0.mk h0
    have HB := Aside0.mk hrb
    have hna : ¬ (n : Int) < 1 := by omega
    have hnb : ¬ (4 : Int) < (n : Int) := by omega
    clear hT h hr h0 hrb
    go_enter Tryz.func109, Tryz.ntmps109
    go_wp2_with (first
      | (go_at_call 148; refine (goes_yes H.out H0.out).mono ?_; rintro e w1 ⟨rfl, rfl⟩)
      | (go_at_call 149; refine HT.out.mono ?_; rintro e w2 ⟨A, c, rfl, hc, hC, hR, hG⟩; have H2 := Aside0.mk (⟨hC, hR, hG⟩ : _ ∧ _ ∧ _); clear hC hR hG hc)
      | fail)
    go_loopg [5, 29] r.1.length (fun k v5 v29 w' => ∃ (i : Nat) (v : Nat), v29 = .int .i64 i ∧ v5 = .int .i64 v ∧ i + k = r.1.length ∧ Aside0 ((v : Int) = foldB (r.1.take i)) ∧ w2 = w')
    case atStart => exact ⟨0, 0, rfl, rfl, by omega, ⟨rfl⟩, rfl⟩
    case round =>
      obtain ⟨i, v, rfl, rfl, hik, HV, rfl⟩ := hrel
      cases gk with
      | zero =>
        have hd : decide (i < r.1.length) = false := by simp; omega
        have Hi : Aside0 (r.1.length ≤ i) := ⟨by omega⟩
        have hv := HV.out
        rw [List.take_of_length_le Hi.out] at hv
        have Hv := Aside0.mk hv
        clear hik hv
        go_wp2
        go_ret
        refine ⟨?_, H2.out.2⟩
        rw [← Hv.out]
        rfl
      | succ q =>
        have hi : i < r.1.length := by omega
        have hi1 : (i : Int) < (r.1.length : Int) := by omega
        obtain ⟨ad, e0, hx⟩ := Kd.at_int H2.out.1 (i : Int) (by omega) (by omega)
        subst e0
        have hxb := rd_byte HB.out (i : Int)
        obtain ⟨x, hxn⟩ : ∃ x : Nat, rd r.1 (i : Int) = (x : Int) := ⟨(rd r.1 (i : Int)).toNat, by omega⟩
        rw [hxn] at hx hxb
        simp only [Int.toNat_natCast] at hx
        have hvb := foldB_bound (byt_take HB.out i)
        have hvl : v < 16777216 := by
          have h1 := HV.out
          have h2 : (List.take i r.1).length ≤ 3 := by rw [List.length_take]; omega
          have h3 : (256 : Int) ^ (List.take i r.1).length ≤ 256 ^ 3 := by
            have : (256 : Nat) ^ (List.take i r.1).length ≤ 256 ^ 3 := Nat.pow_le_pow_right (by omega) h2
            exact_mod_cast this
          omega
        have hor := i64_or8 (v : Int) (x : Int) (by omega) (by omega) hxb.1 hxb.2
        obtain ⟨y, hy⟩ : ∃ y : Nat, v * 256 + x = y := ⟨_, rfl⟩
        have hor2 : bits .or .i64 ((v : Int) * 256) (x : Int) = (y : Int) := by rw [hor, ← hy]; omega
        have HY : Aside0 ((y : Int) = foldB (r.1.take (i + 1))) := ⟨by rw [foldB_take r.1 i hi, ← HV.out, ← rd_nat, hxn, ← hy]; omega⟩
        have hv0 : (v : Int) ≤ 16777215 := by omega
        clear hor hvb hvl hy hxn HV
        go_wp2
        go_roundg q
        case measure => omega
        case rel => exact ⟨i + 1, y, by go_num, rfl, by omega, HY, rfl⟩
  · rw [raw_spoilt h0]
    have H := Aside0.mk h
    have H0 := Aside0.mk h0
    clear h h0
    go_enter Tryz.func109, Tryz.ntmps109
    go_wp2_with (first
      | (go_at_call 148; refine (goes_no H.out H0.out).mono ?_; rintro e w1 ⟨rfl, rfl⟩)
      | fail)
    go_ret
    exact ⟨rfl, H.out, World.grownBy.refl W _⟩
end Go.Proofs.YtdekmeanlcpenaaGreatDoor.Codec

namespace Go.Proofs.YtdekmeanlcpenaaGreatDoor.Codec
open Go.RowKit Go.Proofs.YtdekmeanlcpenaaGreatDoorW.PrintWords Go.Proofs.YtdekmeanlcpenaaGreatDoor.Mid Go.Proofs.YtdekmeanlcpenaaGreatDoor.Block
set_option maxHeartbeats 4000000
set_option maxRecDepth 100000
theorem err_any (W : World) (g k : Nat) (D : Option Addr) (s : RS) (h : Rd W g D k s) :
    Calls Tryz.prog 114 #[.pointer (some ⟨g, 0, none⟩)] W fun e w' => e = .returned (.tuple #[.int .i64 s.code, .int .i64 s.place]) ∧ Below W.heap.size W w' := by
  have c0 : W.cell? ⟨g, 0, none⟩ = some (.int .i64 s.code) := (blk_cell h.blk _).trans rfl
  have c1 : W.cell? ⟨g, 1, none⟩ = some (.int .i64 s.place) := (blk_cell h.blk _).trans rfl
  have g0 : ∀ x : CW (Since W), x.w.cell? ⟨g, 0, none⟩ = some (.int .i64 s.code) := fun x => pw_cell_below x.h c0
  have g1 : ∀ x : CW (Since W), x.w.cell? ⟨g, 1, none⟩ = some (.int .i64 s.place) := fun x => pw_cell_below x.h c1
  clear h c0 c1
  go_enter Tryz.func114, Tryz.ntmps114
  go_upto_region 3 with (fail)
  refine wp_region_S (Since W) (by kernel_rfl) (by kernel_rfl) (since_drew W) ?_
  repeat (go_big_quiet_step (fail))
  refine wpQuiet_nil ?_
  rintro w5 ⟨x5, e5⟩
  have hb5' : Below W.heap.size W w5 := e5 ▸ x5.h
  clear e5 x5 g0 g1
  go_wp2
  go_ret2
  exact ⟨rfl, hb5'⟩
theorem left_any (W : World) (g k : Nat) (D : Option Addr) (s : RS) (h : Rd W g D k s) :
    Calls Tryz.prog 115 #[.pointer (some ⟨g, 0, none⟩)] W fun e w' => e = .returned (.int .i64 (s.left : Nat)) ∧ Below W.heap.size W w' := by
  by_cases h0 : s.code = 0
  · have hl : s.left = s.data.length - s.at_ := by rw [RS.left, if_neg (by simp [h0])]
    have hal := h.at_
    have hll := h.len
    obtain ⟨q, hq⟩ : ∃ q, s.data.length - s.at_ = q := ⟨_, rfl⟩
    have c2 : W.cell? ⟨g, 2, none⟩ = some (.slice D s.data.length k) := (blk_cell h.blk _).trans rfl
    have c3 : W.cell? ⟨g, 3, none⟩ = some (.int .i64 s.at_) := (blk_cell h.blk _).trans rfl
    have g2 : ∀ x : CW (Since W), x.w.cell? ⟨g, 2, none⟩ = some (.slice D s.data.length k) := fun x => pw_cell_below x.h c2
    have g3 : ∀ x : CW (Since W), x.w.cell? ⟨g, 3, none⟩ = some (.int .i64 s.at_) := fun x => pw_cell_below x.h c3
    have hal1 : (s.at_ : Int) ≤ (s.data.length : Int) := by omega
    have hll1 : (s.data.length : Int) ≤ 1000000000000 := by omega
    have HQ : Aside0 ((s.data.length : Int) - (s.at_ : Int) = (s.left : Nat)) := ⟨by rw [hl]; omega⟩
    have H := Aside0.mk h
    have H0 := Aside0.mk h0
    clear h h0 c2 c3 hl hq
    go_enter Tryz.func115, Tryz.ntmps115
    go_upto_region 3 with (go_at_call 148; refine (goes_yes H.out H0.out).mono ?_; rintro e w1 ⟨rfl, rfl⟩)
    refine wp_region_S (Since W) (by kernel_rfl) (by kernel_rfl) (since_drew W) ?_
    repeat (go_big_quiet_step (fail))
    refine wpQuiet_nil ?_
    rintro w5 ⟨x5, e5⟩
    have hb5' : Below W.heap.size W w5 := e5 ▸ x5.h
    clear e5 x5 g2 g3
    go_wp2
    go_ret
    rw [← HQ.out]
    exact ⟨rfl, hb5'⟩
  · rw [show s.left = 0 by rw [RS.left, if_pos h0]]
    have H := Aside0.mk h
    have H0 := Aside0.mk h0
    clear h h0
    go_enter Tryz.func115, Tryz.ntmps115
    go_wp2_with (first
      | (go_at_call 148; refine (goes_no H.out H0.out).mono ?_; rintro e w1 ⟨rfl, rfl⟩)
      | fail)
    go_ret
    exact ⟨rfl, Below.refl _ _⟩
/-- code.Read: a reader at the beginning of bytes, all its memory new. -/
theorem read_any (W : World) (A : Option Addr) (c : Nat) (l : List Int) (hC : Kd.C (Kd.int .u8) W A l.length l) (hb : Byt l) (hl : l.length ≤ 1000000000000) :
    Calls Tryz.prog 108 #[.slice A l.length c] W fun e w' => ∃ g D k, e = .returned (.pointer (some ⟨g, 0, none⟩)) ∧ W.heap.size ≤ g ∧ Rd w' g D k (RS.start l) ∧ Below W.heap.size W w' ∧ (∀ ad, D = some ad → W.heap.size ≤ ad.block) := by
  have HC := Aside0.mk hC
  have HB := Aside0.mk hb
  have hbld : ∀ (u : World) (A8 : Option Addr) (n k8 : Nat), (Instr.build 265 #[(1, .slice A8 n k8)]).run Tryz.prog u = .ok (.agg #[.int .i64 0, .int .i64 0, .slice A8 n k8, .int .i64 0]) u := fun u A8 n k8 => by kernel_rfl
  clear hC hb
  go_enter Tryz.func108, Tryz.ntmps108
  go_wp2_with (first
    | (at_builtin; refine Kd.R_append_rows (Kd.int .u8) (w0 := W) W.heap.size rfl (.const (.slice none 0 0)) (.tmp 3) 47 5 (.int .u8 0) 1 rfl Tryz.underlying47 info5 rfl (by decide) (by omega) (.slice none 0 0) [] l A l.length c (fun _ => True) (fun _ => False) rfl rfl (Kd.R_nil _ _ _ _ _) HC.out (fun _ _ h => h) (fun _ hk => hk.elim) (fun _ _ => trivial) (Below.refl _ _) (Nat.le_refl _) (by simp; omega) ?_
       intro v8 w8 ho8 hb8 hg8 hat8
       rw [List.nil_append] at ho8
       obtain ⟨A8, k8, e8⟩ := Kd.R_slice ho8
       subst e8
       have H8 := Aside0.mk (⟨ho8, hb8⟩ : _ ∧ _)
       clear ho8 hb8 hg8 hat8)
    | fail)
  go_ret
  refine ⟨w8.heap.size, A8, k8, rfl, H8.out.2.size, ⟨heap_alloc_new w8 _, (Kd.R_reads' (Kd.R_alloc H8.out.1 _)).2.2, (Kd.R_reads' H8.out.1).2.1, ?_, Nat.zero_le _, HB.out, hl⟩, below_alloc H8.out.2 _, fun ad he => Kd.R_base H8.out.1 ad.block (by rw [he]; rfl)⟩
  intro ad he
  have := Kd.R_lt H8.out.1 ad.block (by rw [he]; rfl)
  omega
end Go.Proofs.YtdekmeanlcpenaaGreatDoor.Codec

namespace Go.Proofs.YtdekmeanlcpenaaGreatDoor.Codec
open Go.RowKit Go.Proofs.YtdekmeanlcpenaaGreatDoorW.PrintWords Go.Proofs.YtdekmeanlcpenaaGreatDoor.Mid Go.Proofs.YtdekmeanlcpenaaGreatDoor.Block
set_option maxHeartbeats 4000000
set_option maxRecDepth 100000
theorem C_cells {w : World} {A : Option Addr} {xs : List Int} (h : Kd.C (Kd.int .u8) w A xs.length xs) (h0 : 0 < xs.length) : ∃ ad, A = some ad ∧ At w ad (u8s xs) := by
  obtain ⟨ad, e, -⟩ := Kd.at_int h (0 : Int) (by omega) (by omega)
  refine ⟨ad, e, fun j v hv => ?_⟩
  rw [u8s, List.getElem?_map] at hv
  obtain ⟨x, hx, rfl⟩ := Option.map_eq_some_iff.1 hv
  have hj : j < xs.length := (List.getElem?_eq_some_iff.1 hx).1
  obtain ⟨ad', e', hc⟩ := Kd.at_int h (j : Int) (by omega) (by omega)
  rw [e] at e'
  injection e' with e'
  subst e'
  rw [Int.toNat_natCast, rd_nat, List.getD_eq_getElem?_getD, hx] at hc
  exact hc
theorem info5z : (Tryz.prog.info? 5).map (·.size) = some 1 := by
  obtain ⟨i, hi, hs⟩ := info5s
  rw [hi, Option.map_some, hs]
/-- Bytes are copied into a row of 32. -/
theorem wp_copy32 {w : World} {o : Oper} {a : Act} {K : Act → World → Prop} {Q : Exit → Act → World → Prop} (d s : Operand) (ho : o.op = .call { callee := .builtin .copy, args := #[d, s], argTypes := #[47, 47] })
    (g off k c : Nat) (A : Option Addr) (xs : List Int) (hd : a.eval d = .slice (some ⟨g, off, none⟩) 32 k) (hs : a.eval s = .slice A xs.length c) (cur : List Value) (t : TypeId) (hg : w.heap[g]? = some (.cells cur.toArray t (0, 0)))
    (hC : Kd.C (Kd.int .u8) w A xs.length xs) (hl : xs.length ≤ 32) (hfit : off + 32 ≤ cur.length)
    (h : ∀ w', w'.heap[g]? = some (.cells (splice cur off (u8s xs)).toArray t (0, 0)) → w.grownBy w' (some g) → K (a.put o.dst (goInt xs.length)) w') : o.wp Tryz.prog a w K Q := by
  by_cases h0 : xs.length = 0
  · obtain rfl : xs = [] := List.eq_nil_of_length_eq_zero h0
    have hrun := run_copy_none (P := Tryz.prog) w 47 47 o.type 5 (some ⟨g, off, none⟩) A 32 k 0 c Tryz.underlying47 info5z rfl
    have hs' : a.eval s = .slice A 0 c := hs
    unfold Oper.wp
    simp [execOp, ho, resolve, invoke, builtin, hd, hs', hrun, Result.andThen]
    exact h w (by simpa [splice, u8s] using hg) (World.grownBy.refl w _)
  · obtain ⟨ad, rfl, hA⟩ := C_cells hC (by omega)
    have hrun := run_copy_row (P := Tryz.prog) w 47 47 o.type 5 g off 32 k ad xs.length c cur.toArray t (u8s xs) Tryz.underlying47 info5z hg (by rw [u8s_length]; exact (Nat.min_eq_left hl).symm) hA (by rw [u8s_length]; simp; omega) u8s_one
    unfold Oper.wp
    simp [execOp, ho, resolve, invoke, builtin, hd, hs, hrun, Result.andThen]
    rw [u8s_length]
    refine h _ ?_ ?_
    · simpa [splice, u8s_length] using setRow_heap w g cur.toArray (splice cur off (u8s xs)).toArray t (0, 0) hg
    · exact ⟨rfl, rfl, rfl, by simp [World.setRow], fun k _ hk => setRow_other w g k _ (fun e => hk (by rw [e]))⟩
/-- A result of no value. -/
def res0 (x y : List Int) : Res := ⟨x, y, 0⟩
def zero32 : List Int := List.replicate 32 0
theorem pad_splice {xs : List Int} : splice (u8s zero32) 0 (u8s xs) = u8s (pad32 xs) := by
  rw [splice, List.take_zero, List.nil_append, Nat.zero_add, u8s_length, pad32, u8s, u8s, u8s, List.map_append, ← List.map_drop]
  congr 2
  rw [zero32, List.drop_replicate]
theorem splice_act {xs y : List Int} {c : Int} (h : xs.length ≤ 32) : splice (resC ⟨zero32, y, c⟩) 0 (u8s xs) = resC ⟨pad32 xs, y, c⟩ := by
  have := pad_splice (xs := xs)
  rw [splice, List.take_zero, List.nil_append, Nat.zero_add] at this ⊢
  rw [resC, resC]
  simp only
  rw [← this, List.append_assoc, List.drop_append_of_le_length (by rw [u8s_length, u8s_length, zero32, List.length_replicate]; exact h)]
theorem splice_root {x ys : List Int} {c : Int} (hx : x.length = 32) (h : ys.length ≤ 32) : splice (resC ⟨x, zero32, c⟩) 32 (u8s ys) = resC ⟨x, pad32 ys, c⟩ := by
  have := pad_splice (xs := ys)
  rw [splice, List.take_zero, List.nil_append, Nat.zero_add] at this
  have e : (u8s x).length = 32 := by rw [u8s_length, hx]
  rw [splice, resC, resC]
  simp only
  rw [List.take_append_of_le_length (by omega), List.take_of_length_le (by omega), List.drop_append, List.drop_of_length_le (by omega), List.nil_append, e, ← this, List.append_assoc, List.drop_append_of_le_length (by rw [u8s_length, u8s_length, zero32, List.length_replicate]; omega)]
  congr 4
  omega
theorem zero33 : Tryz.zeroCells33 = (resC ⟨zero32, zero32, 0⟩).toArray := by kernel_rfl
theorem zero32_ok : IdOk zero32 := ⟨by simp [zero32], fun u hu => by rw [List.eq_of_mem_replicate hu]; omega⟩

/-! ### The results of a table -/
def resS : Nat → RS → List Res × RS
  | 0, s => ([], s)
  | k + 1, s => ((resS k s).1 ++ [⟨pad32 ((resS k s).2.raw 32).1, pad32 (((resS k s).2.raw 32).2.raw 32).1, ((((resS k s).2.raw 32).2.raw 32).2.fixed 1).1⟩], ((((resS k s).2.raw 32).2.raw 32).2.fixed 1).2)
theorem resS_len : ∀ (k : Nat) (s : RS), (resS k s).1.length = k
  | 0, _ => rfl
  | k + 1, s => by rw [resS, List.length_append, resS_len k s]; rfl
theorem raw_data (s : RS) (n : Nat) : (s.raw n).2.data = s.data := by rw [RS.raw]; split <;> (try split) <;> rfl
theorem fixed_data (s : RS) (n : Nat) : (s.fixed n).2.data = s.data := raw_data s n
theorem resS_data : ∀ (k : Nat) (s : RS), (resS k s).2.data = s.data
  | 0, _ => rfl
  | k + 1, s => by rw [resS]; simp only; rw [fixed_data, raw_data, raw_data, resS_data k s]
theorem fixed1_bounds {s : RS} (h : Byt s.data) : 0 ≤ (s.fixed 1).1 ∧ (s.fixed 1).1 ≤ 255 := by
  have h1 := raw_byt h 1
  have h2 := foldB_bound h1.1
  have h3 : (256 : Int) ^ (s.raw 1).1.length ≤ 256 ^ 1 := by
    have : (256 : Nat) ^ (s.raw 1).1.length ≤ 256 ^ 1 := Nat.pow_le_pow_right (by omega) h1.2
    exact_mod_cast this
  rw [RS.fixed]
  simp only
  omega
theorem resS_ok : ∀ (k : Nat) (s : RS), Byt s.data → ∀ r ∈ (resS k s).1, ResOk r
  | 0, _, _, r, hr => by cases hr
  | k + 1, s, h, r, hr => by
    rw [resS] at hr
    rcases List.mem_append.1 hr with hr | hr
    · exact resS_ok k s h r hr
    · rw [List.mem_singleton.1 hr]
      have d0 : Byt (resS k s).2.data := by rw [resS_data]; exact h
      have d1 : Byt ((resS k s).2.raw 32).2.data := by rw [raw_data]; exact d0
      have d2 : Byt (((resS k s).2.raw 32).2.raw 32).2.data := by rw [raw_data]; exact d1
      have h1 := raw_byt d0 32
      have h2 := raw_byt d1 32
      have h3 := fixed1_bounds d2
      exact ⟨pad32_ok h1.2 h1.1, pad32_ok h2.2 h2.1, by simp only; omega⟩
theorem resS_at : ∀ (k : Nat) {rs : List Res} {s : RS} {b : List Int}, (∀ r ∈ rs, ResOk r) → (∀ r ∈ rs, 0 ≤ r.code ∧ r.code ≤ 255) → s.At (rs.flatMap resW ++ b) → k ≤ rs.length → (resS k s).1 = rs.take k ∧ (resS k s).2.At ((rs.drop k).flatMap resW ++ b)
  | 0, rs, s, b, _, _, h, _ => ⟨rfl, h⟩
  | k + 1, rs, s, b, ok, hc, h, hk => by
    obtain ⟨e1, a1⟩ := resS_at k ok hc h (by omega)
    have hr := List.getElem_mem (l := rs) (n := k) (by omega)
    obtain ⟨r, hr'⟩ : ∃ r, rs[k]'(by omega) = r := ⟨_, rfl⟩
    rw [hr'] at hr
    have hd : rs.drop k = r :: rs.drop (k + 1) := by rw [List.drop_eq_getElem_cons (by omega), hr']
    rw [hd, List.flatMap_cons, resW, List.append_assoc, List.append_assoc, List.append_assoc] at a1
    have R := ok r hr
    have C := hc r hr
    have f1 := a1.raw
    rw [R.act.len] at f1
    have a2 := a1.on
    rw [R.act.len] at a2
    have f2 := a2.raw
    rw [R.root.len] at f2
    have a3 := a2.on
    rw [R.root.len] at a3
    have e : ([r.code] : List Int) = fixW r.code.toNat 1 := by simp [fixW]; omega
    rw [e] at a3
    have f3 := a3.fixed (by omega)
    have a4 := a3.on
    rw [fixW_length] at a4
    rw [resS, f1, f2, f3]
    refine ⟨?_, a4⟩
    simp only
    rw [e1, List.take_add_one, List.getElem?_eq_getElem (by omega), hr', pad32_id R.act.len, pad32_id R.root.len]
    congr 1
    obtain ⟨ra, rr, rc⟩ := r
    simp only at C ⊢
    rw [show ((rc.toNat : Nat) : Int) = rc by omega]
    rfl
/-- What parsing a table gives. -/
structure Parsed (d : List Int) (rs : List Res) : Prop where
  most : (RS.start d).num.1 ≤ 32
  is : rs = (resS (RS.start d).num.1 (RS.start d).num.2).1
  code : (resS (RS.start d).num.1 (RS.start d).num.2).2.code = 0
  left : (resS (RS.start d).num.1 (RS.start d).num.2).2.left = 0
  table : Table rs
theorem parsed_tab {rs : List Res} (ok : ∀ r ∈ rs, ResOk r) (T : Table rs) : Parsed (tabW rs) rs := by
  have hm := T.most
  have a0 := RS.at_start (tabW rs)
  have f := RS.At.num (s := RS.start (tabW rs)) (v := rs.length) (b := rs.flatMap resW) a0 (by omega)
  have a1 := RS.At.on (s := RS.start (tabW rs)) (a := numW rs.length) (b := rs.flatMap resW) a0
  rw [← List.append_nil (rs.flatMap resW)] at a1
  obtain ⟨e, a2⟩ := resS_at rs.length ok T.code a1 (Nat.le_refl _)
  rw [List.take_length] at e
  rw [List.drop_length] at a2
  refine ⟨by rw [f]; exact hm, ?_, ?_, ?_, T⟩
  · rw [f]; exact e.symm
  · rw [f]; exact a2.code
  · rw [f, RS.left, if_neg (by simp [a2.code])]
    have := congrArg List.length a2.rest
    rw [RS.rest, List.length_drop] at this
    simpa using this
theorem Parsed.one {d : List Int} {rs qs : List Res} (h : Parsed d rs) (h' : Parsed d qs) : rs = qs := h.is.trans h'.is.symm
end Go.Proofs.YtdekmeanlcpenaaGreatDoor.Codec

namespace Go.Proofs.YtdekmeanlcpenaaGreatDoor.Codec
open Go.RowKit Go.Proofs.YtdekmeanlcpenaaGreatDoorW.PrintWords Go.Proofs.YtdekmeanlcpenaaGreatDoor.Mid
attribute [local go_sem ↓ high] load33_eq load29_eq
attribute [local simp] rowOf_drew rowOf_drewN
attribute [local go_sem high] load33_row load29_row rowOf_drew rowOf_drewN
set_option maxHeartbeats 2000000
set_option maxRecDepth 100000
/-- The first i ids rise. -/
def RiseUp (ids : List (List Int)) (i : Nat) : Prop := ∀ (j : Nat) x y, j + 1 < i → ids[j]? = some x → ids[j + 1]? = some y → cmp x y < 0
theorem cmp_to (w : World) (x y : List Int) (cv : Int) (lx : IdOk x) (ly : IdOk y) (h : cmp x y = cv) : Calls Tryz.prog 75 #[.agg (u8s x).toArray, .agg (u8s y).toArray] w fun e w' => e = .returned (.int .i64 cv) ∧ Below w.heap.size w w' := by
  subst h
  exact digest_compare w x y lx ly
theorem rising_any (A : Option Addr) (c : Nat) (ids : List (List Int)) (w : World) (hC : idK.C w A ids.length ids) (hl : ids.length ≤ 100000000) :
    Calls Tryz.prog 95 #[.slice A ids.length c] w fun e w' => RetB e (Rises ids) ∧ Below w.heap.size w w' := by
  have HC := Aside0.mk hC
  clear hC
  go_enter Tryz.func95, Tryz.ntmps95
  go_wp2
  go_loopg [3] ids.length (fun k v3 w' => ∃ i : Nat, v3 = .int .i64 i ∧ i + k = ids.length + 1 ∧ 1 ≤ i ∧ Aside0 (RiseUp ids i) ∧ Aside0 (Below w.heap.size w w'))
  case atStart => exact ⟨1, rfl, by omega, by omega, ⟨fun j x y h => by omega⟩, ⟨Below.refl _ _⟩⟩
  case round =>
    obtain ⟨i, rfl, hik, hi1, HU, HB⟩ := hrel
    by_cases hi : i < ids.length
    · obtain ⟨k, rfl⟩ : ∃ k, gk = k + 1 := ⟨gk - 1, by omega⟩
      have hi2 : (i : Int) < (ids.length : Int) := by omega
      obtain ⟨m, rfl⟩ : ∃ m, i = m + 1 := ⟨i - 1, by omega⟩
      obtain ⟨ad, x, rfl, hx, hxo, hxa⟩ := id_at (Kd.C_below HC.out HB.out) m (by omega)
      obtain ⟨ad', y, e1, hy, hyo, hya⟩ := id_at (Kd.C_below HC.out HB.out) (m + 1) hi
      cases e1
      have g1 : ∀ u : CW (Since wr), rowOf u.w (ad.add (m * 32)) 32 = some (u8s x) := fun u => (hxa.below u.h).id hxo
      have g2 : ∀ u : CW (Since wr), rowOf u.w (ad.add ((m + 1) * 32)) 32 = some (u8s y) := fun u => (hya.below u.h).id hyo
      have hm2 : (m : Int) < (ids.length : Int) := by omega
      have Hx := Aside0.mk (⟨hx, hxo⟩ : _ ∧ _)
      have Hy := Aside0.mk (⟨hy, hyo⟩ : _ ∧ _)
      clear hx hxo hxa hy hyo hya
      obtain ⟨cv, hcv⟩ : ∃ cv, cmp x y = cv := ⟨_, rfl⟩
      have hcr := cmp_vals x y
      rw [hcv] at hcr
      have HCV := Aside0.mk hcv
      clear hcv
      go_wp2
      refine wp_region_S (Since wr) (by kernel_rfl) (by kernel_rfl) (since_drew wr) ?_
      repeat (go_big_quiet_step (first | (go_at_call 75; refine calls_since (cmp_to _ x y cv Hx.out.2 Hy.out.2 HCV.out))))
      refine wpQuiet_nil ?_
      rintro _ ⟨⟨w5, hb5⟩, rfl⟩
      have HB5 := Aside0.mk (below_of HB.out hb5 (Nat.le_refl _))
      clear hb5 HB
      by_cases hcz : 0 ≤ cv
      · go_wp2
        go_ret
        exact ⟨.no rfl (fun h => by have h1 := h m x y Hx.out.1 Hy.out.1; have h2 := HCV.out; omega), HB5.out⟩
      · have HU2 : Aside0 (RiseUp ids (m + 2)) := ⟨fun j a b hj ha hb => by
          by_cases he : j = m
          · subst he
            rw [Hx.out.1] at ha
            rw [Hy.out.1] at hb
            cases ha; cases hb
            have := HCV.out
            omega
          · exact HU.out j a b (by omega) ha hb⟩
        go_wp2
        go_roundg k
        case measure => omega
        case rel => exact ⟨m + 2, by go_num, by omega, by omega, HU2, HB5⟩
    · have hd : decide ((i : Int) < (ids.length : Int)) = false := by simp; omega
      have hd2 : decide (i < ids.length) = false := by simp; omega
      have Hi : Aside0 (ids.length ≤ i) := ⟨by omega⟩
      clear hik
      go_wp2
      go_ret
      exact ⟨.yes rfl (fun j x y h1 h2 => HU.out j x y (by have := (List.getElem?_eq_some_iff.1 h2).1; have := Hi.out; omega) h1 h2), HB.out⟩
end Go.Proofs.YtdekmeanlcpenaaGreatDoor.Codec

namespace Go.Proofs.YtdekmeanlcpenaaGreatDoor.Codec
open Go.RowKit Go.Proofs.YtdekmeanlcpenaaGreatDoorW.PrintWords Go.Proofs.YtdekmeanlcpenaaGreatDoor.Mid
set_option maxHeartbeats 2000000
set_option maxRecDepth 100000
/-- A letter's number. -/
def okN (x : Nat) : Prop := (97 ≤ x ∧ x ≤ 122) ∨ (48 ≤ x ∧ x ≤ 57) ∨ x = 46 ∨ x = 45 ∨ x = 95 ∨ x = 43
theorem okC_iff (c : UInt8) : okC c = true ↔ okN c.toNat := by
  have h : ∀ n : Fin 256, okC (UInt8.ofNat n.val) = true ↔ okN n.val := by unfold okN; decide +kernel
  have := h ⟨c.toNat, c.toNat_lt⟩
  simpa using this
/-- The first i letters are a name's. -/
def Lets (s : ByteArray) (i : Nat) : Prop := ∀ (j : Nat) c, j < i → s.data.toList[j]? = some c → okC c = true
theorem toL (s : ByteArray) : s.toList = s.data.toList := Go.ByteArray.toList_eq s
theorem isName_any (s : ByteArray) (w : World) : Calls Tryz.prog 94 #[.string s] w fun e w' => RetB e (NameOk s) ∧ w = w' := by
  by_cases hz : s.size = 0
  · have hse : s = { data := #[] } := by
      have h2 : s.data = #[] := Array.eq_empty_of_size_eq_zero hz
      cases s; simp at h2; rw [h2]
    subst hse
    go_enter Tryz.func94, Tryz.ntmps94
    go_wp2
    go_ret
    exact ⟨.no rfl (fun h => absurd h.pos (by decide)), rfl⟩
  · have hn : ¬ s.toList = [] := fun h => hz (by rw [toL] at h; have := congrArg List.length h; simpa using this)
    have hi : s.toList.isEmpty = false := by cases h : s.toList with | nil => exact absurd h hn | cons a t => rfl
    by_cases hm : s.size ≤ 112
    · have hm1 : (s.size : Int) ≤ 112 := by omega
      go_enter Tryz.func94, Tryz.ntmps94
      go_wp2
      go_loopg [14] s.size (fun k v14 w' => ∃ i : Nat, v14 = .int .i64 i ∧ i + k = s.size ∧ Aside0 (Lets s i) ∧ w = w')
      case atStart => exact ⟨0, rfl, by omega, ⟨fun j c h => by omega⟩, rfl⟩
      case round =>
        obtain ⟨i, rfl, hik, HL, rfl⟩ := hrel
        cases gk with
        | zero =>
          have hd : decide (i < s.size) = false := by simp; omega
          have hd2 : decide ((i : Int) < (s.size : Int)) = false := by simp; omega
          have Hi : Aside0 (i = s.size) := ⟨by omega⟩
          clear hik
          go_wp2
          go_ret
          exact ⟨.yes rfl ⟨by omega, hm, fun j c h => HL.out j c (by rw [Hi.out]; have := (List.getElem?_eq_some_iff.1 h).1; simpa using this) h⟩, rfl⟩
        | succ k =>
          have hi1 : i < s.size := by omega
          have hi2 : (i : Int) < (s.size : Int) := by omega
          obtain ⟨x, hx⟩ : ∃ x : Nat, (s[i]'hi1).toNat = x := ⟨_, rfl⟩
          have hx1 : ((s[i]'hi1).toNat : Int) = (x : Int) := by rw [hx]
          have HC : Aside0 (s.data.toList[i]? = some (s[i]'hi1)) := ⟨by rw [List.getElem?_eq_getElem (by simpa using hi1)]; rfl⟩
          have HX := Aside0.mk hx
          clear hx
          by_cases hok : okN x
          · have HY : Aside0 (Lets s (i + 1)) := ⟨fun j c hj hc => by
              by_cases he : j = i
              · subst he
                rw [HC.out] at hc
                injection hc with hc
                rw [← hc, okC_iff, HX.out]; exact hok
              · exact HL.out j c (by omega) hc⟩
            rcases hok with ⟨h1, h2⟩ | ⟨h1, h2⟩ | rfl | rfl | rfl | rfl
            · have h3 : (97 : Int) ≤ (x : Int) := by omega
              have h4 : (x : Int) ≤ 122 := by omega
              go_wp2
              go_roundg k
              case measure => omega
              case rel => exact ⟨i + 1, by go_num, by omega, HY, rfl⟩
            · have h3 : (48 : Int) ≤ (x : Int) := by omega
              have h4 : (x : Int) ≤ 57 := by omega
              have h5 : ¬ (97 : Int) ≤ (x : Int) := by omega
              go_wp2
              go_roundg k
              case measure => omega
              case rel => exact ⟨i + 1, by go_num, by omega, HY, rfl⟩
            · clear HX HC HL
              go_wp2
              go_roundg k
              case measure => omega
              case rel => exact ⟨i + 1, by go_num, by omega, HY, rfl⟩
            · clear HX HC HL
              go_wp2
              go_roundg k
              case measure => omega
              case rel => exact ⟨i + 1, by go_num, by omega, HY, rfl⟩
            · clear HX HC HL
              go_wp2
              go_roundg k
              case measure => omega
              case rel => exact ⟨i + 1, by go_num, by omega, HY, rfl⟩
            · clear HX HC HL
              go_wp2
              go_roundg k
              case measure => omega
              case rel => exact ⟨i + 1, by go_num, by omega, HY, rfl⟩
          · have HN : Aside0 (¬ NameOk s) := ⟨fun h => hok (by rw [← HX.out, ← okC_iff]; exact h.all i _ HC.out)⟩
            have n1 : ((x : Int) == 46) = false := by rw [beq_eq_false_iff_ne]; intro h; exact hok (by unfold okN; omega)
            have n2 : ((x : Int) == 45) = false := by rw [beq_eq_false_iff_ne]; intro h; exact hok (by unfold okN; omega)
            have n3 : ((x : Int) == 95) = false := by rw [beq_eq_false_iff_ne]; intro h; exact hok (by unfold okN; omega)
            have n4 : ((x : Int) == 43) = false := by rw [beq_eq_false_iff_ne]; intro h; exact hok (by unfold okN; omega)
            by_cases a1 : 97 ≤ x
            · have a2 : (97 : Int) ≤ (x : Int) := by omega
              have a3 : ¬ (x : Int) ≤ 122 := fun h => hok (by unfold okN; omega)
              have a4 : (48 : Int) ≤ (x : Int) := by omega
              have a5 : ¬ (x : Int) ≤ 57 := by omega
              clear hok
              go_wp2
              go_ret
              exact ⟨.no rfl HN.out, rfl⟩
            · have a2 : ¬ (97 : Int) ≤ (x : Int) := by omega
              by_cases b1 : 48 ≤ x
              · have b2 : (48 : Int) ≤ (x : Int) := by omega
                have b3 : ¬ (x : Int) ≤ 57 := fun h => hok (by unfold okN; omega)
                clear hok
                go_wp2
                go_ret
                exact ⟨.no rfl HN.out, rfl⟩
              · have b2 : ¬ (48 : Int) ≤ (x : Int) := by omega
                clear hok
                go_wp2
                go_ret
                exact ⟨.no rfl HN.out, rfl⟩
    · have hm1 : (112 : Int) < (s.size : Int) := by omega
      go_enter Tryz.func94, Tryz.ntmps94
      go_wp2
      go_ret
      exact ⟨.no rfl (fun h => absurd h.most hm), rfl⟩
end Go.Proofs.YtdekmeanlcpenaaGreatDoor.Codec
