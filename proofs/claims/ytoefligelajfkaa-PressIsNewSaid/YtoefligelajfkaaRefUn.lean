import Derived.Test.YtoefligelajfkaaUn
namespace Go.Proofs.Ytoefligelajfkaa.Press
open Go.RowKit Go.Proofs.YtoefligelajfkaaW.PrintWords Go.Proofs.YtoefligelajfkaaW.PrintLast Go.Proofs.YtoefligelajfkaaW.PrintMore Go.Proofs.Ytoefligelajfkaa.PPressSpoilt

theorem w64 {x : Int} (h0 : -9223372036854775808 ≤ x) (h1 : x ≤ 9223372036854775807) : wrap64 x = x := IntWalk.wrap64_in x ⟨h0, h1⟩

theorem rd_nat (l : List Int) (i : Nat) : rd l (i : Int) = l.getD i 0 := by simp [rd]

/-- The reference's inner loop copies. -/
theorem ref_copy (p : List Int) (n : Int) (at_ g bit v : Int) (bk : Nat) (hv0 : 0 ≤ v) (hv1 : v ≤ 65535) (hbk : v / 64 + 1 = bk) (K : Nat) : ∀ (k : Nat) (out : List Int), bk ≤ out.length → out.length + K ≤ 5000 →
    freightref4_Unpack.l2 (k + K + 1) p n out at_ g bit v (K : Int) = freightref4_Unpack.l1 k p n (copyB bk K out) at_ g (wrap64 (bit + 1)) := by
  induction K with
  | zero =>
    intro k out _ _
    show freightref4_Unpack.l2 (k + 1) p n out at_ g bit v 0 = _
    simp only [freightref4_Unpack.l2]
    rw [if_neg (by omega)]
    rfl
  | succ K ih =>
    intro k out hb hl
    obtain ⟨m, hm⟩ : ∃ m, m = k + K + 1 := ⟨_, rfl⟩
    rw [show k + (K + 1) + 1 = m + 1 by omega]
    simp only [freightref4_Unpack.l2]
    subst hm
    have ht : Int.tdiv v 64 = v / 64 := Int.tdiv_eq_ediv_of_nonneg hv0
    rw [ht, w64 (x := v / 64) (by omega) (by omega), w64 (x := (out.length : Int) - v / 64) (by omega) (by omega), w64 (x := (out.length : Int) - v / 64 - 1) (by omega) (by omega)]
    rw [if_pos (by omega), if_pos (by omega), if_pos (by omega), if_pos (by omega), w64 (by omega) (by omega)]
    have e1 : ((K + 1 : Nat) : Int) - 1 = (K : Int) := by omega
    have e2 : (out.length : Int) - v / 64 - 1 = ((out.length - bk : Nat) : Int) := by omega
    rw [e1, e2, rd_nat, ih k (out ++ [out.getD (out.length - bk) 0]) (by simp; omega) (by simp; omega)]
    rfl

/-- What is left of the flag fits into the bits that are left. -/
structure Fits (g : Int) (bit : Nat) : Prop where mk :: (out : g < 2 ^ (8 - bit))
theorem Fits.half {g : Int} {bit : Nat} (h : Fits g bit) (hb : bit ≤ 7) : Fits (g / 2) (bit + 1) := by
  refine ⟨?_⟩
  have h1 := h.out
  have e : 8 - bit = (8 - (bit + 1)) + 1 := by omega
  rw [e, Int.pow_succ] at h1
  generalize (2 : Int) ^ (8 - (bit + 1)) = q at h1 ⊢
  omega
theorem Fits.le {g : Int} {bit : Nat} (h : Fits g bit) : g < 256 := by
  have h1 := h.out
  have h2 : (2 : Int) ^ (8 - bit) ≤ 2 ^ 8 := by exact_mod_cast (Nat.pow_le_pow_right (by omega) (by omega) : 2 ^ (8 - bit) ≤ 2 ^ 8)
  generalize (2 : Int) ^ (8 - bit) = q at h1 h2
  omega
theorem Fits.last {g : Int} (h : Fits g 7) : g < 2 := h.out
theorem Fits.byte {g : Int} (h : g ≤ 255) : Fits g 0 := ⟨by show g < 256; omega⟩

theorem w64n {x : Int} {n : Nat} (h : x = n) (hn : n ≤ 9223372036854775807) : wrap64 x = n := by rw [h, w64 (by omega) (by omega)]

set_option maxHeartbeats 1000000 in
theorem ref_run (p : List Int) (N : Nat) (hN : N ≤ 4096) (hp : p.length ≤ 140737488355328) (hby : ∀ x ∈ p, 0 ≤ x ∧ x ≤ 255) :
    ∀ (M d : Nat) (k at_ bit : Nat) (g : Int) (out : List Int), M = 80 * d + (9 - bit) → d + at_ = p.length → out.length ≤ N → bit ≤ 8 → M + 1 ≤ k → 0 ≤ g → Fits g bit →
      freightref4_Unpack.l1 k p N out at_ g bit = some (uR N (p.drop at_) out g bit) ∧ (bit = 8 → freightref4_Unpack.l0 (k - 1) p N out at_ = some (uR N (p.drop at_) out 0 8)) := by
  intro M
  induction M using Nat.strongRecOn with
  | _ M ih =>
    intro d k at_ bit g out hM hd ho hb hk hg0 hg1
    have L0 : bit = 8 → freightref4_Unpack.l0 (k - 1) p N out at_ = some (uR N (p.drop at_) out 0 8) := by
      rintro rfl
      obtain ⟨k, rfl⟩ : ∃ m, k = m + 2 := ⟨k - 2, by omega⟩
      show freightref4_Unpack.l0 (k + 1) p N out at_ = _
      simp only [freightref4_Unpack.l0]
      by_cases h : at_ < p.length
      · rw [if_pos (by omega), if_pos (by omega), w64n (n := at_ + 1) (by omega) (by omega)]
        by_cases h1 : at_ + 1 = p.length
        · rw [if_pos (by omega), uR_g1 h1]
        · have hb0 := rd_byte hby (at_ : Int)
          rw [if_neg (by omega), uR_g2 (by omega), w64 (x := rd p (at_ : Int)) (by omega) (by omega)]
          have := (ih (80 * (d - 1) + 9) (by omega) (d - 1) k (at_ + 1) 0 (rd p at_) out rfl (by omega) ho (by omega) (by omega) hb0.1 (Fits.byte hb0.2)).1
          rw [rd_nat] at this
          rw [rd_nat]
          exact this
      · have : at_ = p.length := by omega
        subst this
        rw [if_neg (by omega), uR_e8]
        simp only [fin]
        by_cases hf : (out.length : Int) < N
        · rw [if_pos hf, if_pos hf]
        · rw [if_neg hf, if_neg hf]
    refine ⟨?_, L0⟩
    obtain ⟨k, rfl⟩ : ∃ m, k = m + 1 := ⟨k - 1, by omega⟩
    simp only [freightref4_Unpack.l1]
    by_cases h8 : bit = 8
    · rw [if_neg (by omega)]
      have := L0 h8
      simp only [Nat.add_sub_cancel] at this
      rw [this, h8, uR_eight]
    · clear L0
      rw [if_pos (by omega)]
      have hg256 := hg1.le
      have hgh := hg1.half (by omega)
      rw [Int.tmod_eq_emod_of_nonneg hg0, Int.tdiv_eq_ediv_of_nonneg hg0, w64 (x := g / 2) (by omega) (by omega), w64n (x := (bit : Int) + 1) (n := bit + 1) (by omega) (by omega)]
      by_cases he : at_ = p.length
      · subst he
        rw [if_pos rfl]
        have h3 := (ih (80 * d + (9 - (bit + 1))) (by omega) d k p.length (bit + 1) (g / 2) out rfl hd ho (by omega) (by omega) (by omega) hgh).1
        clear ih
        by_cases hz : g = 0
        · rw [if_neg (by omega), uR_i0 h8 hz, h3]
          by_cases h7 : bit + 1 = 8
          · rw [h7, uR_e8]
          · rw [uR_i0 h7 (by omega)]
        · rw [uR_i1 h8 hz]
          by_cases h1 : g % 2 = 1
          · rw [if_pos h1]
          · rw [if_neg h1, h3]
            have h7 : bit + 1 ≠ 8 := by
              intro h7
              obtain rfl : bit = 7 := by omega
              have := hg1.last
              omega
            rw [uR_i1 h7 (by omega)]
      · rw [if_neg (by omega)]
        have hlt : at_ < p.length := by omega
        have hb0 := rd_byte hby (at_ : Int)
        by_cases h1 : g % 2 = 1
        · rw [if_pos h1, w64n (x := (at_ : Int) + 1) (n := at_ + 1) (by omega) (by omega)]
          by_cases h2 : at_ + 1 = p.length
          · rw [if_pos (by omega), uR_m1 h8 h1 h2]
          · have hb1 := rd_byte hby ((at_ + 1 : Nat) : Int)
            rw [if_neg (by omega), if_pos (by omega), if_pos (by omega), if_pos (by omega), if_pos (by omega)]
            rw [w64 (x := rd p (at_ : Int)) (by omega) (by omega), w64 (x := rd p ((at_ + 1 : Nat) : Int)) (by omega) (by omega), w64 (x := 256 * rd p (at_ : Int)) (by omega) (by omega)]
            obtain ⟨v, hv⟩ : ∃ v : Int, v = 256 * rd p (at_ : Int) + rd p ((at_ + 1 : Nat) : Int) := ⟨_, rfl⟩
            rw [← hv]
            have hv0 : 0 ≤ v := by omega
            have hv1 : v ≤ 65535 := by omega
            rw [w64 (x := v) (by omega) (by omega), Int.tdiv_eq_ediv_of_nonneg hv0, Int.tmod_eq_emod_of_nonneg hv0, w64 (x := v / 64) (by omega) (by omega), w64 (x := v / 64 + 1) (by omega) (by omega),
              w64 (x := (out.length : Int) + v % 64) (by omega) (by omega), w64 (x := (out.length : Int) + v % 64 + 3) (by omega) (by omega), w64 (x := v % 64 + 3) (by omega) (by omega), w64n (x := (at_ : Int) + 2) (n := at_ + 2) (by omega) (by omega)]
            rw [uR_m2 h8 h1 (by omega) (v := v) (by rw [hv, rd_nat, rd_nat])]
            clear hv hb0 hb1
            by_cases c1 : (out.length : Int) < v / 64 + 1
            · rw [if_pos (by omega), if_pos c1]
            · rw [if_neg (by omega), if_neg c1]
              by_cases c2 : (N : Int) < out.length + (v % 64 + 3)
              · rw [if_pos (by omega), if_pos c2]
              · rw [if_neg (by omega), if_neg c2]
                obtain ⟨bk, hbk⟩ : ∃ bk : Nat, v / 64 + 1 = (bk : Int) := ⟨(v / 64 + 1).toNat, by omega⟩
                obtain ⟨K, hK⟩ : ∃ K : Nat, v % 64 + 3 = (K : Int) := ⟨(v % 64 + 3).toNat, by omega⟩
                obtain ⟨k', rfl⟩ : ∃ k', k = k' + K + 1 := ⟨k - K - 1, by omega⟩
                have h3 := (ih (80 * (d - 2) + (9 - (bit + 1))) (by omega) (d - 2) k' (at_ + 2) (bit + 1) (g / 2) (copyB bk K out) rfl (by omega) (by rw [copyB_length]; omega) (by omega) (by omega) (by omega) hgh).1
                have h4 := ref_copy p N ((at_ + 2 : Nat) : Int) (g / 2) bit v bk hv0 hv1 hbk K k' out (by omega) (by omega)
                rw [w64n (x := (bit : Int) + 1) (n := bit + 1) (by omega) (by omega)] at h4
                rw [hbk, hK]
                exact h4.trans h3
        · rw [if_neg h1]
          by_cases h2 : (out.length : Int) = N
          · rw [if_pos h2, uR_l1 h8 h1 hlt h2]
          · rw [if_neg h2, if_pos (by omega), if_pos (by omega), if_pos (by omega), uR_l2 h8 h1 hlt h2, w64n (x := (at_ : Int) + 1) (n := at_ + 1) (by omega) (by omega), rd_nat]
            exact (ih (80 * (d - 1) + (9 - (bit + 1))) (by omega) (d - 1) k (at_ + 1) (bit + 1) (g / 2) (out ++ [p.getD at_ 0]) rfl (by omega) (by simp; omega) (by omega) (by omega) (by omega) hgh).1

theorem ref_unpack_f (p : List Int) (n : Int) (hp : p.length ≤ 140737488355328) (hby : ∀ x ∈ p, 0 ≤ x ∧ x ≤ 255) :
    ∃ k, freightref4_Unpack.f k p n = some (unpackS p n) := by
  unfold unpackS
  by_cases h0 : n < 0
  · refine ⟨1, ?_⟩
    unfold freightref4_Unpack.f
    rw [if_pos h0, if_pos (by omega)]
    rfl
  · by_cases h1 : n > 4096
    · refine ⟨1, ?_⟩
      unfold freightref4_Unpack.f
      rw [if_neg h0, if_pos (by omega)]
      simp [freightref4_Unpack.j0, h1]
    · obtain ⟨N, rfl⟩ := Int.eq_ofNat_of_zero_le (show 0 ≤ n by omega)
      have := (ref_run p N (by omega) hp hby (80 * p.length + 1) p.length (80 * p.length + 3) 0 8 0 [] (by omega) (by omega) (by simp) (by omega) (by omega) (by omega) ⟨by simp⟩).2 rfl
      refine ⟨80 * p.length + 3, ?_⟩
      unfold freightref4_Unpack.f
      rw [if_neg h0, if_neg (by omega)]
      show freightref4_Unpack.j0 ((80 * p.length + 2) + 1) p _ (decide ((N : Int) > 4096)) = _
      simp only [freightref4_Unpack.j0]
      rw [if_neg (by simpa using h1)]
      simpa using this

/-- freightref4.Unpack: the same. -/
theorem ref_unpack_any (A0 : Option Addr) (c0 : Nat) (l0 : List Int) (n : Int) (w : World) (hr0 : Kd.C (Kd.int .u8) w A0 l0.length l0) (hby : ∀ x ∈ l0, 0 ≤ x ∧ x ≤ 255) (hc0 : l0.length ≤ c0)
    (hl : l0.length ≤ 140737488355328) :
    Calls Try.prog 26 #[.slice A0 l0.length c0, .int .i64 n] w fun e w' => ∃ v, e = .returned (.tuple #[v, .int .i64 (unpackS l0 n).2]) ∧
      Kd.R (Kd.int .u8) 5 w' w.heap.size (fun _ => True) v (unpackS l0 n).1 ∧ Below w.heap.size w w' := by
  obtain ⟨k, hk⟩ := ref_unpack_f l0 n hl hby
  exact freightref4_Unpack.calls k A0 c0 l0 n (unpackS l0 n).1 (unpackS l0 n).2 w hr0 hc0 hk
end Go.Proofs.Ytoefligelajfkaa.Press
