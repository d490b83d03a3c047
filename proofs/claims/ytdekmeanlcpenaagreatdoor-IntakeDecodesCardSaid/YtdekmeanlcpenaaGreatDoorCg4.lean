import Derived.Test.YtdekmeanlcpenaaGreatDoorCg3
import Derived.Test.YtdekmeanlcpenaaGreatDoorCg2
import Derived.Test.YtdekmeanlcpenaaGreatDoorProg
import Derived.Lib.BytesEntry
import Derived.BigQuiet
set_option linter.unusedSimpArgs false
set_option linter.unusedVariables false
namespace Go.Proofs.YtdekmeanlcpenaaGreatDoor.Block
end Go.Proofs.YtdekmeanlcpenaaGreatDoor.Block
namespace Go.Proofs.YtdekmeanlcpenaaGreatDoor.Mid
end Go.Proofs.YtdekmeanlcpenaaGreatDoor.Mid
namespace Go.Proofs.YtdekmeanlcpenaaGreatDoor.PIntakeDecodes
end Go.Proofs.YtdekmeanlcpenaaGreatDoor.PIntakeDecodes
namespace Go.Proofs.YtdekmeanlcpenaaGreatDoor.PIntakeEncodes
end Go.Proofs.YtdekmeanlcpenaaGreatDoor.PIntakeEncodes
namespace Go.Proofs.YtdekmeanlcpenaaGreatDoor.Codec
open Go.Proofs.YtdekmeanlcpenaaGreatDoor.Mid

def Byt (l : List Int) : Prop := ∀ x ∈ l, 0 ≤ x ∧ x ≤ 255
theorem byt_nil : Byt [] := fun _ h => by cases h
theorem byt_append {a b : List Int} (h1 : Byt a) (h2 : Byt b) : Byt (a ++ b) := fun x hx => (List.mem_append.1 hx).elim (h1 x) (h2 x)
theorem byt_drop {l : List Int} (h : Byt l) (n : Nat) : Byt (l.drop n) := fun x hx => h x (List.mem_of_mem_drop hx)
theorem byt_take {l : List Int} (h : Byt l) (n : Nat) : Byt (l.take n) := fun x hx => h x (List.mem_of_mem_take hx)

/-- A number in its shortest form. -/
def numW (v : Nat) : List Int := if v < 128 then [(v : Int)] else ((128 + v % 128 : Nat) : Int) :: numW (v / 128)
termination_by v
decreasing_by omega
theorem numW_small {v : Nat} (h : v < 128) : numW v = [(v : Int)] := by rw [numW, if_pos h]
theorem numW_big {v : Nat} (h : 128 ≤ v) : numW v = ((128 + v % 128 : Nat) : Int) :: numW (v / 128) := by rw [numW, if_neg (by omega)]
theorem numW_byt : ∀ (m v : Nat), v ≤ m → Byt (numW v) := by
  intro m
  induction m with
  | zero => intro v hv x hx; rw [numW_small (by omega)] at hx; simp at hx; omega
  | succ m ih =>
    intro v hv x hx
    by_cases h : v < 128
    · rw [numW_small h] at hx; simp at hx; omega
    · rw [numW_big (by omega)] at hx
      rcases List.mem_cons.1 hx with rfl | hx
      · omega
      · exact ih (v / 128) (by omega) x hx
theorem numW_len : ∀ (k v : Nat), v < 128 ^ (k + 1) → (numW v).length ≤ k + 1 := by
  intro k
  induction k with
  | zero => intro v hv; rw [numW_small (by simpa using hv)]; simp
  | succ k ih =>
    intro v hv
    by_cases h : v < 128
    · rw [numW_small h]; simp
    · rw [numW_big (by omega), List.length_cons]
      have : v / 128 < 128 ^ (k + 1) := Nat.div_lt_of_lt_mul (by rw [Nat.pow_succ] at hv; omega)
      have := ih (v / 128) this
      omega
theorem numW_pos (v : Nat) : 0 < (numW v).length := by
  by_cases h : v < 128
  · rw [numW_small h]; simp
  · rw [numW_big (by omega)]; simp
theorem numW_max {v : Nat} (h : v ≤ 2147483647) : (numW v).length ≤ 5 := numW_len 4 v (by omega)
/-- A number in so many bytes, the greatest first. -/
def fixW (v : Nat) : Nat → List Int
  | 0 => []
  | k + 1 => fixW (v / 256) k ++ [((v % 256 : Nat) : Int)]
theorem fixW_length (v k : Nat) : (fixW v k).length = k := by
  induction k generalizing v with
  | zero => rfl
  | succ k ih => simp [fixW, ih]
theorem fixW_byt (v k : Nat) : Byt (fixW v k) := by
  induction k generalizing v with
  | zero => exact byt_nil
  | succ k ih =>
    refine byt_append (ih _) (fun x hx => ?_)
    simp at hx
    omega
def foldB (l : List Int) : Int := l.foldl (fun v b => 256 * v + b) 0
theorem foldB_snoc (l : List Int) (x : Int) : foldB (l ++ [x]) = 256 * foldB l + x := by simp [foldB]
theorem foldB_fix (k v : Nat) : foldB (fixW v k) = ((v % 256 ^ k : Nat) : Int) := by
  induction k generalizing v with
  | zero => simp [fixW, foldB, Nat.mod_one]
  | succ k ih =>
    rw [fixW, foldB_snoc, ih]
    have : v % 256 ^ (k + 1) = 256 * (v / 256 % 256 ^ k) + v % 256 := by
      rw [Nat.pow_succ, Nat.mul_comm, Nat.mod_mul]
      omega
    rw [this]
    omega
theorem snoc_ind {p : List Int → Prop} (h0 : p []) (h1 : ∀ l x, p l → p (l ++ [x])) (l : List Int) : p l := by
  have h : ∀ m : List Int, p m.reverse := by
    intro m
    induction m with
    | nil => exact h0
    | cons x t ih => rw [List.reverse_cons]; exact h1 _ x ih
  have := h l.reverse
  rwa [List.reverse_reverse] at this
theorem foldB_bound {l : List Int} (h : Byt l) : 0 ≤ foldB l ∧ foldB l < 256 ^ l.length := by
  revert h
  induction l using snoc_ind with
  | h0 => simp [foldB]
  | h1 l x ih =>
    intro h
    have hx := h x (by simp)
    have := ih (fun y hy => h y (by simp [hy]))
    rw [foldB_snoc, List.length_append, List.length_singleton, Int.pow_succ]
    omega
/-- Bytes with how many they are ahead of them. -/
def txtW (b : List Int) : List Int := numW b.length ++ b

/-- The number at the beginning of bytes; how many it has; an error. n: how many were read; v: of them; u: 128 ^ n. -/
def numR : List Int → Nat → Nat → Nat → Nat × Nat × Nat
  | [], n, _, _ => if n = 5 then (0, 0, 11) else (0, 0, 10)
  | c :: t, n, v, u => if n = 5 then (0, 0, 11) else if c < 128 then (if v + c.toNat % 128 * u > 2147483647 ∨ (0 < n ∧ c = 0) then (0, 0, 11) else (v + c.toNat % 128 * u, n + 1, 0)) else numR t (n + 1) (v + c.toNat % 128 * u) (u * 128)
theorem numR_five (l : List Int) (v u : Nat) : numR l 5 v u = (0, 0, 11) := by cases l <;> simp [numR]
theorem numR_write (t : List Int) : ∀ (m x : Nat), x ≤ m → ∀ (n v u : Nat), n + (numW x).length ≤ 5 → v + x * u ≤ 2147483647 → (0 < n → x ≠ 0) → numR (numW x ++ t) n v u = (v + x * u, n + (numW x).length, 0) := by
  intro m
  induction m with
  | zero =>
    intro x hx n v u hn hv h0
    have : x = 0 := by omega
    subst this
    rw [numW_small (by omega)] at hn ⊢
    have hn0 : n = 0 := by
      rcases Nat.eq_zero_or_pos n with h | h
      · exact h
      · exact absurd rfl (h0 h)
    subst hn0
    simp [numR]
    omega
  | succ m ih =>
    intro x hx n v u hn hv h0
    by_cases h : x < 128
    · rw [numW_small h] at hn ⊢
      simp only [List.length_singleton] at hn ⊢
      rw [List.singleton_append, numR, if_neg (by omega), if_pos (by omega), if_neg]
      · rw [Int.toNat_natCast, Nat.mod_eq_of_lt h]
      · rw [Int.toNat_natCast, Nat.mod_eq_of_lt h]
        rintro (h1 | ⟨h1, h2⟩)
        · omega
        · exact h0 h1 (by omega)
    · rw [numW_big (by omega)] at hn ⊢
      rw [List.length_cons] at hn ⊢
      have hp := numW_pos (x / 128)
      have e : v + x * u = (v + (x % 128) * u) + (x / 128) * (u * 128) := by
        conv => lhs; rw [← Nat.div_add_mod x 128]
        rw [Nat.add_mul, Nat.mul_comm 128, Nat.mul_assoc, Nat.mul_comm 128 u]; omega
      rw [List.cons_append, numR, if_neg (by omega), if_neg (by omega), Int.toNat_natCast, show (128 + x % 128) % 128 = x % 128 by omega,
        ih (x / 128) (by omega) (n + 1) _ _ (by omega) (by rw [← e]; exact hv) (by omega), ← e]
      congr 2
      omega
theorem numR_le : ∀ (l : List Int) (n v u x k : Nat), n ≤ 5 → numR l n v u = (x, k, 0) → n < k ∧ k ≤ n + l.length ∧ k ≤ 5 ∧ x ≤ 2147483647
  | [], n, v, u, x, k, _, h => by
    rw [numR] at h
    split at h <;> simp at h
  | c :: t, n, v, u, x, k, h5, h => by
    rw [numR] at h
    split at h
    · simp at h
    · split at h
      · split at h
        · simp at h
        · injection h with h1 h2
          injection h2 with h2 _
          simp
          omega
      · have := numR_le t (n + 1) _ _ x k (by omega) h
        simp
        omega
theorem numR_zero : ∀ (l : List Int) (n v u x k e : Nat), numR l n v u = (x, k, e) → e ≠ 0 → x = 0 ∧ k = 0
  | [], n, v, u, x, k, e, h, he => by
    rw [numR] at h
    split at h <;> (injection h with h1 h2; injection h2 with h2 _; exact ⟨h1.symm, h2.symm⟩)
  | c :: t, n, v, u, x, k, e, h, he => by
    rw [numR] at h
    split at h
    · injection h with h1 h2; injection h2 with h2 _; exact ⟨h1.symm, h2.symm⟩
    · split at h
      · split at h
        · injection h with h1 h2; injection h2 with h2 _; exact ⟨h1.symm, h2.symm⟩
        · injection h with h1 h2; injection h2 with h2 h3; exact absurd h3.symm he
      · exact numR_zero t (n + 1) _ _ x k e h he

/-- A reader: what there is, where it stands, the first error and where. -/
structure RS where
  data : List Int
  at_ : Nat
  code : Nat
  place : Nat
def RS.rest (s : RS) : List Int := s.data.drop s.at_
def RS.bad (s : RS) (e : Nat) : RS := { s with code := e, place := s.at_ }
def RS.on (s : RS) (n : Nat) : RS := { s with at_ := s.at_ + n }
def RS.raw (s : RS) (n : Nat) : List Int × RS :=
  if s.code ≠ 0 then ([], s) else if s.data.length - s.at_ < n then ([], s.bad 10) else (s.rest.take n, s.on n)
def RS.fixed (s : RS) (w : Nat) : Int × RS := (foldB (s.raw w).1, (s.raw w).2)
def RS.num (s : RS) : Nat × RS :=
  if s.code ≠ 0 then (0, s) else if (numR s.rest 0 0 1).2.2 ≠ 0 then (0, s.bad (numR s.rest 0 0 1).2.2) else ((numR s.rest 0 0 1).1, s.on (numR s.rest 0 0 1).2.1)
def RS.text (s : RS) (most : Nat) : List Int × RS :=
  if s.code ≠ 0 then ([], s)
  else if (numR s.rest 0 0 1).2.2 ≠ 0 then ([], s.bad (numR s.rest 0 0 1).2.2)
  else if most < (numR s.rest 0 0 1).1 then ([], s.bad 2)
  else if s.data.length - s.at_ - (numR s.rest 0 0 1).2.1 < (numR s.rest 0 0 1).1 then ([], s.bad 10)
  else ((s.rest.drop (numR s.rest 0 0 1).2.1).take (numR s.rest 0 0 1).1, s.on ((numR s.rest 0 0 1).2.1 + (numR s.rest 0 0 1).1))
def RS.left (s : RS) : Nat := if s.code ≠ 0 then 0 else s.data.length - s.at_
def RS.start (d : List Int) : RS := ⟨d, 0, 0, 0⟩
/-- A reader that is at these bytes. -/
structure RS.At (s : RS) (l : List Int) : Prop where
  code : s.code = 0
  rest : s.rest = l
theorem RS.at_start (d : List Int) : (RS.start d).At d := ⟨rfl, rfl⟩
theorem RS.At.len {s : RS} {a b : List Int} (h : s.At (a ++ b)) : a.length + b.length ≤ s.data.length - s.at_ := by
  have := congrArg List.length h.rest
  rw [RS.rest, List.length_drop, List.length_append] at this
  omega
theorem RS.At.on {s : RS} {a b : List Int} (h : s.At (a ++ b)) : (s.on a.length).At b := ⟨h.code, by
  have := congrArg (List.drop a.length) h.rest
  rw [RS.rest, List.drop_drop, List.drop_append_of_le_length (Nat.le_refl _), List.drop_length, List.nil_append] at this
  exact this⟩
theorem RS.At.raw {s : RS} {a b : List Int} (h : s.At (a ++ b)) : s.raw a.length = (a, s.on a.length) := by
  have := h.len
  rw [RS.raw, if_neg (by simp [h.code]), if_neg (by omega), h.rest, List.take_append_of_le_length (Nat.le_refl _), List.take_length]
theorem RS.At.fixed {s : RS} {v k : Nat} {b : List Int} (h : s.At (fixW v k ++ b)) (hv : v < 256 ^ k) : s.fixed k = ((v : Int), s.on k) := by
  have h1 := h.raw
  rw [fixW_length] at h1
  rw [RS.fixed, h1, foldB_fix, Nat.mod_eq_of_lt hv]
theorem RS.At.num {s : RS} {v : Nat} {b : List Int} (h : s.At (numW v ++ b)) (hv : v ≤ 2147483647) : s.num = (v, s.on (numW v).length) := by
  have h1 := numR_write b v v (Nat.le_refl _) 0 0 1 (by have := numW_max hv; omega) (by omega) (by omega)
  rw [RS.num, if_neg (by simp [h.code]), h.rest, h1]
  simp
theorem RS.At.text {s : RS} {a b : List Int} {most : Nat} (h : s.At (txtW a ++ b)) (hv : a.length ≤ 2147483647) (hm : a.length ≤ most) : s.text most = (a, s.on (txtW a).length) := by
  have h1 := numR_write (a ++ b) a.length a.length (Nat.le_refl _) 0 0 1 (by have := numW_max hv; omega) (by omega) (by omega)
  have hr : s.rest = numW a.length ++ (a ++ b) := by rw [h.rest, txtW, List.append_assoc]
  have hl := h.len
  rw [txtW, List.length_append] at hl
  simp only [Nat.zero_add, Nat.mul_one] at h1
  rw [RS.text, if_neg (by simp [h.code]), hr, h1]
  simp only []
  rw [if_neg (by simp), if_neg (by omega), if_neg (by omega), List.drop_append_of_le_length (Nat.le_refl _), List.drop_length, List.nil_append, List.take_append_of_le_length (Nat.le_refl _), List.take_length, txtW, List.length_append]

/-! ### Tables -/
def resW (r : Res) : List Int := r.act ++ (r.root ++ [r.code])
theorem resW_length {r : Res} (h : ResOk r) : (resW r).length = 65 := by simp [resW, h.act.len, h.root.len]
def tabW (rs : List Res) : List Int := numW rs.length ++ rs.flatMap resW
theorem flatRes_length {rs : List Res} (h : ∀ r ∈ rs, ResOk r) : (rs.flatMap resW).length = 65 * rs.length := by
  induction rs with
  | nil => rfl
  | cons r t ih =>
    rw [List.flatMap_cons, List.length_append, resW_length (h r (by simp)), ih (fun q hq => h q (by simp [hq])), List.length_cons]
    omega
end Go.Proofs.YtdekmeanlcpenaaGreatDoor.Codec

namespace Go.Proofs.YtdekmeanlcpenaaGreatDoor.Block

/-- One bit of the sum. -/
def f1 (r : Nat) : Nat := if r % 2 = 1 then (r / 2) ^^^ 3988292384 else r / 2
def f4 (r : Nat) : Nat := f1 (f1 (f1 (f1 r)))
/-- The register behind so many bytes. -/
def sumR : List Int → Nat → Nat
  | [], r => r
  | x :: t, r => sumR t (f4 (f4 (r ^^^ x.toNat)))
def sumS (l : List Int) : Nat := 4294967295 - sumR l 4294967295

theorem f1_xor (a b : Nat) : f1 (a ^^^ b) = f1 a ^^^ f1 b := by
  unfold f1
  have h := @Nat.xor_mod_two_eq_one a b
  have h2 : (a ^^^ b) / 2 = a / 2 ^^^ b / 2 := Nat.xor_div_two
  rw [h2]
  generalize a / 2 = x
  generalize b / 2 = y
  generalize (3988292384 : Nat) = p
  by_cases ha : a % 2 = 1 <;> by_cases hb : b % 2 = 1
  · rw [if_neg (by rw [h]; simp [ha, hb]), if_pos ha, if_pos hb]
    rw [Nat.xor_assoc, ← Nat.xor_assoc p, Nat.xor_comm p y, Nat.xor_assoc y, Nat.xor_self, Nat.xor_zero]
  · rw [if_pos (by rw [h]; simp [ha, hb]), if_pos ha, if_neg hb, Nat.xor_assoc, Nat.xor_comm y p, Nat.xor_assoc]
  · rw [if_pos (by rw [h]; simp [ha, hb]), if_neg ha, if_pos hb, Nat.xor_assoc]
  · rw [if_neg (by rw [h]; simp [ha, hb]), if_neg ha, if_neg hb]
theorem f4_xor (a b : Nat) : f4 (a ^^^ b) = f4 a ^^^ f4 b := by simp [f4, f1_xor]
theorem f1_even (q : Nat) : f1 (2 * q) = q := by
  unfold f1
  rw [if_neg (by omega)]; omega
theorem f4_16 (q : Nat) : f4 (16 * q) = q := by
  unfold f4
  rw [show 16 * q = 2 * (2 * (2 * (2 * q))) by omega, f1_even, f1_even, f1_even, f1_even]
theorem split16 (r : Nat) : r = (16 * (r / 16)) ^^^ (r % 16) := by
  have h1 : r % 16 < 2 ^ 4 := by omega
  have := Nat.two_pow_add_eq_or_of_lt h1 (r / 16)
  have h3 : 16 * (r / 16) ||| r % 16 = (16 * (r / 16)) ^^^ (r % 16) := by
    apply Nat.eq_of_testBit_eq
    intro i
    rw [Nat.testBit_or, Nat.testBit_xor]
    by_cases hi : i < 4
    · have : (16 * (r / 16)).testBit i = false := by
        have e : 16 * (r / 16) = 2 ^ 4 * (r / 16) := rfl
        rw [e, Nat.testBit_two_pow_mul]; simp; omega
      rw [this]; simp
    · have : (r % 16).testBit i = false := Nat.testBit_lt_two_pow (Nat.lt_of_lt_of_le h1 (Nat.pow_le_pow_right (by omega) (by omega)))
      rw [this]; simp
  have h5 : 16 * (r / 16) ||| r % 16 = 16 * (r / 16) + r % 16 := this.symm
  rw [← h3, h5]
  omega
/-- Four bits at once, out of the table. -/
theorem f4_table (r : Nat) : f4 r = r / 16 ^^^ f4 (r % 16) := by
  conv => lhs; rw [split16 r]
  rw [f4_xor, f4_16]
theorem f1_lt {r : Nat} (h : r < 4294967296) : f1 r < 4294967296 := by
  unfold f1
  split
  · exact Nat.xor_lt_two_pow (n := 32) (by omega) (by omega)
  · omega
theorem f4_lt {r : Nat} (h : r < 4294967296) : f4 r < 4294967296 := f1_lt (f1_lt (f1_lt (f1_lt h)))
theorem xor_mask {r : Nat} (h : r < 4294967296) : r ^^^ 4294967295 = 4294967295 - r := by
  have h1 : (BitVec.ofNat 32 r ^^^ BitVec.allOnes 32).toNat = (~~~ (BitVec.ofNat 32 r)).toNat := by rw [BitVec.xor_allOnes]
  rw [BitVec.toNat_xor, BitVec.toNat_not, BitVec.toNat_ofNat, BitVec.toNat_allOnes, Nat.mod_eq_of_lt h] at h1
  exact h1

end Go.Proofs.YtdekmeanlcpenaaGreatDoor.Block

namespace Go.Proofs.YtdekmeanlcpenaaGreatDoor.Codec
open Go.Proofs.YtdekmeanlcpenaaGreatDoor.Mid Go.Proofs.YtdekmeanlcpenaaGreatDoor.Block

theorem tab_len {rs : List Res} (T : Table rs) (h : ∀ r ∈ rs, ResOk r) : (tabW rs).length = 1 + 65 * rs.length := by
  rw [tabW, List.length_append, flatRes_length h, numW_small (by have := T.most; omega)]
  rfl
theorem tab_le {rs : List Res} (T : Table rs) (h : ∀ r ∈ rs, ResOk r) : (tabW rs).length ≤ 2081 := by rw [tab_len T h]; have := T.most; omega
theorem resW_inj {r s : Res} (hr : ResOk r) (hs : ResOk s) {a b : List Int} (h : resW r ++ a = resW s ++ b) : r = s ∧ a = b := by
  have h1 := List.append_inj h (by rw [resW_length hr, resW_length hs])
  refine ⟨?_, h1.2⟩
  have h2 := List.append_inj h1.1 (by rw [hr.act.len, hs.act.len])
  have h3 := List.append_inj h2.2 (by rw [hr.root.len, hs.root.len])
  cases r; cases s
  simp_all
theorem flatRes_inj : ∀ {rs ss : List Res}, rs.length = ss.length → (∀ r ∈ rs, ResOk r) → (∀ r ∈ ss, ResOk r) → rs.flatMap resW = ss.flatMap resW → rs = ss
  | [], [], _, _, _, _ => rfl
  | r :: rs, s :: ss, hl, h1, h2, h => by
    rw [List.flatMap_cons, List.flatMap_cons] at h
    obtain ⟨e1, e2⟩ := resW_inj (h1 r (by simp)) (h2 s (by simp)) h
    rw [e1, flatRes_inj (by simpa using hl) (fun q hq => h1 q (by simp [hq])) (fun q hq => h2 q (by simp [hq])) e2]
theorem tab_inj {rs ss : List Res} (T : Table rs) (U : Table ss) (h1 : ∀ r ∈ rs, ResOk r) (h2 : ∀ r ∈ ss, ResOk r) (h : tabW rs = tabW ss) : rs = ss := by
  have hl : rs.length = ss.length := by
    have := congrArg List.length h
    rw [tab_len T h1, tab_len U h2] at this
    omega
  refine flatRes_inj hl h1 h2 ?_
  rw [tabW, tabW, hl] at h
  exact List.append_cancel_left h
theorem tab_byt {rs : List Res} (T : Table rs) (h : ∀ r ∈ rs, ResOk r) : Byt (tabW rs) := by
  refine byt_append (numW_byt _ _ (Nat.le_refl _)) (fun x hx => ?_)
  obtain ⟨r, hr, hx⟩ := List.mem_flatMap.1 hx
  rw [resW] at hx
  rcases List.mem_append.1 hx with hx | hx
  · exact (h r hr).act.bytes x hx
  · rcases List.mem_append.1 hx with hx | hx
    · exact (h r hr).root.bytes x hx
    · rw [List.mem_singleton.1 hx]
      exact T.code r hr

/-! ### Journals -/
def sBytes (s : ByteArray) : List Int := s.data.toList.map fun c => (c.toNat : Int)
theorem sBytes_length (s : ByteArray) : (sBytes s).length = s.size := by simp [sBytes]
theorem sBytes_byt (s : ByteArray) : Byt (sBytes s) := fun x hx => by
  obtain ⟨c, _, rfl⟩ := List.mem_map.1 hx
  have := c.toNat_lt
  omega
theorem sBytes_inj {s t : ByteArray} (h : sBytes s = sBytes t) : s = t := by
  have h1 : s.data.toList = t.data.toList := (List.map_inj_right (f := fun c : UInt8 => (c.toNat : Int)) (by intro a b e; exact UInt8.toNat_inj.1 (Int.ofNat.inj e))).1 h
  cases s; cases t
  simp at h1
  rw [h1]
/-- A letter of a name. -/
def okC (c : UInt8) : Bool := (97 ≤ c && c ≤ 122) || (48 ≤ c && c ≤ 57) || c == 46 || c == 45 || c == 95 || c == 43
structure NameOk (s : ByteArray) : Prop where
  pos : 0 < s.size
  most : s.size ≤ 112
  all : ∀ (i : Nat) c, s.data.toList[i]? = some c → okC c = true
def Rises (ids : List (List Int)) : Prop := ∀ (i : Nat) x y, ids[i]? = some x → ids[i + 1]? = some y → cmp x y < 0
structure Jn where
  name : ByteArray
  ent : Int
  idx : Int
  res : List Res
  need : List (List Int)
  tab : List Res
/-- What a journal in memory has. -/
structure JnOk (j : Jn) : Prop where
  res : ∀ r ∈ j.res, ResOk r
  need : ∀ x ∈ j.need, IdOk x
  tab : ∀ r ∈ j.tab, ResOk r
/-- It may be. -/
structure JnV (j : Jn) : Prop where
  name : NameOk j.name
  ent : 0 ≤ j.ent ∧ j.ent ≤ 4294967295
  idx : 0 ≤ j.idx ∧ j.idx ≤ 4294967295
  res : Table j.res
  tab : Table j.tab
  most : j.need.length ≤ 64
  rise : Rises j.need
def bodyW (j : Jn) : List Int := fixW 74 1 ++ (txtW (sBytes j.name) ++ (fixW j.ent.toNat 4 ++ (fixW j.idx.toNat 4 ++ (txtW (tabW j.res) ++ (numW j.need.length ++ (j.need.flatten ++ txtW (tabW j.tab)))))))
def encW (j : Jn) : List Int := bodyW j ++ fixW (sumS (bodyW j)) 4
theorem ids_length : ∀ {ids : List (List Int)}, (∀ x ∈ ids, IdOk x) → ids.flatten.length = 32 * ids.length
  | [], _ => rfl
  | x :: t, h => by
    rw [List.flatten_cons, List.length_append, (h x (by simp)).len, ids_length (fun y hy => h y (by simp [hy])), List.length_cons]
    omega
theorem ids_byt {ids : List (List Int)} (h : ∀ x ∈ ids, IdOk x) : Byt ids.flatten := fun x hx => by
  obtain ⟨l, hl, hx⟩ := List.mem_flatten.1 hx
  exact (h l hl).bytes x hx
theorem txt_byt {l : List Int} (h : Byt l) : Byt (txtW l) := byt_append (numW_byt _ _ (Nat.le_refl _)) h
theorem body_byt {j : Jn} (V : JnV j) (K : JnOk j) : Byt (bodyW j) :=
  byt_append (fixW_byt _ _) (byt_append (txt_byt (sBytes_byt _)) (byt_append (fixW_byt _ _) (byt_append (fixW_byt _ _) (byt_append (txt_byt (tab_byt V.res K.res)) (byt_append (numW_byt _ _ (Nat.le_refl _)) (byt_append (ids_byt K.need) (txt_byt (tab_byt V.tab K.tab))))))))
theorem enc_byt {j : Jn} (V : JnV j) (K : JnOk j) : Byt (encW j) := byt_append (body_byt V K) (fixW_byt _ _)
theorem txt_le {l : List Int} {m : Nat} (h : l.length ≤ m) (hm : m ≤ 2147483647) : (txtW l).length ≤ m + 5 := by
  rw [txtW, List.length_append]
  have := numW_max (v := l.length) (by omega)
  omega
theorem body_le {j : Jn} (V : JnV j) (K : JnOk j) : (bodyW j).length ≤ 8000 := by
  have h1 := txt_le (l := sBytes j.name) (m := 112) (by rw [sBytes_length]; exact V.name.most) (by omega)
  have h2 := txt_le (tab_le V.res K.res) (by omega)
  have h3 := txt_le (tab_le V.tab K.tab) (by omega)
  have h4 := numW_max (v := j.need.length) (by have := V.most; omega)
  have h5 := ids_length K.need
  have h6 := V.most
  simp only [bodyW, List.length_append, fixW_length]
  omega
theorem enc_le {j : Jn} (V : JnV j) (K : JnOk j) : (encW j).length ≤ 8004 := by
  rw [encW, List.length_append, fixW_length]; have := body_le V K; omega
theorem sumS_lt (l : List Int) : sumS l < 4294967296 := by unfold sumS; omega

/-! ### Reading it again -/
def pad32 (l : List Int) : List Int := l ++ List.replicate (32 - l.length) 0
theorem pad32_id {x : List Int} (h : x.length = 32) : pad32 x = x := by rw [pad32, h]; simp
theorem pad32_ok {l : List Int} (hl : l.length ≤ 32) (h : Byt l) : IdOk (pad32 l) := ⟨by rw [pad32, List.length_append, List.length_replicate]; omega, byt_append h (fun x hx => by rw [List.eq_of_mem_replicate hx]; omega)⟩
def needS : Nat → RS → List (List Int) × RS
  | 0, s => ([], s)
  | k + 1, s => (pad32 (s.raw 32).1 :: (needS k (s.raw 32).2).1, (needS k (s.raw 32).2).2)
theorem needS_snoc : ∀ (k : Nat) (s : RS), needS (k + 1) s = ((needS k s).1 ++ [pad32 ((needS k s).2.raw 32).1], ((needS k s).2.raw 32).2)
  | 0, s => rfl
  | k + 1, s => by
    have ih := needS_snoc k (s.raw 32).2
    rw [needS, ih]
    rfl
theorem needS_at : ∀ {ids : List (List Int)} {s : RS} {b : List Int}, (∀ x ∈ ids, IdOk x) → s.At (ids.flatten ++ b) → (needS ids.length s).1 = ids ∧ (needS ids.length s).2.At b
  | [], s, b, _, h => ⟨rfl, h⟩
  | x :: t, s, b, hk, h => by
    rw [List.flatten_cons, List.append_assoc] at h
    have hx := hk x (by simp)
    have h1 := h.raw
    rw [hx.len] at h1
    have h2 := h.on
    rw [hx.len] at h2
    have ih := needS_at (fun y hy => hk y (by simp [hy])) h2
    rw [List.length_cons, needS, h1]
    exact ⟨by rw [ih.1, pad32_id hx.len], ih.2⟩
/-- What a reader reads out of a journal's form. -/
structure GotEnc (j : Jn) (x1 : Int) (x2 : List Int) (x3 x4 : Int) (x5 : List Int) (n : Nat) (x7 : List (List Int)) (x8 : List Int) (s : RS) (t : List Int) : Prop where
  first : x1 = 74
  name : x2 = sBytes j.name
  ent : x3 = j.ent
  idx : x4 = j.idx
  res : x5 = tabW j.res
  many : n = j.need.length
  need : x7 = j.need
  tab : x8 = tabW j.tab
  stop : s.At (fixW (sumS (bodyW j)) 4 ++ t)
theorem got_enc {j : Jn} (V : JnV j) (K : JnOk j) {most : Nat} (hm : 112 ≤ most) {data t : List Int} (hd : encW j ++ t = data) {x1 x3 x4 : Int} {x2 x5 x8 : List Int} {n k : Nat} {x7 : List (List Int)} {s1 s2 s3 s4 s5 s6 s7 s8 : RS}
    (e1 : (RS.start data).fixed 1 = (x1, s1)) (e2 : s1.text most = (x2, s2)) (e3 : s2.fixed 4 = (x3, s3)) (e4 : s3.fixed 4 = (x4, s4)) (e5 : s4.text data.length = (x5, s5)) (e6 : s5.num = (n, s6)) (hk : n ≤ 64 → k = n) (e7 : needS k s6 = (x7, s7)) (e8 : s7.text data.length = (x8, s8)) :
    GotEnc j x1 x2 x3 x4 x5 n x7 x8 s8 t := by
  have hl : data.length = (encW j ++ t).length := by rw [hd]
  have hlen : (txtW (tabW j.res)).length ≤ data.length ∧ (txtW (tabW j.tab)).length ≤ data.length := by
    rw [hl]; simp only [encW, bodyW, List.length_append]; omega
  have ht1 : (tabW j.res).length ≤ (txtW (tabW j.res)).length := by rw [txtW, List.length_append]; omega
  have ht2 : (tabW j.tab).length ≤ (txtW (tabW j.tab)).length := by rw [txtW, List.length_append]; omega
  have a0 := RS.at_start data
  rw [← hd] at a0 e1
  have a0' : (RS.start (encW j ++ t)).At (fixW 74 1 ++ (txtW (sBytes j.name) ++ (fixW j.ent.toNat 4 ++ (fixW j.idx.toNat 4 ++ (txtW (tabW j.res) ++ (numW j.need.length ++ (j.need.flatten ++ (txtW (tabW j.tab) ++ (fixW (sumS (bodyW j)) 4 ++ t))))))))) := by
    have : encW j ++ t = fixW 74 1 ++ (txtW (sBytes j.name) ++ (fixW j.ent.toNat 4 ++ (fixW j.idx.toNat 4 ++ (txtW (tabW j.res) ++ (numW j.need.length ++ (j.need.flatten ++ (txtW (tabW j.tab) ++ (fixW (sumS (bodyW j)) 4 ++ t)))))))) := by
      simp only [encW, bodyW, List.append_assoc]
    rw [← this]; exact RS.at_start _
  have f1 := a0'.fixed (by decide : (74 : Nat) < 256 ^ 1)
  rw [e1] at f1
  injection f1 with g1 g1'
  have a1 := a0'.on
  rw [fixW_length, ← g1'] at a1
  have f2 := a1.text (most := most) (by rw [sBytes_length]; have := V.name.most; omega) (by rw [sBytes_length]; have := V.name.most; omega)
  rw [e2] at f2
  injection f2 with g2 g2'
  have a2 := a1.on
  rw [← g2'] at a2
  have f3 := a2.fixed (by have := V.ent; omega)
  rw [e3] at f3
  injection f3 with g3 g3'
  have a3 := a2.on
  rw [fixW_length, ← g3'] at a3
  have f4 := a3.fixed (by have := V.idx; omega)
  rw [e4] at f4
  injection f4 with g4 g4'
  have a4 := a3.on
  rw [fixW_length, ← g4'] at a4
  have f5 := a4.text (most := data.length) (by have := tab_le V.res K.res; omega) (by omega)
  rw [e5] at f5
  injection f5 with g5 g5'
  have a5 := a4.on
  rw [← g5'] at a5
  have f6 := a5.num (by have := V.most; omega)
  rw [e6] at f6
  injection f6 with g6 g6'
  have a6 := a5.on
  rw [← g6'] at a6
  have hkn := hk (by rw [g6]; exact V.most)
  have f7 := needS_at K.need a6
  rw [← g6, ← hkn, e7] at f7
  have f8 := f7.2.text (most := data.length) (by have := tab_le V.tab K.tab; omega) (by omega)
  rw [e8] at f8
  injection f8 with g8 g8'
  have a8 := f7.2.on
  simp only at g8'
  rw [← g8'] at a8
  exact ⟨g1, g2, by rw [g3]; have := V.ent; omega, by rw [g4]; have := V.idx; omega, g5, g6, f7.1, g8, a8⟩
theorem GotEnc.last {j : Jn} {x1 x3 x4 : Int} {x2 x5 x8 : List Int} {n : Nat} {x7 : List (List Int)} {s s9 : RS} {x9 : Int} (G : GotEnc j x1 x2 x3 x4 x5 n x7 x8 s []) (e9 : s.fixed 4 = (x9, s9)) : s9.code = 0 ∧ s9.left = 0 := by
  have h := G.stop
  have f := h.fixed (by have := sumS_lt (bodyW j); omega)
  rw [e9] at f
  injection f with _ f
  have a := h.on
  rw [fixW_length, ← f] at a
  refine ⟨a.code, ?_⟩
  have := congrArg List.length a.rest
  rw [RS.rest, List.length_drop] at this
  rw [RS.left, if_neg (by simp [a.code])]
  simpa using this
/-- A journal is told by the beginning of its form. -/
theorem enc_inj' {i j : Jn} (V : JnV i) (K : JnOk i) (V' : JnV j) (K' : JnOk j) {t : List Int} (h : encW i ++ t = encW j) : i = j := by
  obtain ⟨data, hd⟩ : ∃ data, encW j ++ [] = data := ⟨_, rfl⟩
  have h' : encW i ++ t = data := by rw [h, ← hd, List.append_nil]
  obtain ⟨⟨x1, s1⟩, e1⟩ : ∃ p, (RS.start data).fixed 1 = p := ⟨_, rfl⟩
  obtain ⟨⟨x2, s2⟩, e2⟩ : ∃ p, s1.text 112 = p := ⟨_, rfl⟩
  obtain ⟨⟨x3, s3⟩, e3⟩ : ∃ p, s2.fixed 4 = p := ⟨_, rfl⟩
  obtain ⟨⟨x4, s4⟩, e4⟩ : ∃ p, s3.fixed 4 = p := ⟨_, rfl⟩
  obtain ⟨⟨x5, s5⟩, e5⟩ : ∃ p, s4.text data.length = p := ⟨_, rfl⟩
  obtain ⟨⟨n, s6⟩, e6⟩ : ∃ p, s5.num = p := ⟨_, rfl⟩
  obtain ⟨⟨x7, s7⟩, e7⟩ : ∃ p, needS n s6 = p := ⟨_, rfl⟩
  obtain ⟨⟨x8, s8⟩, e8⟩ : ∃ p, s7.text data.length = p := ⟨_, rfl⟩
  have G := got_enc V K (Nat.le_refl _) h' e1 e2 e3 e4 e5 e6 (fun _ => rfl) e7 e8
  have H := got_enc V' K' (Nat.le_refl _) hd e1 e2 e3 e4 e5 e6 (fun _ => rfl) e7 e8
  have r1 := sBytes_inj (G.name.symm.trans H.name)
  have r2 := G.ent.symm.trans H.ent
  have r3 := G.idx.symm.trans H.idx
  have r4 := tab_inj V.res V'.res K.res K'.res (G.res.symm.trans H.res)
  have r5 := G.need.symm.trans H.need
  have r6 := tab_inj V.tab V'.tab K.tab K'.tab (G.tab.symm.trans H.tab)
  cases i; cases j
  simp only at r1 r2 r3 r4 r5 r6
  subst r1 r2 r3 r4 r5 r6
  rfl
theorem enc_inj {i j : Jn} (V : JnV i) (K : JnOk i) (V' : JnV j) (K' : JnOk j) (h : encW i = encW j) : i = j := enc_inj' V K V' K' (t := []) (by rw [List.append_nil, h])
end Go.Proofs.YtdekmeanlcpenaaGreatDoor.Codec

namespace Go.Proofs.YtdekmeanlcpenaaGreatDoor.Codec
open Go.RowKit Go.Proofs.YtdekmeanlcpenaaGreatDoorW.PrintWords Go.Proofs.YtdekmeanlcpenaaGreatDoor.Block Go.Proofs.YtdekmeanlcpenaaGreatDoor.PIntakeEncodes
theorem w64i {x : Int} (h0 : -9223372036854775808 ≤ x) (h1 : x ≤ 9223372036854775807) : wrap64 x = x := IntWalk.wrap64_in x ⟨h0, h1⟩
theorem number_l0 : ∀ (k v : Nat) (out : List Int), v < 128 ^ k → v ≤ 9223372036854775807 → out.length + k < 140737488355328 → freightref1_Number.l0 (k + 1) (v : Int) out = some (out ++ numW v)
  | 0, v, out, h, _, hl => by
    have h0 : v = 0 := by simpa using h
    subst h0
    unfold freightref1_Number.l0
    rw [if_neg (by decide), if_pos (by omega), numW_small (by decide)]
    rfl
  | k + 1, v, out, h, hv, hl => by
    unfold freightref1_Number.l0
    by_cases h1 : v < 128
    · rw [if_neg (by omega), if_pos (by omega), numW_small h1]
      congr 3
      omega
    · rw [if_pos (by omega), if_pos (by omega)]
      have e1 : Int.tdiv (v : Int) 128 = ((v / 128 : Nat) : Int) := by rw [Int.tdiv_eq_ediv_of_nonneg (by omega)]; omega
      have e2 : Int.tmod (v : Int) 128 = ((v % 128 : Nat) : Int) := by rw [Int.tmod_eq_emod_of_nonneg (by omega)]; omega
      rw [e1, e2, w64i (by omega) (by omega), w64i (by omega) (by omega)]
      have ih := number_l0 k (v / 128) (out ++ [(128 + ((v % 128 : Nat) : Int)) % 256]) (Nat.div_lt_of_lt_mul (by rw [Nat.pow_succ, Nat.mul_comm] at h; exact h)) (by omega) (by simp; omega)
      rw [ih, numW_big (show 128 ≤ v by omega), List.append_assoc]
      congr 3
      show _ :: numW (v / 128) = _
      congr 1
      omega
theorem number_f (v : Nat) (hv : v ≤ 2147483647) : freightref1_Number.f 6 (v : Int) = some (numW v) := by
  have := number_l0 5 v [] (Nat.lt_of_le_of_lt hv (by decide)) (by omega) (by simp)
  simpa [freightref1_Number.f] using this
theorem put_l0 (b : List Int) (hb : b.length ≤ 1000000) : ∀ (k i : Nat) (out : List Int), i + k = b.length → out.length + k < 140737488355328 → freightref16_put.l0 (k + 1) out b (i : Int) = some (out ++ b.drop i)
  | 0, i, out, h, hl => by
    unfold freightref16_put.l0
    rw [if_neg (by omega), List.drop_of_length_le (by omega), List.append_nil]
  | k + 1, i, out, h, hl => by
    unfold freightref16_put.l0
    rw [if_pos (by omega), if_pos (by omega), if_pos (by omega), w64i (by omega) (by omega)]
    have ih := put_l0 b hb k (i + 1) (out ++ [rd b (i : Int)]) (by omega) (by simp; omega)
    have e : ((i + 1 : Nat) : Int) = (i : Int) + 1 := by omega
    rw [← e, ih, List.append_assoc]
    have hd : b.drop i = rd b (i : Int) :: b.drop (i + 1) := by
      rw [List.drop_eq_getElem_cons (by omega : i < b.length)]
      congr 1
      rw [rd, Int.toNat_natCast, List.getD_eq_getElem?_getD, List.getElem?_eq_getElem (by omega)]
      rfl
    rw [hd]
    rfl
theorem put_f (a b : List Int) (ha : a.length ≤ 1000000) (hb : b.length ≤ 1000000) : freightref16_put.f (b.length + 1) a b = some (a ++ b) := by
  have := put_l0 b hb b.length 0 a (by omega) (by omega)
  simpa [freightref16_put.f] using this
theorem text_f (l : List Int) (hl : l.length ≤ 1000000) : freightref1_Text.f 6 l = some (txtW l) := by
  unfold freightref1_Text.f
  rw [number_f _ (by omega), Option.bind_some, if_pos (by have := numW_max (v := l.length) (by omega); omega)]
  rfl
theorem fixed_f (v : Nat) (hv : v < 4294967296) : freightref1_Fixed.f 5 (v : Int) 4 = some (fixW v 4) := by
  have e1 : ∀ v : Nat, Int.tdiv (v : Int) 256 = ((v / 256 : Nat) : Int) := fun v => by rw [Int.tdiv_eq_ediv_of_nonneg (by omega)]; omega
  have e2 : ∀ v : Nat, Int.tmod (v : Int) 256 = ((v % 256 : Nat) : Int) := fun v => by rw [Int.tmod_eq_emod_of_nonneg (by omega)]; omega
  have e3 : ∀ v : Nat, v < 4294967296 → wrap64 (v : Int) = (v : Int) := fun v h => w64i (by omega) (by omega)
  have e4 : ∀ v : Nat, (((v % 256 : Nat) : Int)) % 256 = ((v % 256 : Nat) : Int) := fun v => by omega
  have w3 : wrap64 (4 - 1) = 3 := by rw [w64i (by decide) (by decide)]; rfl
  have w2 : wrap64 (3 - 1) = 2 := by rw [w64i (by decide) (by decide)]; rfl
  have w1 : wrap64 (2 - 1) = 1 := by rw [w64i (by decide) (by decide)]; rfl
  have w0 : wrap64 (1 - 1) = 0 := by rw [w64i (by decide) (by decide)]; rfl
  have wm : wrap64 (0 - 1) = -1 := by rw [w64i (by decide) (by decide)]; rfl
  unfold freightref1_Fixed.f
  rw [if_pos (by decide), if_pos (by decide), w3]
  unfold freightref1_Fixed.l0
  rw [if_pos (by decide), if_pos (by decide), if_pos (by decide), e1, e2, e4, e3 _ (by omega), w2]
  unfold freightref1_Fixed.l0
  rw [if_pos (by decide), if_pos (by decide), if_pos (by simp), e1, e2, e4, e3 _ (by omega), w1]
  unfold freightref1_Fixed.l0
  rw [if_pos (by decide), if_pos (by decide), if_pos (by simp), e1, e2, e4, e3 _ (by omega), w0]
  unfold freightref1_Fixed.l0
  rw [if_pos (by decide), if_pos (by decide), if_pos (by simp), e1, e2, e4, e3 _ (by omega), wm]
  unfold freightref1_Fixed.l0
  rw [if_neg (by decide)]
  rfl
end Go.Proofs.YtdekmeanlcpenaaGreatDoor.Codec

namespace Go.Proofs.YtdekmeanlcpenaaGreatDoor.Codec
open Go.RowKit Go.Proofs.YtdekmeanlcpenaaGreatDoorW.PrintWords Go.Proofs.YtdekmeanlcpenaaGreatDoor.Block Go.Proofs.YtdekmeanlcpenaaGreatDoor.PIntakeEncodes
theorem ofInt_n64 (a : Nat) (ha : a < 18446744073709551616) : (BitVec.ofInt 64 (a : Int)).toNat = a := by
  rw [BitVec.toNat_ofInt]
  omega
theorem i64_xor_n (a b : Nat) (ha : a < 4294967296) (hb : b < 4294967296) : bits .xor .i64 (a : Int) (b : Int) = ((a ^^^ b : Nat) : Int) := by
  show IntKind.i64.wrap (((BitVec.ofInt 64 (a : Int)) ^^^ (BitVec.ofInt 64 (b : Int))).toNat : Int) = _
  have := Nat.xor_lt_two_pow (n := 32) ha hb
  rw [BitVec.toNat_xor, ofInt_n64 a (by omega), ofInt_n64 b (by omega), IntWalk.i64_in _ (by omega)]
theorem sum_l1 (x : List Int) (k r : Nat) (i q : Int) (hr : r < 4294967296) (h0 : 0 ≤ q) (hq : q < 8) : freightref1_Sum.l1 (k + 1) x (r : Int) i q = freightref1_Sum.l1 k x ((f1 r : Nat) : Int) i (q + 1) := by
  conv => lhs; unfold freightref1_Sum.l1
  have e1 : Int.tdiv (r : Int) 2 = ((r / 2 : Nat) : Int) := by rw [Int.tdiv_eq_ediv_of_nonneg (by omega)]; omega
  have e2 : Int.tmod (r : Int) 2 = ((r % 2 : Nat) : Int) := by rw [Int.tmod_eq_emod_of_nonneg (by omega)]; omega
  have e3 : (3988292384 : Int) = ((3988292384 : Nat) : Int) := rfl
  rw [if_pos hq, e1, e2, w64i (x := ((r / 2 : Nat) : Int)) (by omega) (by omega), w64i (x := q + 1) (by omega) (by omega)]
  unfold f1
  by_cases h : r % 2 = 1
  · rw [if_pos (by omega), if_pos h, e3, i64_xor_n _ _ (by omega) (by decide)]
  · rw [if_neg (by omega), if_neg h]
theorem sum_8 (x : List Int) (k r : Nat) (i : Int) (hr : r < 4294967296) (h0 : 0 ≤ i) (hi : i < 140737488351232) : freightref1_Sum.l1 (k + 9) x (r : Int) i 0 = freightref1_Sum.l0 k x ((f4 (f4 r) : Nat) : Int) (i + 1) := by
  have l1 := f1_lt hr
  have l2 := f1_lt l1
  have l3 := f1_lt l2
  have l4 := f1_lt l3
  have l5 := f1_lt l4
  have l6 := f1_lt l5
  have l7 := f1_lt l6
  have l8 := f1_lt l7
  rw [sum_l1 x (k + 8) r i 0 hr (by decide) (by decide), sum_l1 x (k + 7) _ i _ l1 (by decide) (by decide), sum_l1 x (k + 6) _ i _ l2 (by decide) (by decide), sum_l1 x (k + 5) _ i _ l3 (by decide) (by decide), sum_l1 x (k + 4) _ i _ l4 (by decide) (by decide), sum_l1 x (k + 3) _ i _ l5 (by decide) (by decide), sum_l1 x (k + 2) _ i _ l6 (by decide) (by decide), sum_l1 x (k + 1) _ i _ l7 (by decide) (by decide)]
  conv => lhs; unfold freightref1_Sum.l1
  rw [if_neg (by decide), w64i (by omega) (by omega)]
  rfl
theorem sum_l0 (x : List Int) (hx : Byt x) (hl : x.length ≤ 1000000) : ∀ (m i r : Nat), i + m = x.length → r < 4294967296 → freightref1_Sum.l0 (10 * m + 1) x (r : Int) (i : Int) = some ((4294967295 - sumR (x.drop i) r : Nat) : Int)
  | 0, i, r, h, hr => by
    unfold freightref1_Sum.l0
    rw [if_neg (by omega), List.drop_of_length_le (by omega), w64i (by omega) (by omega)]
    congr 1
    show _ = ((4294967295 - r : Nat) : Int)
    omega
  | m + 1, i, r, h, hr => by
    have hb := hx x[i] (List.getElem_mem (by omega))
    obtain ⟨b, hbb⟩ : ∃ b : Nat, x[i] = (b : Int) := ⟨x[i].toNat, by omega⟩
    have hrd : rd x (i : Int) = (b : Int) := by
      rw [rd, Int.toNat_natCast, List.getD_eq_getElem?_getD, List.getElem?_eq_getElem (by omega), ← hbb]
      rfl
    have hd : x.drop i = (b : Int) :: x.drop (i + 1) := by rw [List.drop_eq_getElem_cons (by omega : i < x.length), hbb]
    have hxl : r ^^^ b < 4294967296 := Nat.xor_lt_two_pow (n := 32) hr (by omega)
    rw [show 10 * (m + 1) + 1 = (10 * m + 1) + 9 + 1 by omega]
    conv => lhs; unfold freightref1_Sum.l0
    rw [if_pos (by omega), if_pos (by omega), hrd, w64i (x := (b : Int)) (by omega) (by omega), i64_xor_n r b hr (by omega), sum_8 x (10 * m + 1) (r ^^^ b) i hxl (by omega) (by omega)]
    have ih := sum_l0 x hx hl m (i + 1) (f4 (f4 (r ^^^ b))) (by omega) (f4_lt (f4_lt hxl))
    have e : ((i + 1 : Nat) : Int) = (i : Int) + 1 := by omega
    rw [← e, ih, hd]
    rfl
theorem sum_f (x : List Int) (hx : Byt x) (hl : x.length ≤ 1000000) : freightref1_Sum.f (10 * x.length + 1) x = some ((sumS x : Nat) : Int) := by
  have := sum_l0 x hx hl x.length 0 4294967295 (by omega) (by omega)
  simpa [freightref1_Sum.f, sumS] using this
end Go.Proofs.YtdekmeanlcpenaaGreatDoor.Codec

namespace Go.Proofs.YtdekmeanlcpenaaGreatDoor.Codec
open Go.RowKit Go.Proofs.YtdekmeanlcpenaaGreatDoorW.PrintWords Go.Proofs.YtdekmeanlcpenaaGreatDoor.Block Go.Proofs.YtdekmeanlcpenaaGreatDoor.PIntakeDecodes
theorem rd_drop (l : List Int) (i : Nat) (h : i < l.length) : l.drop i = rd l (i : Int) :: l.drop (i + 1) := by
  rw [List.drop_eq_getElem_cons h]
  congr 1
  rw [rd, Int.toNat_natCast, List.getD_eq_getElem?_getD, List.getElem?_eq_getElem h]
  rfl
theorem rd_byt {l : List Int} (hb : Byt l) (i : Nat) (h : i < l.length) : ∃ c : Nat, rd l (i : Int) = (c : Int) ∧ c ≤ 255 := by
  have := hb l[i] (List.getElem_mem h)
  refine ⟨l[i].toNat, ?_, by omega⟩
  rw [rd, Int.toNat_natCast, List.getD_eq_getElem?_getD, List.getElem?_eq_getElem h]
  simp only [Option.getD_some]
  omega
theorem w64id {c : Nat} (h : c ≤ 9223372036854775807) : wrap64 (c : Int) = (c : Int) := w64i (by omega) (by omega)
theorem w64add {x y : Nat} (h : x + y ≤ 9223372036854775807) : wrap64 ((x : Int) + (y : Int)) = ((x + y : Nat) : Int) := by rw [← Int.natCast_add]; exact w64id h
theorem w64mul {x y : Nat} (h : x * y ≤ 9223372036854775807) : wrap64 ((x : Int) * (y : Int)) = ((x * y : Nat) : Int) := by rw [← Int.natCast_mul]; exact w64id h
theorem w64one {x : Nat} (h : x + 1 ≤ 9223372036854775807) : wrap64 ((x : Int) + 1) = ((x + 1 : Nat) : Int) := w64add (y := 1) h
theorem w64k {x : Nat} (h : x * 128 ≤ 9223372036854775807) : wrap64 ((x : Int) * 128) = ((x * 128 : Nat) : Int) := w64mul (y := 128) h
theorem tmod128 (c : Nat) : Int.tmod (c : Int) 128 = ((c % 128 : Nat) : Int) := by rw [Int.tmod_eq_emod_of_nonneg (by omega)]; omega
theorem numb_l0 (l : List Int) (hb : Byt l) (hl : l.length ≤ 140737488351232) (a : Nat) (hal : a ≤ l.length) : ∀ (m n v u : Nat), n + m = 5 → u ≤ 128 ^ n → v < 128 ^ n → freightref1_number.l0 (m + 1) l (a : Int) (v : Int) (u : Int) (n : Int) = some (((numR (l.drop (a + n)) n v u).1 : Int), ((numR (l.drop (a + n)) n v u).2.1 : Int), ((numR (l.drop (a + n)) n v u).2.2 : Int))
  | 0, n, v, u, hn, hu, hv => by
    obtain rfl : n = 5 := by omega
    unfold freightref1_number.l0
    rw [if_neg (by decide), numR_five]
    rfl
  | m + 1, n, v, u, hn, hu, hv => by
    have hn5 : n ≠ 5 := by omega
    have hn5i : (n : Int) < 5 := by omega
    have hp : 128 ^ n ≤ 268435456 := Nat.le_trans (Nat.pow_le_pow_right (by decide) (show n ≤ 4 by omega)) (by decide)
    have hs1 : a + n ≤ 9223372036854775807 := by omega
    unfold freightref1_number.l0
    rw [if_pos hn5i, w64add hs1]
    by_cases ha : l.length ≤ a + n
    · have hge : ((a + n : Nat) : Int) ≥ (l.length : Int) := by omega
      rw [if_pos hge, List.drop_of_length_le ha, numR, if_neg hn5]
      rfl
    · have hge : ¬ ((a + n : Nat) : Int) ≥ (l.length : Int) := by omega
      have hlt : ((a + n : Nat) : Int) < (l.length : Int) := by omega
      have hpos : (0 : Int) ≤ ((a + n : Nat) : Int) := by omega
      have hlt' : a + n < l.length := by omega
      obtain ⟨c, hc, hc2⟩ := rd_byt hb (a + n) hlt'
      have hmul : c % 128 * u ≤ 127 * 268435456 := Nat.mul_le_mul (by omega) (Nat.le_trans hu hp)
      have hmul2 : c % 128 * u ≤ 127 * 128 ^ n := Nat.mul_le_mul (by omega) hu
      have hm2 : c % 128 * u ≤ 9223372036854775807 := by omega
      have ha2 : v + c % 128 * u ≤ 9223372036854775807 := by omega
      have ho2 : n + 1 ≤ 9223372036854775807 := by omega
      have hk2 : u * 128 ≤ 9223372036854775807 := by omega
      have hc3 : c ≤ 9223372036854775807 := by omega
      rw [if_neg hge, if_pos hpos, if_pos hlt, rd_drop l (a + n) hlt', hc, w64id hc3, tmod128, w64mul hm2, w64add ha2, w64one ho2, w64k hk2, numR, if_neg hn5]
      obtain ⟨s, hs⟩ : ∃ s, v + c % 128 * u = s := ⟨_, rfl⟩
      have hs' : v + (c : Int).toNat % 128 * u = s := by rw [← hs]; rfl
      rw [hs, hs']
      by_cases hc1 : c < 128
      · have hcc : (c : Int) < 128 := by omega
        rw [if_pos hcc, if_pos hcc]
        by_cases h0 : c = 0
        · have h0i : (c : Int) = 0 := by omega
          rw [if_pos h0i]
          by_cases hn0 : 0 < n
          · have hn0i : (n : Int) > 0 := by omega
            rw [if_pos hn0i, if_pos (Or.inr ⟨hn0, h0i⟩)]
            rfl
          · have hn0i : ¬ (n : Int) > 0 := by omega
            rw [if_neg hn0i]
            by_cases hbig : s > 2147483647
            · have hbi : (s : Int) > 2147483647 := by omega
              rw [if_pos hbi, if_pos (Or.inl hbig)]
              rfl
            · have hbi : ¬ (s : Int) > 2147483647 := by omega
              rw [if_neg hbi, if_neg (fun h => h.elim hbig (fun h => hn0 h.1))]
              rfl
        · have h0i : ¬ (c : Int) = 0 := by omega
          rw [if_neg h0i]
          by_cases hbig : s > 2147483647
          · have hbi : (s : Int) > 2147483647 := by omega
            rw [if_pos hbi, if_pos (Or.inl hbig)]
            rfl
          · have hbi : ¬ (s : Int) > 2147483647 := by omega
            rw [if_neg hbi, if_neg (fun h => h.elim hbig (fun h => h0i h.2))]
            rfl
      · have hcc : ¬ (c : Int) < 128 := by omega
        rw [if_neg hcc, if_neg hcc]
        have hu1 : u * 128 ≤ 128 ^ (n + 1) := by rw [Nat.pow_succ]; omega
        have hv1 : s < 128 ^ (n + 1) := by rw [Nat.pow_succ]; omega
        exact numb_l0 l hb hl a hal m (n + 1) s (u * 128) (by omega) hu1 hv1
theorem numb_f (l : List Int) (hb : Byt l) (hl : l.length ≤ 140737488351232) (a : Nat) (hal : a ≤ l.length) : freightref1_number.f 6 l (a : Int) = some (((numR (l.drop a) 0 0 1).1 : Int), ((numR (l.drop a) 0 0 1).2.1 : Int), ((numR (l.drop a) 0 0 1).2.2 : Int)) :=
  numb_l0 l hb hl a hal 5 0 0 1 rfl (by decide) (by decide)
theorem fixed_l0 (l : List Int) (hb : Byt l) (hl : l.length ≤ 140737488351232) (a w : Nat) (hw : w ≤ 4) (haw : a + w ≤ l.length) (cd pl : Int) : ∀ (m i : Nat), i + m = w → freightref1_TakeFixed.l0 (m + 1) (w : Int) (foldB ((l.drop a).take i)) (i : Int) l (a : Int) cd pl = some (foldB ((l.drop a).take w), ((a + w : Nat) : Int), cd, pl)
  | 0, i, h => by
    obtain rfl : i = w := by omega
    have h1 : a + i ≤ 9223372036854775807 := by omega
    unfold freightref1_TakeFixed.l0
    rw [if_neg (by omega), w64add h1]
  | m + 1, i, h => by
    have h1 : a + i ≤ 9223372036854775807 := by omega
    have h2 : (i : Int) < (w : Int) := by omega
    have h3 : (0 : Int) ≤ ((a + i : Nat) : Int) := by omega
    have h4 : ((a + i : Nat) : Int) < (l.length : Int) := by omega
    have h5 : i + 1 ≤ 9223372036854775807 := by omega
    have hi : i ≤ 3 := by omega
    obtain ⟨c, hc, hc2⟩ := rd_byt hb (a + i) (by omega)
    have hc3 : c ≤ 9223372036854775807 := by omega
    have hz := foldB_bound (byt_take (byt_drop hb a) i)
    have hlen : ((l.drop a).take i).length = i := by rw [List.length_take, List.length_drop]; omega
    have hd : l.drop (a + i) = (c : Int) :: l.drop (a + i + 1) := by rw [rd_drop l (a + i) (by omega), hc]
    have hsn : (l.drop a).take (i + 1) = (l.drop a).take i ++ [(c : Int)] := by
      rw [List.take_add_one, List.getElem?_drop]
      congr 1
      have := congrArg (fun x => x[0]?) hd
      simp only [List.getElem?_drop, List.getElem?_cons_zero, Nat.add_zero] at this
      rw [this]
      rfl
    rw [hlen] at hz
    have hp : (256 : Int) ^ i ≤ 16777216 := by
      rcases (show i = 0 ∨ i = 1 ∨ i = 2 ∨ i = 3 by omega) with rfl | rfl | rfl | rfl <;> decide
    have ih := fixed_l0 l hb hl a w hw haw cd pl m (i + 1) (by omega)
    rw [hsn, foldB_snoc] at ih
    obtain ⟨z, hzz⟩ : ∃ z, foldB ((l.drop a).take i) = z := ⟨_, rfl⟩
    rw [hzz] at hz ih ⊢
    unfold freightref1_TakeFixed.l0
    rw [if_pos h2, w64add h1, if_pos h3, if_pos h4, hc, w64id hc3, w64one h5, w64i (x := 256 * z) (by omega) (by omega), w64i (x := 256 * z + (c : Int)) (by omega) (by omega)]
    exact ih
theorem takeFixed_f (s : RS) (hb : Byt s.data) (hl : s.data.length ≤ 140737488351232) (hat : s.at_ ≤ s.data.length) (w : Nat) (h1 : 1 ≤ w) (h4 : w ≤ 4) :
    freightref1_TakeFixed.f 6 s.data (s.at_ : Int) (s.code : Int) (s.place : Int) (w : Int) = some ((s.fixed w).1, ((s.fixed w).2.at_ : Int), ((s.fixed w).2.code : Int), ((s.fixed w).2.place : Int)) := by
  obtain ⟨dt, a, cd, pl⟩ := s
  simp only at hb hl hat ⊢
  unfold freightref1_TakeFixed.f
  by_cases hc : cd = 0
  · subst hc
    rw [if_pos (show ((0 : Nat) : Int) = 0 from rfl), if_neg (by omega)]
    have hd : decide ((w : Int) > 4) = false := by simp; omega
    have e0 : freightref1_TakeFixed.j0 6 (w : Int) false dt (a : Int) ((0 : Nat) : Int) (pl : Int) = if wrap64 ((dt.length : Int) - (a : Int)) < (w : Int) then ((freightref1_spoil.f dt (a : Int) ((0 : Nat) : Int) (pl : Int) 10).bind fun b => some (0, b.1, b.2.1, b.2.2)) else freightref1_TakeFixed.l0 5 (w : Int) 0 0 dt (a : Int) ((0 : Nat) : Int) (pl : Int) := by
      unfold freightref1_TakeFixed.j0
      rfl
    rw [hd, e0, w64i (by omega) (by omega)]
    clear e0
    by_cases hs : dt.length - a < w
    · rw [if_pos (by omega)]
      simp [freightref1_spoil.f, RS.fixed, RS.raw, hs, RS.bad, foldB]
    · rw [if_neg (by omega)]
      have h := fixed_l0 dt hb hl a w h4 (by omega) ((0 : Nat) : Int) (pl : Int) w 0 (by omega)
      have e : freightref1_TakeFixed.l0 (w + 1) (w : Int) 0 0 dt (a : Int) ((0 : Nat) : Int) (pl : Int) = some (foldB ((dt.drop a).take w), ((a + w : Nat) : Int), ((0 : Nat) : Int), (pl : Int)) := h
      have mono : ∀ k, w + 1 ≤ k → freightref1_TakeFixed.l0 k (w : Int) 0 0 dt (a : Int) ((0 : Nat) : Int) (pl : Int) = some (foldB ((dt.drop a).take w), ((a + w : Nat) : Int), ((0 : Nat) : Int), (pl : Int)) := fun k hk => by
        induction k with
        | zero => omega
        | succ k ih =>
          by_cases h9 : w + 1 = k + 1
          · rw [← h9]; exact e
          · exact (freightref1_TakeFixed.mono_l k).2 _ _ _ _ _ _ _ _ (ih (by omega))
      rw [mono 5 (by omega)]
      simp [RS.fixed, RS.raw, hs, RS.on, RS.rest]
  · rw [if_neg (by omega)]
    simp [RS.fixed, RS.raw, hc, foldB]
end Go.Proofs.YtdekmeanlcpenaaGreatDoor.Codec

namespace Go.Proofs.YtdekmeanlcpenaaGreatDoor.Mid
open Go.RowKit Go.Proofs.YtdekmeanlcpenaaGreatDoorW.PrintWords

/-! ### A whole array in a new block -/
theorem At.new (w : World) (cs : List Value) (t : TypeId) : At (w.alloc (.cells cs.toArray t)) ⟨w.heap.size, 0, none⟩ cs := fun j v hv => by
  rw [Addr.add_mid, Nat.zero_add]
  have h : (w.alloc (.cells cs.toArray t)).heap[w.heap.size]? = some (.cells cs.toArray t (0, 0)) := heap_alloc_new w _
  rw [blk_cell h]
  simpa using hv
theorem setCells_new (w : World) (t : TypeId) : ∀ (cs pre zs : List Value), zs.length = cs.length → (w.alloc (.cells (pre ++ zs).toArray t)).setCells w.heap.size pre.length cs = w.alloc (.cells (pre ++ cs).toArray t)
  | [], pre, zs, h => by
    have : zs = [] := List.length_eq_zero_iff.1 (by simpa using h)
    subst this
    rfl
  | c :: cs, pre, [], h => by simp at h
  | c :: cs, pre, z :: zs, h => by
    have h1 : (w.alloc (.cells (pre ++ z :: zs).toArray t)).setCell ⟨w.heap.size, pre.length, none⟩ c = w.alloc (.cells ((pre ++ [c]) ++ zs).toArray t) := by
      rw [World.setCell_alloc_new]
      congr 2
      simp
    rw [World.setCells, h1]
    have ih := setCells_new w t cs (pre ++ [c]) zs (by simpa using h)
    rw [List.length_append, List.length_singleton] at ih
    rw [ih, List.append_assoc]
    rfl
section
variable {P : Program} {ops : Array Oper} {rest : List Oper} {op : Oper} {a : Act} {w : World} {Q : Exit → Act → World → Prop} {K : Act → World → Prop}
/-- A whole new variable is stored. -/
theorem wp_store_new (ty : TypeId) (x y : Operand) (ho : op.op = .store ty x y) (zs : Array Value) (cs : List Value) (hx : a.eval x = .pointer (some ⟨w.heap.size, 0, none⟩)) (hy : a.eval y = .agg cs.toArray)
    (hl : zs.size = cs.length) (hi : (P.info? ty).map (·.size) = some cs.length) (h1 : ∀ v ∈ cs, v.oneCell' = true)
    (h : K (a.put op.dst undef) (w.alloc (.cells cs.toArray ty))) : op.wp P a (w.alloc (.cells zs ty)) K Q := by
  have hh : (w.alloc (.cells zs ty)).heap[w.heap.size]? = some (.cells zs ty (0, 0)) := heap_alloc_new w _
  refine wp_store_mid ty x y ho w.heap.size 0 cs.toArray hx hy ?_ (by simpa using hi) (all_oneCell_toArray h1) ?_
  · intro j hj
    have hj2 : j < cs.length := by simpa using hj
    have hj' : j < zs.size := by omega
    refine ⟨?_, blk_frozen hh _⟩
    rw [blk_cell hh]
    simp [hj']
  · have := setCells_new w ty cs [] zs.toList (by simpa using hl)
    simp only [List.nil_append, List.length_nil, Array.toArray_toList] at this
    show K _ ((w.alloc (.cells zs ty)).setCells w.heap.size 0 cs)
    rw [this]
    exact h
theorem wpList_store_new (hgd : op.guard = none) (ty : TypeId) (x y : Operand) (ho : op.op = .store ty x y) (zs : Array Value) (cs : List Value) (hx : a.eval x = .pointer (some ⟨w.heap.size, 0, none⟩)) (hy : a.eval y = .agg cs.toArray)
    (hl : zs.size = cs.length) (hi : (P.info? ty).map (·.size) = some cs.length) (h1 : ∀ v ∈ cs, v.oneCell' = true)
    (h : wpList P ops Q rest (a.put op.dst undef) (w.alloc (.cells cs.toArray ty))) : wpList P ops Q (op :: rest) a (w.alloc (.cells zs ty)) :=
  wpList_plain hgd fun _ hK => wp_store_new ty x y ho zs cs hx hy hl hi h1 (hK _ _ h)
end

/-! ### bytes.Compare -/
theorem compare_cmp : ∀ {x y : List Int}, x.length = y.length → Bs x → Bs y → Lib.compareBytes (Lib.bytesOf x) (Lib.bytesOf y) = cmp x y
  | [], [], _, _, _ => rfl
  | a :: x, b :: y, hl, hx, hy => by
    have ha := hx a (by simp)
    have hb := hy b (by simp)
    have ih := compare_cmp (x := x) (y := y) (by simpa using hl) (fun u hu => hx u (by simp [hu])) (fun u hu => hy u (by simp [hu]))
    have e : ∀ n : Int, 0 ≤ n ∧ n ≤ 255 → (n.toNat.toUInt8).toNat = n.toNat := fun n hn => by
      have : n.toNat < 256 := by omega
      simp [Nat.toUInt8, Nat.mod_eq_of_lt this]
    have h1 : (a.toNat.toUInt8 < b.toNat.toUInt8) ↔ a < b := by
      rw [UInt8.lt_iff_toNat_lt, e a ha, e b hb]; omega
    have h2 : (b.toNat.toUInt8 < a.toNat.toUInt8) ↔ b < a := by
      rw [UInt8.lt_iff_toNat_lt, e a ha, e b hb]; omega
    show (if a.toNat.toUInt8 < b.toNat.toUInt8 then (-1 : Int) else if b.toNat.toUInt8 < a.toNat.toUInt8 then 1 else Lib.compareBytes (Lib.bytesOf x) (Lib.bytesOf y)) = _
    rw [cmp, ih]
    simp only [h1, h2]
theorem run_compare {P : Program} (w : World) (p q : Addr) (c d : Nat) (x y : List Int) (hx : At w p (u8s x)) (hy : At w q (u8s y)) (hl : x.length = y.length) (bx : Bs x) (by_ : Bs y) :
    (Extern.BytealgCompare.compare #[.slice (some p) x.length c, .slice (some q) y.length d]).run P w = .ok (.int .i64 (cmp x y)) w := by
  have cells : ∀ {z : List Int} {r : Addr}, At w r (u8s z) → ∀ j u, z[j]? = some u → w.cell? (r.add j) = some (.int .u8 u) := fun h j u hu => h j _ (by rw [u8s, List.getElem?_map, hu]; rfl)
  have h1 := Lib.run_loadBytesX (P := P) w x p .empty (cells hx)
  have h2 := Lib.run_loadBytesX (P := P) w y q .empty (cells hy)
  have he : ∀ l : List UInt8, (⟨ByteArray.empty.data ++ l.toArray⟩ : ByteArray) = ⟨l.toArray⟩ := fun l => by
    apply ByteArray.ext
    show (#[] : Array UInt8) ++ l.toArray = l.toArray
    simp
  rw [he] at h1 h2
  change Sem.run P (do pure (goInt (Extern.BytealgCompare.cmp (← Extern.Bytes.bytesOf (.slice (some p) x.length c)) (← Extern.Bytes.bytesOf (.slice (some q) y.length d))))) w = _
  simp only [Extern.Bytes.bytesOf, Sem.run_bind, Sem.run_pure, h1, h2, Result.andThen]
  rw [Lib.cmp_eq]
  simp only [compare_cmp hl bx by_]
  rfl

theorem bytes_compare (w : World) (p q : Addr) (x y : List Int) (hx : At w p (u8s x)) (hy : At w q (u8s y)) (lx : IdOk x) (ly : IdOk y) :
    Calls Tryz.prog 119 #[.slice (some p) 32 32, .slice (some q) 32 32] w fun e w' => e = .returned (.int .i64 (cmp x y)) ∧ w' = w := by
  have h := run_compare (P := Tryz.prog) w p q 32 32 x y hx hy (lx.len.trans ly.len.symm) lx.bytes ly.bytes
  rw [lx.len, ly.len] at h
  have h133 := @run_callFunc_extern Tryz.prog 151 _ Extern.BytealgCompare.compare Tryz.func151 (by kernel_rfl) (by kernel_rfl) (by kernel_rfl) (by kernel_rfl)
  go_enter Tryz.func119, Tryz.ntmps119
  go_wp2
  go_ret
  exact ⟨rfl, rfl⟩
theorem info29 : (Tryz.prog.info? 29).map (·.size) = some 32 := by kernel_rfl
theorem info33 : (Tryz.prog.info? 33).map (·.size) = some 65 := by kernel_rfl

/-- digest.Compare. -/
theorem digest_compare (w : World) (x y : List Int) (lx : IdOk x) (ly : IdOk y) :
    Calls Tryz.prog 75 #[idv x, idv y] w fun e w' => e = .returned (.int .i64 (cmp x y)) ∧ Below w.heap.size w w' := by
  have h1 : At ((w.alloc (.cells (u8s x).toArray 29)).alloc (.cells (u8s y).toArray 29)).drew ⟨w.heap.size, 0, none⟩ (u8s x) :=
    (((At.new w (u8s x) 29).below (below_alloc (Below.refl _ _) _)).move rfl)
  have h2 : At ((w.alloc (.cells (u8s x).toArray 29)).alloc (.cells (u8s y).toArray 29)).drew ⟨w.heap.size + 1, 0, none⟩ (u8s y) := by
    have := (At.new (w.alloc (.cells (u8s x).toArray 29)) (u8s y) 29)
    have e : (w.alloc (.cells (u8s x).toArray 29)).heap.size = w.heap.size + 1 := by simp
    rw [e] at this
    exact this.move rfl
  unfold idv
  go_enter Tryz.func75, Tryz.ntmps75
  go_wp2
  go_region_with (go_at_call 119; refine (bytes_compare _ _ _ x y ?_ ?_ lx ly).mono ?_; exact h1; exact h2; rintro e w' ⟨rfl, rfl⟩)
  all_goals (try go_wp2)
  all_goals (go_ret; exact ⟨rfl, (below_alloc (below_alloc (Below.refl _ _) _) _).drew⟩)
end Go.Proofs.YtdekmeanlcpenaaGreatDoor.Mid

namespace Go.Proofs.YtdekmeanlcpenaaGreatDoor.Mid
open Go.RowKit Go.Proofs.YtdekmeanlcpenaaGreatDoorW.PrintWords

theorem below_true (w : World) (x y : List Int) (lx : IdOk x) (ly : IdOk y) :
    Calls Tryz.prog 74 #[idv x, idv y] w fun e w' => e = .returned (.bool (decide (cmp x y < 0))) ∧ Below w.heap.size w w' := by
  have h1 : At ((w.alloc (.cells (u8s x).toArray 29)).alloc (.cells (u8s y).toArray 29)).drew ⟨w.heap.size, 0, none⟩ (u8s x) :=
    (((At.new w (u8s x) 29).below (below_alloc (Below.refl _ _) _)).move rfl)
  have h2 : At ((w.alloc (.cells (u8s x).toArray 29)).alloc (.cells (u8s y).toArray 29)).drew ⟨w.heap.size + 1, 0, none⟩ (u8s y) := by
    have := (At.new (w.alloc (.cells (u8s x).toArray 29)) (u8s y) 29)
    have e : (w.alloc (.cells (u8s x).toArray 29)).heap.size = w.heap.size + 1 := by simp
    rw [e] at this
    exact this.move rfl
  unfold idv
  go_enter Tryz.func74, Tryz.ntmps74
  go_wp2
  go_region_with (go_at_call 119; refine (bytes_compare _ _ _ x y ?_ ?_ lx ly).mono ?_; exact h1; exact h2; rintro e w' ⟨rfl, rfl⟩)
  all_goals (try go_wp2)
  all_goals (go_ret; exact ⟨rfl, (below_alloc (below_alloc (Below.refl _ _) _) _).drew⟩)

theorem fits_any (w : World) (r : Res) (hr : ResOk r) : Calls Tryz.prog 73 #[resv r] w fun e w' => e = .returned (.bool (decide (0 ≤ r.code) && decide (r.code ≤ 255))) ∧ Below w.heap.size w w' := by
  have h1 : (w.alloc (.cells (resC r).toArray 33)).cell? ⟨w.heap.size, 64, none⟩ = some (.int .i64 r.code) := by
    have := res_code hr (At.new w (resC r) 33)
    rwa [Addr.add_mid] at this
  unfold resv
  by_cases hc : 0 ≤ r.code
  · go_enter Tryz.func73, Tryz.ntmps73
    go_wp2
    go_ret
    exact ⟨by simp [hc], below_alloc (Below.refl _ _) _⟩
  · have hd : decide (0 ≤ r.code) = false := by simpa using hc
    clear hc
    go_enter Tryz.func73, Tryz.ntmps73
    go_wp2
    go_ret
    exact ⟨by simp [hd], below_alloc (Below.refl _ _) _⟩

/-- Behind i bytes that are alike. -/
def Alk (x y : List Int) (i : Nat) : Prop := cmp x y = cmp (x.drop i) (y.drop i)
theorem alk_step {x y : List Int} {i : Nat} {a b : Int} (h : Alk x y i) (ha : x[i]? = some a) (hb : y[i]? = some b) (hn1 : ¬ a < b) (hn2 : ¬ b < a) : Alk x y (i + 1) := by
  unfold Alk at h ⊢
  have la := (List.getElem?_eq_some_iff.1 ha)
  have lb := (List.getElem?_eq_some_iff.1 hb)
  rw [h, List.drop_eq_getElem_cons la.1, List.drop_eq_getElem_cons lb.1, la.2, lb.2, cmp, if_neg hn1, if_neg hn2]
theorem alk_lt {x y : List Int} {i : Nat} {a b : Int} (h : Alk x y i) (ha : x[i]? = some a) (hb : y[i]? = some b) (hn1 : a < b) : cmp x y = -1 := by
  unfold Alk at h
  have la := (List.getElem?_eq_some_iff.1 ha)
  have lb := (List.getElem?_eq_some_iff.1 hb)
  rw [h, List.drop_eq_getElem_cons la.1, List.drop_eq_getElem_cons lb.1, la.2, lb.2, cmp, if_pos hn1]
theorem alk_gt {x y : List Int} {i : Nat} {a b : Int} (h : Alk x y i) (ha : x[i]? = some a) (hb : y[i]? = some b) (hn2 : b < a) : cmp x y = 1 := by
  unfold Alk at h
  have la := (List.getElem?_eq_some_iff.1 ha)
  have lb := (List.getElem?_eq_some_iff.1 hb)
  rw [h, List.drop_eq_getElem_cons la.1, List.drop_eq_getElem_cons lb.1, la.2, lb.2, cmp, if_neg (by omega), if_pos hn2]
theorem alk_end {x y : List Int} {i : Nat} (h : Alk x y i) (hx : x.length ≤ i) : cmp x y = 0 := by
  unfold Alk at h
  rw [h, List.drop_of_length_le hx]
  cases y.drop i <;> rfl
theorem At.u8 {w : World} {p : Addr} {x : List Int} (h : At w p (u8s x)) {i : Nat} {a : Int} (ha : x[i]? = some a) : w.cell? (p.add i) = some (.int .u8 a) := h i _ (by rw [u8s, List.getElem?_map, ha]; rfl)

set_option maxHeartbeats 1000000 in
theorem order_any (w : World) (x y : List Int) (lx : IdOk x) (ly : IdOk y) :
    Calls Tryz.prog 72 #[idv x, idv y] w fun e w' => e = .returned (.int .i64 (cmp x y)) ∧ Below w.heap.size w w' := by
  obtain ⟨W, hW⟩ : ∃ W, W = (w.alloc (.cells (u8s x).toArray 29)).alloc (.cells (u8s y).toArray 29) := ⟨_, rfl⟩
  have h1 : At W ⟨w.heap.size, 0, none⟩ (u8s x) := hW ▸ ((At.new w (u8s x) 29).below (below_alloc (Below.refl _ _) _))
  have h2 : At W ⟨w.heap.size + 1, 0, none⟩ (u8s y) := by
    have := (At.new (w.alloc (.cells (u8s x).toArray 29)) (u8s y) 29)
    have e : (w.alloc (.cells (u8s x).toArray 29)).heap.size = w.heap.size + 1 := by simp
    rw [e] at this
    exact hW ▸ this
  have HB : Aside0 (Below w.heap.size w W) := ⟨hW ▸ (below_alloc (below_alloc (Below.refl _ _) _) _)⟩
  have H1 := Aside0.mk h1
  have H2 := Aside0.mk h2
  have HX := Aside0.mk lx
  have HY := Aside0.mk ly
  have HW := Aside0.mk hW
  clear h1 h2 hW lx ly
  unfold idv
  go_enter Tryz.func72, Tryz.ntmps72
  go_wp2
  rw [← HW.out]
  go_loopg [5] 32 (fun k v5 w' => ∃ i : Nat, v5 = .int .i64 i ∧ i + k = 32 ∧ Aside0 (Alk x y i) ∧ Aside0 (Drawn0 W w'))
  case atStart => exact ⟨0, rfl, rfl, ⟨rfl⟩, ⟨Drawn0.refl _⟩⟩
  case round =>
    obtain ⟨i, rfl, hik, HA, HD⟩ := hrel
    cases gk with
    | zero =>
      have hd : decide ((i : Int) < 32) = false := by simp; omega
      have hi : Aside0 (i = 32) := ⟨by omega⟩
      clear hik
      go_wp2
      go_ret
      exact ⟨by rw [alk_end HA.out (by rw [HX.out.len, hi.out]; exact Nat.le_refl _)]; rfl, HB.out.trans ((HD.out.below).mono HB.out.size)⟩
    | succ k =>
      have hi : i < 32 := by omega
      have hi1 : (i : Int) < 32 := by omega
      obtain ⟨a, ha⟩ : ∃ a, x[i]? = some a := ⟨_, List.getElem?_eq_getElem (by rw [HX.out.len]; exact hi)⟩
      obtain ⟨b, hb⟩ : ∃ b, y[i]? = some b := ⟨_, List.getElem?_eq_getElem (by rw [HY.out.len]; exact hi)⟩
      have c1 := (H1.out.below HD.out.below).u8 ha
      have c2 := (H2.out.below HD.out.below).u8 hb
      rw [Addr.add_mid, Nat.zero_add] at c1 c2
      have HA1 := Aside0.mk ha
      have HB1 := Aside0.mk hb
      clear ha hb
      by_cases hlt : a < b
      · go_wp2
        go_quiet (fail)
        go_wp2
        go_ret
        exact ⟨by rw [alk_lt HA.out HA1.out HB1.out hlt]; rfl, HB.out.trans (((HD.out.step _).below).mono HB.out.size)⟩
      · have d1 : decide (a < b) = false := by simpa using hlt
        by_cases hgt : b < a
        · go_wp2
          go_quiet (fail)
          go_wp2
          go_quiet (fail)
          go_wp2
          go_ret
          exact ⟨by rw [alk_gt HA.out HA1.out HB1.out hgt]; rfl, HB.out.trans ((((HD.out.step _).step _).below).mono HB.out.size)⟩
        · have d2 : decide (b < a) = false := by simpa using hgt
          go_wp2
          go_quiet (fail)
          go_wp2
          go_quiet (fail)
          go_wp2
          go_roundg k
          case measure => omega
          case rel => exact ⟨i + 1, by go_num, by omega, ⟨alk_step HA.out HA1.out HB1.out (by omega) (by omega)⟩, ⟨HD.out.step _⟩⟩
end Go.Proofs.YtdekmeanlcpenaaGreatDoor.Mid

namespace Go.Proofs.YtdekmeanlcpenaaGreatDoor.Mid

theorem idv_inj {x y : List Int} (h : idv x = idv y) : x = y := by
  have h1 : (u8s x).toArray = (u8s y).toArray := by injection h
  exact u8s_inj (by simpa using congrArg Array.toList h1)

section
variable {rs : List Res} {qas : List (List Int)} {i : Nat} {r : Res} {ks ks1 : List Value}
end

end Go.Proofs.YtdekmeanlcpenaaGreatDoor.Mid
