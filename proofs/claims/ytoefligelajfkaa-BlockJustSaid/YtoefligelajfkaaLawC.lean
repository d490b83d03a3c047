import Derived.Test.YtoefligelajfkaaKnown
import Derived.Test.YtoefligelajfkaaRefCover
namespace Go.Proofs.Ytoefligelajfkaa.Block
open Go.RowKit Go.Proofs.YtoefligelajfkaaW.PrintWords Go.Proofs.YtoefligelajfkaaW.PrintLast Go.Proofs.YtoefligelajfkaaW.PrintMore Go.Proofs.Ytoefligelajfkaa.Press
open Go.Proofs.Ytoefligelajfkaa.PBlockOpens (block_isSize.f block_Cover.f block_Cover.calls freightref11_isSize.f freightref11_Cover.f freightref11_Cover.calls)

/-- What Cover answers. -/
def coverS (size at_ n : Int) : Int × Int :=
  if isSize size ∧ 0 ≤ at_ ∧ at_ ≤ 2147483647 ∧ 1 ≤ n ∧ n ≤ 2147483647 then (at_ / size, (at_ + n - 1) / size + 1) else (0, 0)
theorem wrap_small {x : Int} (h0 : 0 ≤ x) (h1 : x ≤ 9000000000) : wrap64 x = x := by unfold wrap64; omega
theorem div_small {x s : Int} (hs : 16 ≤ s) (h0 : 0 ≤ x) (h1 : x ≤ 8000000000) : wrap64 (Int.tdiv x s) = x / s ∧ 0 ≤ x / s ∧ x / s ≤ x := by
  have e : Int.tdiv x s = x / s := Int.tdiv_eq_ediv_of_nonneg h0
  have h2 := Int.ediv_nonneg h0 (show 0 ≤ s by omega)
  have h3 := Int.ediv_le_self s h0
  exact ⟨by rw [e, wrap_small h2 (by omega)], h2, h3⟩
theorem cover_f (size at_ n : Int) : block_Cover.f size at_ n = some ((coverS size at_ n).1, (coverS size at_ n).2) := by
  unfold block_Cover.f
  rw [isSize_f]
  simp only [Option.bind_some]
  unfold coverS
  by_cases hs : isSize size
  · rw [if_pos (by simpa using hs)]
    have hs' := hs
    obtain ⟨z1, z2⟩ := hs'
    by_cases h1 : at_ < 0
    · rw [if_pos h1, if_neg (by omega)]
    by_cases h2 : at_ > 2147483647
    · rw [if_neg h1, if_pos h2, if_neg (by omega)]
    by_cases h3 : n < 1
    · rw [if_neg h1, if_neg h2, if_pos h3, if_neg (by omega)]
    by_cases h4 : n > 2147483647
    · rw [if_neg h1, if_neg h2, if_neg h3, if_pos h4, if_neg (by omega)]
    rw [if_neg h1, if_neg h2, if_neg h3, if_neg h4, if_neg (by omega), if_pos ⟨hs, by omega, by omega, by omega, by omega⟩]
    have e1 := div_small z1 (show 0 ≤ at_ by omega) (by omega)
    have e2 : wrap64 (wrap64 (at_ + n) - 1) = at_ + n - 1 := by rw [wrap_small (x := at_ + n) (by omega) (by omega), wrap_small (by omega) (by omega)]
    have e3 := div_small z1 (show 0 ≤ at_ + n - 1 by omega) (by omega)
    rw [e1.1, e2, e3.1, wrap_small (by omega) (by omega)]
  · rw [if_neg (by simpa using hs), if_neg (fun h => hs h.1)]
theorem rcover_f (size at_ n : Int) : freightref11_Cover.f size at_ n = some ((coverS size at_ n).1, (coverS size at_ n).2) := by
  have e : freightref11_Cover.f size at_ n = block_Cover.f size at_ n := rfl
  rw [e, cover_f]

theorem just {size at_ n a b : Int} (h : isSize size ∧ 0 ≤ at_ ∧ at_ ≤ 2147483647 ∧ 1 ≤ n ∧ n ≤ 2147483647) (ha : a = (coverS size at_ n).1) (hb : b = (coverS size at_ n).2) :
    0 ≤ a ∧ a < b ∧ b ≤ 5000000000 ∧ 0 ≤ a * size ∧ a * size ≤ at_ ∧ (a + 1) * size > at_ ∧ (b - 1) * size < at_ + n ∧ b * size ≥ at_ + n ∧ (a + 1) * size ≤ 9000000000 ∧ 0 ≤ (b - 1) * size ∧ b * size ≤ 9000000000 := by
  unfold coverS at ha hb
  rw [if_pos h] at ha hb
  obtain ⟨⟨z1, z2⟩, h0, h1, h2, h3⟩ := h
  simp only [] at ha hb
  have d1 := Int.mul_ediv_add_emod at_ size
  have d2 := Int.mul_ediv_add_emod (at_ + n - 1) size
  have m1 := Int.emod_nonneg at_ (show size ≠ 0 by omega)
  have m2 := Int.emod_lt_of_pos at_ (show 0 < size by omega)
  have m3 := Int.emod_nonneg (at_ + n - 1) (show size ≠ 0 by omega)
  have m4 := Int.emod_lt_of_pos (at_ + n - 1) (show 0 < size by omega)
  have q1 := Int.ediv_nonneg h0 (show 0 ≤ size by omega)
  have q2 := Int.ediv_nonneg (show 0 ≤ at_ + n - 1 by omega) (show 0 ≤ size by omega)
  have q3 := Int.ediv_le_self size (show 0 ≤ at_ + n - 1 by omega)
  have q4 : at_ / size ≤ (at_ + n - 1) / size := Int.ediv_le_ediv (by omega) (by omega)
  have p1 : 0 ≤ size * (at_ / size) := Int.mul_nonneg (by omega) q1
  have p2 : 0 ≤ size * ((at_ + n - 1) / size) := Int.mul_nonneg (by omega) q2
  subst ha hb
  rw [show (at_ + n - 1) / size + 1 - 1 = (at_ + n - 1) / size by omega]
  rw [Int.add_mul, Int.add_mul, Int.one_mul, Int.mul_comm (at_ / size) size, Int.mul_comm ((at_ + n - 1) / size) size]
  refine ⟨q1, by omega, by omega, p1, by omega, by omega, by omega, by omega, by omega, p2, by omega⟩

set_option maxHeartbeats 4000000 in
theorem blockCovers_walk (size at_ n : Int) (w : World) (_h0 : -9223372036854775808 ≤ size ∧ size ≤ 9223372036854775807) (_h1 : -9223372036854775808 ≤ at_ ∧ at_ ≤ 9223372036854775807) (_h2 : -9223372036854775808 ≤ n ∧ n ≤ 9223372036854775807) :
    Calls Try.prog 14 #[.int .i64 size, .int .i64 at_, .int .i64 n] w fun e w' => e = .returned (.bool true) ∧ Below w.heap.size w w' := by
  have HC1 := Aside0.mk (cover_f size at_ n)
  have HC2 := Aside0.mk (rcover_f size at_ n)
  generalize (coverS size at_ n).1 = a at HC1 HC2
  generalize (coverS size at_ n).2 = b at HC1 HC2
  clear _h0 _h1 _h2
  go_enter Try.func14, Try.ntmps14
  go_wp2_with (first
    | (go_at_call 42; refine (block_Cover.calls _ _ _ a b _ HC1.out).mono ?_; rintro e w1 ⟨rfl, ⟨nd1, rfl⟩⟩)
    | (go_at_call 43; refine (freightref11_Cover.calls _ _ _ a b _ HC2.out).mono ?_; rintro e w2 ⟨rfl, ⟨nd2, rfl⟩⟩)
    | (go_at_call 37; refine (known_any _).mono ?_; rintro e w3 ⟨rfl, hB3⟩))
  go_ret
  exact ⟨rfl, below_step (pw_below_drewN (Below.refl _ _) _) hB3⟩

set_option maxHeartbeats 4000000 in
theorem just0 (size at_ n : Int) (w : World) (hp : size < 16) : Calls Try.prog 17 #[.int .i64 size, .int .i64 at_, .int .i64 n] w fun e w' => e = .returned (.bool true) ∧ Below w.heap.size w w' := by
  have f1 : decide (size < 16) = true := by simp; omega
  have HC : Aside0 (block_Cover.f size at_ n = some (0, 0)) := ⟨by rw [cover_f]; unfold coverS; rw [if_neg (by rintro ⟨⟨z1, z2⟩, z3, z4, z5, z6⟩; omega)]⟩
  go_enter Try.func17, Try.ntmps17
  go_wp2_with (first
    | (go_at_call 42; refine (block_Cover.calls _ _ _ 0 0 _ HC.out).mono ?_; rintro e w1 ⟨rfl, ⟨nd1, rfl⟩⟩)
    | (go_at_call 37; refine (known_any _).mono ?_; rintro e w3 ⟨rfl, hB3⟩))
  go_ret
  exact ⟨rfl, below_step (pw_below_drewN (Below.refl _ _) _) hB3⟩

set_option maxHeartbeats 4000000 in
theorem just1 (size at_ n : Int) (w : World) (hp : 16 ≤ size ∧ size > 4096) : Calls Try.prog 17 #[.int .i64 size, .int .i64 at_, .int .i64 n] w fun e w' => e = .returned (.bool true) ∧ Below w.heap.size w w' := by
  have f1 : decide (size < 16) = false := by simp; omega
  have f2 : decide ((4096 : Int) < size) = true := by simp; omega
  have HC : Aside0 (block_Cover.f size at_ n = some (0, 0)) := ⟨by rw [cover_f]; unfold coverS; rw [if_neg (by rintro ⟨⟨z1, z2⟩, z3, z4, z5, z6⟩; omega)]⟩
  go_enter Try.func17, Try.ntmps17
  go_wp2_with (first
    | (go_at_call 42; refine (block_Cover.calls _ _ _ 0 0 _ HC.out).mono ?_; rintro e w1 ⟨rfl, ⟨nd1, rfl⟩⟩)
    | (go_at_call 37; refine (known_any _).mono ?_; rintro e w3 ⟨rfl, hB3⟩))
  go_ret
  exact ⟨rfl, below_step (pw_below_drewN (Below.refl _ _) _) hB3⟩

set_option maxHeartbeats 4000000 in
theorem just2 (size at_ n : Int) (w : World) (hp : 16 ≤ size ∧ size ≤ 4096 ∧ at_ < 0) : Calls Try.prog 17 #[.int .i64 size, .int .i64 at_, .int .i64 n] w fun e w' => e = .returned (.bool true) ∧ Below w.heap.size w w' := by
  have f1 : decide (size < 16) = false := by simp; omega
  have f2 : decide ((4096 : Int) < size) = false := by simp; omega
  have f3 : decide (at_ < 0) = true := by simp; omega
  have HC : Aside0 (block_Cover.f size at_ n = some (0, 0)) := ⟨by rw [cover_f]; unfold coverS; rw [if_neg (by rintro ⟨⟨z1, z2⟩, z3, z4, z5, z6⟩; omega)]⟩
  go_enter Try.func17, Try.ntmps17
  go_wp2_with (first
    | (go_at_call 42; refine (block_Cover.calls _ _ _ 0 0 _ HC.out).mono ?_; rintro e w1 ⟨rfl, ⟨nd1, rfl⟩⟩)
    | (go_at_call 37; refine (known_any _).mono ?_; rintro e w3 ⟨rfl, hB3⟩))
  go_ret
  exact ⟨rfl, below_step (pw_below_drewN (Below.refl _ _) _) hB3⟩

set_option maxHeartbeats 4000000 in
theorem just3 (size at_ n : Int) (w : World) (hp : 16 ≤ size ∧ size ≤ 4096 ∧ 0 ≤ at_ ∧ at_ > 2147483647) : Calls Try.prog 17 #[.int .i64 size, .int .i64 at_, .int .i64 n] w fun e w' => e = .returned (.bool true) ∧ Below w.heap.size w w' := by
  have f1 : decide (size < 16) = false := by simp; omega
  have f2 : decide ((4096 : Int) < size) = false := by simp; omega
  have f3 : decide (at_ < 0) = false := by simp; omega
  have f4 : decide ((1000000 : Int) < at_) = true := by simp; omega
  have f7 : decide ((2147483647 : Int) < at_) = true := by simp; omega
  have HC : Aside0 (block_Cover.f size at_ n = some (0, 0)) := ⟨by rw [cover_f]; unfold coverS; rw [if_neg (by rintro ⟨⟨z1, z2⟩, z3, z4, z5, z6⟩; omega)]⟩
  go_enter Try.func17, Try.ntmps17
  go_wp2_with (first
    | (go_at_call 42; refine (block_Cover.calls _ _ _ 0 0 _ HC.out).mono ?_; rintro e w1 ⟨rfl, ⟨nd1, rfl⟩⟩)
    | (go_at_call 37; refine (known_any _).mono ?_; rintro e w3 ⟨rfl, hB3⟩))
  go_ret
  exact ⟨rfl, below_step (pw_below_drewN (Below.refl _ _) _) hB3⟩

set_option maxHeartbeats 4000000 in
theorem just4 (size at_ n : Int) (w : World) (hp : 16 ≤ size ∧ size ≤ 4096 ∧ 0 ≤ at_ ∧ at_ ≤ 2147483647 ∧ n < 1 ∧ at_ ≤ 1000000) : Calls Try.prog 17 #[.int .i64 size, .int .i64 at_, .int .i64 n] w fun e w' => e = .returned (.bool true) ∧ Below w.heap.size w w' := by
  have f1 : decide (size < 16) = false := by simp; omega
  have f2 : decide ((4096 : Int) < size) = false := by simp; omega
  have f3 : decide (at_ < 0) = false := by simp; omega
  have f4 : decide ((1000000 : Int) < at_) = false := by simp; omega
  have f5 : decide (n < 1) = true := by simp; omega
  have f7 : decide ((2147483647 : Int) < at_) = false := by simp; omega
  have HC : Aside0 (block_Cover.f size at_ n = some (0, 0)) := ⟨by rw [cover_f]; unfold coverS; rw [if_neg (by rintro ⟨⟨z1, z2⟩, z3, z4, z5, z6⟩; omega)]⟩
  go_enter Try.func17, Try.ntmps17
  go_wp2_with (first
    | (go_at_call 42; refine (block_Cover.calls _ _ _ 0 0 _ HC.out).mono ?_; rintro e w1 ⟨rfl, ⟨nd1, rfl⟩⟩)
    | (go_at_call 37; refine (known_any _).mono ?_; rintro e w3 ⟨rfl, hB3⟩))
  go_ret
  exact ⟨rfl, below_step (pw_below_drewN (Below.refl _ _) _) hB3⟩

set_option maxHeartbeats 4000000 in
theorem just5 (size at_ n : Int) (w : World) (hp : 16 ≤ size ∧ size ≤ 4096 ∧ 0 ≤ at_ ∧ at_ ≤ 2147483647 ∧ n < 1 ∧ at_ > 1000000) : Calls Try.prog 17 #[.int .i64 size, .int .i64 at_, .int .i64 n] w fun e w' => e = .returned (.bool true) ∧ Below w.heap.size w w' := by
  have f1 : decide (size < 16) = false := by simp; omega
  have f2 : decide ((4096 : Int) < size) = false := by simp; omega
  have f3 : decide (at_ < 0) = false := by simp; omega
  have f4 : decide ((1000000 : Int) < at_) = true := by simp; omega
  have f5 : decide (n < 1) = true := by simp; omega
  have f7 : decide ((2147483647 : Int) < at_) = false := by simp; omega
  have HC : Aside0 (block_Cover.f size at_ n = some (0, 0)) := ⟨by rw [cover_f]; unfold coverS; rw [if_neg (by rintro ⟨⟨z1, z2⟩, z3, z4, z5, z6⟩; omega)]⟩
  go_enter Try.func17, Try.ntmps17
  go_wp2_with (first
    | (go_at_call 42; refine (block_Cover.calls _ _ _ 0 0 _ HC.out).mono ?_; rintro e w1 ⟨rfl, ⟨nd1, rfl⟩⟩)
    | (go_at_call 37; refine (known_any _).mono ?_; rintro e w3 ⟨rfl, hB3⟩))
  go_ret
  exact ⟨rfl, below_step (pw_below_drewN (Below.refl _ _) _) hB3⟩

set_option maxHeartbeats 4000000 in
theorem just6 (size at_ n : Int) (w : World) (hp : 16 ≤ size ∧ size ≤ 4096 ∧ 0 ≤ at_ ∧ at_ ≤ 2147483647 ∧ n > 2147483647 ∧ at_ ≤ 1000000) : Calls Try.prog 17 #[.int .i64 size, .int .i64 at_, .int .i64 n] w fun e w' => e = .returned (.bool true) ∧ Below w.heap.size w w' := by
  have f1 : decide (size < 16) = false := by simp; omega
  have f2 : decide ((4096 : Int) < size) = false := by simp; omega
  have f3 : decide (at_ < 0) = false := by simp; omega
  have f4 : decide ((1000000 : Int) < at_) = false := by simp; omega
  have f5 : decide (n < 1) = false := by simp; omega
  have f6 : decide ((1000000 : Int) < n) = true := by simp; omega
  have f7 : decide ((2147483647 : Int) < at_) = false := by simp; omega
  have f8 : decide ((2147483647 : Int) < n) = true := by simp; omega
  have HC : Aside0 (block_Cover.f size at_ n = some (0, 0)) := ⟨by rw [cover_f]; unfold coverS; rw [if_neg (by rintro ⟨⟨z1, z2⟩, z3, z4, z5, z6⟩; omega)]⟩
  go_enter Try.func17, Try.ntmps17
  go_wp2_with (first
    | (go_at_call 42; refine (block_Cover.calls _ _ _ 0 0 _ HC.out).mono ?_; rintro e w1 ⟨rfl, ⟨nd1, rfl⟩⟩)
    | (go_at_call 37; refine (known_any _).mono ?_; rintro e w3 ⟨rfl, hB3⟩))
  go_ret
  exact ⟨rfl, below_step (pw_below_drewN (Below.refl _ _) _) hB3⟩

set_option maxHeartbeats 4000000 in
theorem just7 (size at_ n : Int) (w : World) (hp : 16 ≤ size ∧ size ≤ 4096 ∧ 0 ≤ at_ ∧ at_ ≤ 2147483647 ∧ n > 2147483647 ∧ at_ > 1000000) : Calls Try.prog 17 #[.int .i64 size, .int .i64 at_, .int .i64 n] w fun e w' => e = .returned (.bool true) ∧ Below w.heap.size w w' := by
  have f1 : decide (size < 16) = false := by simp; omega
  have f2 : decide ((4096 : Int) < size) = false := by simp; omega
  have f3 : decide (at_ < 0) = false := by simp; omega
  have f4 : decide ((1000000 : Int) < at_) = true := by simp; omega
  have f5 : decide (n < 1) = false := by simp; omega
  have f6 : decide ((1000000 : Int) < n) = true := by simp; omega
  have f7 : decide ((2147483647 : Int) < at_) = false := by simp; omega
  have f8 : decide ((2147483647 : Int) < n) = true := by simp; omega
  have HC : Aside0 (block_Cover.f size at_ n = some (0, 0)) := ⟨by rw [cover_f]; unfold coverS; rw [if_neg (by rintro ⟨⟨z1, z2⟩, z3, z4, z5, z6⟩; omega)]⟩
  go_enter Try.func17, Try.ntmps17
  go_wp2_with (first
    | (go_at_call 42; refine (block_Cover.calls _ _ _ 0 0 _ HC.out).mono ?_; rintro e w1 ⟨rfl, ⟨nd1, rfl⟩⟩)
    | (go_at_call 37; refine (known_any _).mono ?_; rintro e w3 ⟨rfl, hB3⟩))
  go_ret
  exact ⟨rfl, below_step (pw_below_drewN (Below.refl _ _) _) hB3⟩

set_option maxHeartbeats 4000000 in
theorem just8 (size at_ n : Int) (w : World) (hp : 16 ≤ size ∧ size ≤ 4096 ∧ 0 ≤ at_ ∧ at_ ≤ 2147483647 ∧ 1 ≤ n ∧ n ≤ 2147483647 ∧ at_ > 1000000) : Calls Try.prog 17 #[.int .i64 size, .int .i64 at_, .int .i64 n] w fun e w' => e = .returned (.bool true) ∧ Below w.heap.size w w' := by
  have f1 : decide (size < 16) = false := by simp; omega
  have f2 : decide ((4096 : Int) < size) = false := by simp; omega
  have f3 : decide (at_ < 0) = false := by simp; omega
  have f4 : decide ((1000000 : Int) < at_) = true := by simp; omega
  have f5 : decide (n < 1) = false := by simp; omega
  have f7 : decide ((2147483647 : Int) < at_) = false := by simp; omega
  have f8 : decide ((2147483647 : Int) < n) = false := by simp; omega
  have HC := Aside0.mk (cover_f size at_ n)
  have hj := just (a := (coverS size at_ n).1) (b := (coverS size at_ n).2) ⟨⟨by omega, by omega⟩, by omega, by omega, by omega, by omega⟩ rfl rfl
  generalize (coverS size at_ n).1 = a at HC hj
  generalize (coverS size at_ n).2 = b at HC hj
  obtain ⟨j1, j2, j3, j4, j5, j6, j7, j8, j9, j10, j11⟩ := hj
  go_enter Try.func17, Try.ntmps17
  go_wp2_with (first
    | (go_at_call 42; refine (block_Cover.calls _ _ _ a b _ HC.out).mono ?_; rintro e w1 ⟨rfl, ⟨nd1, rfl⟩⟩)
    | (go_at_call 37; refine (known_any _).mono ?_; rintro e w3 ⟨rfl, hB3⟩))
  go_ret
  exact ⟨rfl, below_step (pw_below_drewN (Below.refl _ _) _) hB3⟩

set_option maxHeartbeats 4000000 in
theorem just9 (size at_ n : Int) (w : World) (hp : 16 ≤ size ∧ size ≤ 4096 ∧ 0 ≤ at_ ∧ at_ ≤ 2147483647 ∧ 1 ≤ n ∧ n ≤ 2147483647 ∧ at_ ≤ 1000000 ∧ n > 1000000) : Calls Try.prog 17 #[.int .i64 size, .int .i64 at_, .int .i64 n] w fun e w' => e = .returned (.bool true) ∧ Below w.heap.size w w' := by
  have f1 : decide (size < 16) = false := by simp; omega
  have f2 : decide ((4096 : Int) < size) = false := by simp; omega
  have f3 : decide (at_ < 0) = false := by simp; omega
  have f4 : decide ((1000000 : Int) < at_) = false := by simp; omega
  have f5 : decide (n < 1) = false := by simp; omega
  have f6 : decide ((1000000 : Int) < n) = true := by simp; omega
  have f7 : decide ((2147483647 : Int) < at_) = false := by simp; omega
  have f8 : decide ((2147483647 : Int) < n) = false := by simp; omega
  have HC := Aside0.mk (cover_f size at_ n)
  have hj := just (a := (coverS size at_ n).1) (b := (coverS size at_ n).2) ⟨⟨by omega, by omega⟩, by omega, by omega, by omega, by omega⟩ rfl rfl
  generalize (coverS size at_ n).1 = a at HC hj
  generalize (coverS size at_ n).2 = b at HC hj
  obtain ⟨j1, j2, j3, j4, j5, j6, j7, j8, j9, j10, j11⟩ := hj
  go_enter Try.func17, Try.ntmps17
  go_wp2_with (first
    | (go_at_call 42; refine (block_Cover.calls _ _ _ a b _ HC.out).mono ?_; rintro e w1 ⟨rfl, ⟨nd1, rfl⟩⟩)
    | (go_at_call 37; refine (known_any _).mono ?_; rintro e w3 ⟨rfl, hB3⟩))
  go_ret
  exact ⟨rfl, below_step (pw_below_drewN (Below.refl _ _) _) hB3⟩

set_option maxHeartbeats 4000000 in
theorem just10 (size at_ n : Int) (w : World) (hp : 16 ≤ size ∧ size ≤ 4096 ∧ 0 ≤ at_ ∧ at_ ≤ 2147483647 ∧ 1 ≤ n ∧ n ≤ 1000000 ∧ at_ ≤ 1000000) : Calls Try.prog 17 #[.int .i64 size, .int .i64 at_, .int .i64 n] w fun e w' => e = .returned (.bool true) ∧ Below w.heap.size w w' := by
  have f1 : decide (size < 16) = false := by simp; omega
  have f2 : decide ((4096 : Int) < size) = false := by simp; omega
  have f3 : decide (at_ < 0) = false := by simp; omega
  have f4 : decide ((1000000 : Int) < at_) = false := by simp; omega
  have f5 : decide (n < 1) = false := by simp; omega
  have f6 : decide ((1000000 : Int) < n) = false := by simp; omega
  have HC := Aside0.mk (cover_f size at_ n)
  have hj := just (a := (coverS size at_ n).1) (b := (coverS size at_ n).2) ⟨⟨by omega, by omega⟩, by omega, by omega, by omega, by omega⟩ rfl rfl
  generalize (coverS size at_ n).1 = a at HC hj
  generalize (coverS size at_ n).2 = b at HC hj
  obtain ⟨j1, j2, j3, j4, j5, j6, j7, j8, j9, j10, j11⟩ := hj
  go_enter Try.func17, Try.ntmps17
  go_wp2_with (first
    | (go_at_call 42; refine (block_Cover.calls _ _ _ a b _ HC.out).mono ?_; rintro e w1 ⟨rfl, ⟨nd1, rfl⟩⟩)
    | (go_at_call 37; refine (known_any _).mono ?_; rintro e w3 ⟨rfl, hB3⟩))
  go_ret
  exact ⟨rfl, below_step (pw_below_drewN (Below.refl _ _) _) hB3⟩

theorem blockJust_walk (size at_ n : Int) (w : World) (_h0 : -9223372036854775808 ≤ size ∧ size ≤ 9223372036854775807) (_h1 : -9223372036854775808 ≤ at_ ∧ at_ ≤ 9223372036854775807) (_h2 : -9223372036854775808 ≤ n ∧ n ≤ 9223372036854775807) :
    Calls Try.prog 17 #[.int .i64 size, .int .i64 at_, .int .i64 n] w fun e w' => e = .returned (.bool true) ∧ Below w.heap.size w w' := by
  by_cases c1 : size < 16
  · exact just0 size at_ n w c1
  by_cases c2 : size > 4096
  · exact just1 size at_ n w ⟨by omega, c2⟩
  by_cases c3 : at_ < 0
  · exact just2 size at_ n w ⟨by omega, by omega, c3⟩
  by_cases c4 : at_ > 2147483647
  · exact just3 size at_ n w ⟨by omega, by omega, by omega, c4⟩
  by_cases c5 : n < 1
  · by_cases c6 : at_ ≤ 1000000
    · exact just4 size at_ n w (by omega)
    · exact just5 size at_ n w (by omega)
  by_cases c7 : n > 2147483647
  · by_cases c6 : at_ ≤ 1000000
    · exact just6 size at_ n w (by omega)
    · exact just7 size at_ n w (by omega)
  by_cases c8 : at_ > 1000000
  · exact just8 size at_ n w (by omega)
  by_cases c9 : n > 1000000
  · exact just9 size at_ n w (by omega)
  exact just10 size at_ n w (by omega)
end Go.Proofs.Ytoefligelajfkaa.Block
