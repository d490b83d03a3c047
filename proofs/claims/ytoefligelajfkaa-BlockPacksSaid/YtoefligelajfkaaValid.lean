import Derived.Test.YtoefligelajfkaaValidSpec
import Derived.BigQuiet
namespace Go.Proofs.Ytoefligelajfkaa.Block
open Go.RowKit Go.Proofs.YtoefligelajfkaaW.PrintWords Go.Proofs.YtoefligelajfkaaW.PrintLast Go.Proofs.YtoefligelajfkaaW.PrintMore Go.Proofs.Ytoefligelajfkaa.Press
open Go.Proofs.Ytoefligelajfkaa.PBlockOpens (S58 k58 z58 k58_open k58_mk k58_mkM k58_openM rd_T58 at_T58 block_isSize.f block_isSize.calls)
attribute [local go_sem] max2_int min2_int max_two min_two

theorem add_0 (a : Addr) : a.add 0 = a := by unfold Addr.add; simp

set_option maxHeartbeats 4000000 in
theorem valid_walk (A0 : Option Addr) (c0 : Nat) (bl : List S58) (row size : Nat) (w : World) (hr0 : k58.C w A0 bl.length bl) (hl : bl.length ≤ 140737488355328) (hrow : row ≤ 65536) (hs1 : 16 ≤ size) (hs2 : size ≤ 4096) (hlen : (bl.length : Int) = ((row : Int) + (size : Int) - 1) / (size : Int)) :
    Calls Try.prog 40 #[.slice A0 bl.length c0, .int .i64 row, .int .i64 size] w fun e w' => e = .returned (.bool (validR size bl row (bl.headD z58).f0)) ∧ Below w.heap.size w w' := by
  obtain ⟨rs, hrs⟩ : ∃ rs, validR size bl row (bl.headD z58).f0 = rs := ⟨_, rfl⟩
  rw [hrs]
  have HR0 := Aside0.mk hr0
  clear hr0
  have hz : block_isSize.f (size : Int) = some true := by rw [isSize_f, decide_eq_true (show isSize (size : Int) from ⟨by omega, by omega⟩)]
  have HZ := Aside0.mk hz
  clear hz
  have g1 : decide ((row : Int) < 0) = false := by simp
  have g2 : decide ((65536 : Int) < (row : Int)) = false := by simp; omega
  by_cases hn : bl = []
  · subst hn
    have g3 : ((0 : Int) != ((row : Int) + (size : Int) - 1) / (size : Int)) = false := by simpa using hlen
    have hrt : rs = true := by rw [← hrs]; rfl
    subst hrt
    clear hlen hrs
    go_enter Try.func40, Try.ntmps40
    go_wp2_with (go_at_call 55; refine (block_isSize.calls _ _ _ HZ.out).mono ?_; rintro e w1 ⟨rfl, ⟨nd, rfl⟩⟩)
    go_loopg [42] 1 (fun k v42 w' => v42 = .int .i64 0 ∧ w' = w.drewN nd)
    case atStart => exact ⟨rfl, rfl⟩
    case round =>
      obtain ⟨rfl, rfl⟩ := hrel
      go_wp2
      go_ret
      exact ⟨rfl, pw_below_drewN (Below.refl _ _) _⟩
  have hn0 : 0 < bl.length := List.length_pos_iff.2 hn
  obtain ⟨a0, ha0⟩ : ∃ a0 : Int, (rd_T58 bl 0).f0 = a0 := ⟨_, rfl⟩
  have hr2 : validR size (bl.drop 0) row a0 = rs := by
    rw [← hrs, ← ha0]
    cases bl with
    | nil => exact absurd rfl hn
    | cons b t => rfl
  have HRS := Aside0.mk hr2
  have hgt : (0 : Int) < (bl.length : Int) := by omega
  have g3 : ((bl.length : Int) != ((row : Int) + (size : Int) - 1) / (size : Int)) = false := by simpa using hlen
  obtain ⟨ad, rfl, hc0, -, -, -⟩ := at_T58 HR0.out 0 (by omega) hgt
  rw [ha0] at hc0
  simp only [Int.toNat_zero, Nat.zero_mul, add_0] at hc0
  clear hr2 ha0 hrs hlen hn
  go_enter Try.func40, Try.ntmps40
  go_wp2_with (go_at_call 55; refine (block_isSize.calls _ _ _ HZ.out).mono ?_; rintro e w1 ⟨rfl, ⟨nd, rfl⟩⟩)
  have HB : Aside0 (Below w.heap.size w (w.drewN nd)) := ⟨pw_below_drewN (Below.refl _ _) _⟩
  generalize w.drewN nd = w1 at HB
  go_loopg [1, 7, 42] bl.length (fun k v1 v7 v42 w' => ∃ (rw_ : Nat) (at_ : Int) (j : Nat), v1 = .int .i64 rw_ ∧ v7 = .int .i64 at_ ∧ v42 = .int .i64 j ∧ j + k = bl.length ∧ rw_ ≤ 65536 ∧ Aside0 (validR size (bl.drop j) rw_ at_ = rs ∧ Below w.heap.size w w'))
  case atStart => exact ⟨row, a0, 0, rfl, rfl, rfl, by omega, hrow, ⟨HRS.out, HB.out⟩⟩
  case round =>
    clear HRS HB hc0 g1 g2 g3
    obtain ⟨rw_, at_, j, rfl, rfl, rfl, hjk, hrw, HI⟩ := hrel
    cases gk with
    | zero =>
      have hj : j = bl.length := by omega
      subst hj
      have hr := HI.out.1
      rw [List.drop_length] at hr
      have hrt : rs = true := by rw [← hr]; rfl
      subst hrt
      clear hr
      go_wp2
      go_ret
      exact ⟨rfl, HI.out.2⟩
    | succ k =>
      have hj : j < bl.length := by omega
      have hj1 : (j : Int) < (bl.length : Int) := by omega
      obtain ⟨ad2, e2, h0, h1, h2, h3⟩ := at_T58 (Kd.C_below HR0.out HI.out.2) (j : Int) (by omega) hj1
      cases e2
      have hrun := HI.out.1
      rw [drop_consB bl j hj] at hrun
      simp only [Int.toNat_natCast] at h0 h1 h2 h3
      obtain ⟨b, hb⟩ : ∃ b, rd_T58 bl (j : Int) = b := ⟨_, rfl⟩
      rw [hb] at h0 h1 h2 h3 hrun
      obtain ⟨y0, y1, y2, y3⟩ := b
      clear hb
      obtain ⟨raw, hraw⟩ : ∃ raw : Nat, raw = min size rw_ := ⟨_, rfl⟩
      have hmin : (if rw_ < size then (rw_ : Int) else (size : Int)) = (raw : Int) := by split <;> omega
      have hraw1 : raw ≤ rw_ := by omega
      have hraw2 : (raw : Int) = min (size : Int) (rw_ : Int) := by omega
      have HRUN := Aside0.mk hrun
      have HRAW := Aside0.mk hraw2
      clear hraw2 hraw
      simp only [] at h0 h1 h2 h3
      by_cases c1 : y2 ≠ (raw : Int)
      · have HF : Aside0 (rs = false) := ⟨by rw [← hrun]; exact validR_no (fun h => by have := HRAW.out; have h' := h.raw; (try simp only [] at h'); omega)⟩
        have f1 : (y2 != (raw : Int)) = true := by simpa using c1
        clear c1 hrun HRUN
        go_wp2
        go_ret
        exact ⟨by rw [HF.out]; rfl, bel_next HI.out.2 HI.out.2.size ((Below.refl _ _).alloc (Nat.le_refl _) _)⟩
      have f1 : (y2 != (raw : Int)) = false := by simpa using c1
      by_cases c2 : y1 < 1
      · have HF : Aside0 (rs = false) := ⟨by rw [← hrun]; exact validR_no (fun h => by have := HRAW.out; have h' := h.lo; (try simp only [] at h'); omega)⟩
        have f2 : decide (y1 < 1) = true := by simpa using c2
        clear c2 hrun HRUN
        go_wp2
        go_ret
        exact ⟨by rw [HF.out]; rfl, bel_next HI.out.2 HI.out.2.size ((Below.refl _ _).alloc (Nat.le_refl _) _)⟩
      have f2 : decide (y1 < 1) = false := by simp; omega
      by_cases c3 : y1 > (raw : Int)
      · have HF : Aside0 (rs = false) := ⟨by rw [← hrun]; exact validR_no (fun h => by have := HRAW.out; have h' := h.hi; (try simp only [] at h'); omega)⟩
        have f3 : decide ((raw : Int) < y1) = true := by simpa using c3
        clear c3 hrun HRUN
        go_wp2
        go_ret
        exact ⟨by rw [HF.out]; rfl, bel_next HI.out.2 HI.out.2.size ((Below.refl _ _).alloc (Nat.le_refl _) _)⟩
      have f3 : decide ((raw : Int) < y1) = false := by simp; omega
      by_cases c4 : y3 < 0
      · have HF : Aside0 (rs = false) := ⟨by rw [← hrun]; exact validR_no (fun h => by have := HRAW.out; have h' := h.s0; (try simp only [] at h'); omega)⟩
        have f4 : decide (y3 < 0) = true := by simpa using c4
        clear c4 hrun HRUN
        go_wp2
        go_ret
        exact ⟨by rw [HF.out]; rfl, bel_next HI.out.2 HI.out.2.size ((Below.refl _ _).alloc (Nat.le_refl _) _)⟩
      have f4 : decide (y3 < 0) = false := by simp; omega
      by_cases c5 : y3 > 4294967295
      · have HF : Aside0 (rs = false) := ⟨by rw [← hrun]; exact validR_no (fun h => by have := HRAW.out; have h' := h.s1; (try simp only [] at h'); omega)⟩
        have f5 : decide ((4294967295 : Int) < y3) = true := by simpa using c5
        clear c5 hrun HRUN
        go_wp2
        go_ret
        exact ⟨by rw [HF.out]; rfl, bel_next HI.out.2 HI.out.2.size ((Below.refl _ _).alloc (Nat.le_refl _) _)⟩
      have f5 : decide ((4294967295 : Int) < y3) = false := by simp; omega
      by_cases c6 : y0 ≠ at_
      · have HF : Aside0 (rs = false) := ⟨by rw [← hrun]; exact validR_no (fun h => by have := HRAW.out; have h' := h.pos; (try simp only [] at h'); omega)⟩
        have f6 : (y0 != at_) = true := by simpa using c6
        clear c6 hrun HRUN
        go_wp2
        go_ret
        exact ⟨by rw [HF.out]; rfl, bel_next HI.out.2 HI.out.2.size ((Below.refl _ _).alloc (Nat.le_refl _) _)⟩
      have f6 : (y0 != at_) = false := by simpa using c6
      by_cases c7 : at_ < 0
      · have HF : Aside0 (rs = false) := ⟨by rw [← hrun]; exact validR_no (fun h => by have := HRAW.out; have h' := h.a0; (try simp only [] at h'); omega)⟩
        have f7 : decide (at_ < 0) = true := by simpa using c7
        clear c7 hrun HRUN
        go_wp2
        go_ret
        exact ⟨by rw [HF.out]; rfl, bel_next HI.out.2 HI.out.2.size ((Below.refl _ _).alloc (Nat.le_refl _) _)⟩
      have f7 : decide (at_ < 0) = false := by simp; omega
      by_cases c8 : at_ > 2147483647
      · have HF : Aside0 (rs = false) := ⟨by rw [← hrun]; exact validR_no (fun h => by have := HRAW.out; have h' := h.a1; (try simp only [] at h'); omega)⟩
        have f8 : decide ((2147483647 : Int) < at_) = true := by simpa using c8
        clear c8 hrun HRUN
        go_wp2
        go_ret
        exact ⟨by rw [HF.out]; rfl, bel_next HI.out.2 HI.out.2.size ((Below.refl _ _).alloc (Nat.le_refl _) _)⟩
      have f8 : decide ((2147483647 : Int) < at_) = false := by simp; omega
      have hok : vOk (size : Int) (rw_ : Int) at_ ⟨y0, y1, y2, y3⟩ := by
        have := HRAW.out
        exact ⟨by simp only []; omega, by simp only []; omega, by simp only []; omega, by simp only []; omega, by simp only []; omega, by simp only []; omega, by omega, by omega⟩
      rw [validR_ok hok] at hrun
      have hrun2 : Aside0 (validR size (bl.drop (j + 1)) ((rw_ - raw : Nat) : Int) (at_ + y1) = rs) := ⟨by
        have := HRAW.out
        rw [← hrun, ← this]
        simp only []
        congr 1
        omega⟩
      have hsub : (rw_ : Int) - (raw : Int) = ((rw_ - raw : Nat) : Int) := by omega
      clear hrun HRUN hok
      go_wp2
      go_roundg k
      case measure => omega
      case rel => exact ⟨rw_ - raw, at_ + y1, j + 1, by go_num, rfl, by go_num, by omega, by omega, ⟨hrun2.out, bel_next HI.out.2 HI.out.2.size ((Below.refl _ _).alloc (Nat.le_refl _) _)⟩⟩

theorem valid_any (A0 : Option Addr) (c0 : Nat) (bl : List S58) (row size : Int) (w : World) (hr0 : k58.C w A0 bl.length bl) (hl : bl.length ≤ 140737488355328) :
    Calls Try.prog 40 #[.slice A0 bl.length c0, .int .i64 row, .int .i64 size] w fun e w' => e = .returned (.bool (validS bl row size)) ∧ Below w.heap.size w w' := by
  by_cases h1 : row < 0
  · have e : validS bl row size = false := by unfold validS; rw [if_pos (.inl h1)]
    rw [e]
    go_enter Try.func40, Try.ntmps40
    go_wp2
    go_ret
    exact ⟨rfl, Below.refl _ _⟩
  have g1 : decide (row < 0) = false := by simp; omega
  by_cases h2 : row > 65536
  · have e : validS bl row size = false := by unfold validS; rw [if_pos (.inr (.inl h2))]
    rw [e]
    have g2 : (65536 : Int) < row := h2
    go_enter Try.func40, Try.ntmps40
    go_wp2
    go_ret
    exact ⟨rfl, Below.refl _ _⟩
  have g2 : decide ((65536 : Int) < row) = false := by simp; omega
  by_cases hz : isSize size
  · have HZ := Aside0.mk (show block_isSize.f size = some true by rw [isSize_f, decide_eq_true hz])
    by_cases h4 : (bl.length : Int) ≠ (row + size - 1) / size
    · have e : validS bl row size = false := by unfold validS; rw [if_pos (.inr (.inr (.inr h4)))]
      rw [e]
      have hz' := hz
      obtain ⟨z1, z2⟩ := hz'
      have g4 : ((bl.length : Int) != (row + size - 1) / size) = true := by simpa using h4
      clear h4 hz e
      go_enter Try.func40, Try.ntmps40
      go_wp2_with (go_at_call 55; refine (block_isSize.calls _ _ _ HZ.out).mono ?_; rintro e w1 ⟨rfl, ⟨nd, rfl⟩⟩)
      go_ret
      exact ⟨rfl, pw_below_drewN (Below.refl _ _) _⟩
    · have hz' := hz
      obtain ⟨z1, z2⟩ := hz'
      obtain ⟨r, rfl⟩ := Int.eq_ofNat_of_zero_le (a := row) (by omega)
      obtain ⟨s, rfl⟩ := Int.eq_ofNat_of_zero_le (a := size) (by omega)
      have e : validS bl (r : Int) (s : Int) = validR s bl r (bl.headD z58).f0 := by
        unfold validS
        rw [if_neg]
        simp only [not_or, Classical.not_not]
        exact ⟨h1, h2, hz, Classical.not_not.1 h4⟩
      rw [e]
      exact valid_walk A0 c0 bl r s w hr0 hl (by omega) (by omega) (by omega) (Classical.not_not.1 h4)
  · have HZ := Aside0.mk (show block_isSize.f size = some false by rw [isSize_f, decide_eq_false hz])
    have e : validS bl row size = false := by unfold validS; rw [if_pos (.inr (.inr (.inl hz)))]
    rw [e]
    clear hz e
    go_enter Try.func40, Try.ntmps40
    go_wp2_with (go_at_call 55; refine (block_isSize.calls _ _ _ HZ.out).mono ?_; rintro e w1 ⟨rfl, ⟨nd, rfl⟩⟩)
    go_ret
    exact ⟨rfl, pw_below_drewN (Below.refl _ _) _⟩
end Go.Proofs.Ytoefligelajfkaa.Block
