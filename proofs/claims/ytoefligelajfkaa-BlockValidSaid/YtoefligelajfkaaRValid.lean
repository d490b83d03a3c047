import Derived.Test.YtoefligelajfkaaValid
import Derived.Test.YtoefligelajfkaaRefCover
import Derived.BigQuiet
import Derived.IntWalk
namespace Go.Proofs.Ytoefligelajfkaa.Block
open Go.RowKit Go.Proofs.YtoefligelajfkaaW.PrintWords Go.Proofs.YtoefligelajfkaaW.PrintLast Go.Proofs.YtoefligelajfkaaW.PrintMore Go.Proofs.Ytoefligelajfkaa.Press
open Go.Proofs.Ytoefligelajfkaa.PBlockOpens (S58 k58 z58 k58_open k58_mk k58_mkM k58_openM rd_T58 at_T58 freightref11_isSize.f freightref11_isSize.calls)

theorem ref_isSize_f (size : Int) : freightref11_isSize.f size = some (decide (isSize size)) := isSize_f size

/-- What is known at the head of a round of the document's Valid. -/
structure RV (w0 : World) (bl : List S58) (row size : Nat) (rs : Bool) (w : World) (at_ : Int) (j : Nat) : Prop where
  run : validR size (bl.drop j) ((row : Int) - (j : Int) * (size : Int)) at_ = rs
  at0 : j = 0 → (rd_T58 bl (j : Int)).f0 = at_
  prev : ∀ j1, j = j1 + 1 → at_ = (rd_T58 bl (j1 : Int)).f0 + (rd_T58 bl (j1 : Int)).f1 ∧ 0 ≤ (rd_T58 bl (j1 : Int)).f0 ∧ (rd_T58 bl (j1 : Int)).f0 ≤ 2147483647 ∧ 1 ≤ (rd_T58 bl (j1 : Int)).f1 ∧ (rd_T58 bl (j1 : Int)).f1 ≤ 65536
  bel : Below w0.heap.size w0 w
theorem RV.below {w0 : World} {bl : List S58} {row size : Nat} {rs : Bool} {w w1 : World} {at_ : Int} {j : Nat} (h : RV w0 bl row size rs w at_ j) (hb : Below w.heap.size w w1) : RV w0 bl row size rs w1 at_ j := ⟨h.run, h.at0, h.prev, below_step h.bel hb⟩
theorem RV.next {w0 : World} {bl : List S58} {row size : Nat} {rs : Bool} {w : World} {at_ : Int} {j : Nat} {b : S58} {raw : Nat} (h : RV w0 bl row size rs w at_ j) (hj : j < bl.length) (hrow : row ≤ 65536) (hb : rd_T58 bl (j : Int) = b) (hraw : (raw : Int) = min (size : Int) ((row : Int) - (j : Int) * (size : Int)))
    (hlast : (j + 1 < bl.length → (raw : Int) = (size : Int))) (hok : vOk (size : Int) ((row : Int) - (j : Int) * (size : Int)) at_ b) (hf : b.f0 = at_) : RV w0 bl row size rs w (at_ + b.f1) (j + 1) := by
  have hrun := h.run
  rw [drop_consB bl j hj, hb, validR_ok hok] at hrun
  refine ⟨?_, fun h0 => absurd h0 (by omega), fun j1 hj1 => ?_, h.bel⟩
  · by_cases hl : j + 1 < bl.length
    · rw [← hrun, ← hraw, hlast hl]
      congr 1
      have : ((j + 1 : Nat) : Int) * (size : Int) = (j : Int) * (size : Int) + (size : Int) := by
        rw [Int.natCast_add, Int.add_mul]; simp
      rw [this]; omega
    · have e : bl.drop (j + 1) = [] := List.drop_eq_nil_of_le (by omega)
      rw [e] at hrun ⊢
      exact hrun
  · have : j1 = j := by omega
    subst this
    rw [hb]
    have := hok.lo
    have := hok.hi
    have := hok.a0
    have := hok.a1
    have h2 : min (size : Int) ((row : Int) - (j1 : Int) * (size : Int)) ≤ (row : Int) := by
      have : 0 ≤ (j1 : Int) * (size : Int) := Int.mul_nonneg (by omega) (by omega)
      omega
    exact ⟨by omega, by omega, by omega, by omega, by omega⟩

set_option maxRecDepth 100000 in
set_option maxHeartbeats 8000000 in
theorem rvalid_walk (A0 : Option Addr) (c0 : Nat) (bl : List S58) (row size : Nat) (w : World) (hr0 : k58.C w A0 bl.length bl) (hl : bl.length ≤ 140737488355328) (hrow : row ≤ 65536) (hs1 : 16 ≤ size) (hs2 : size ≤ 4096) (hlen : (bl.length : Int) = ((row : Int) + (size : Int) - 1) / (size : Int)) :
    Calls Try.prog 41 #[.slice A0 bl.length c0, .int .i64 row, .int .i64 size] w fun e w' => e = .returned (.bool (validR size bl row (bl.headD z58).f0)) ∧ Below w.heap.size w w' := by
  obtain ⟨rs, hrs⟩ : ∃ rs, validR size bl row (bl.headD z58).f0 = rs := ⟨_, rfl⟩
  rw [hrs]
  have HR0 := Aside0.mk hr0
  clear hr0
  have hz : freightref11_isSize.f (size : Int) = some true := by rw [ref_isSize_f, decide_eq_true (show isSize (size : Int) from ⟨by omega, by omega⟩)]
  have HZ := Aside0.mk hz
  clear hz
  have g1 : decide ((row : Int) < 0) = false := by simp
  have g2 : decide ((65536 : Int) < (row : Int)) = false := by simp; omega
  have g3 : ((bl.length : Int) != ((row : Int) + (size : Int) - 1) / (size : Int)) = false := by simpa using hlen
  have hdm := Int.mul_ediv_add_emod ((row : Int) + (size : Int) - 1) (size : Int)
  have hm0 := Int.emod_nonneg ((row : Int) + (size : Int) - 1) (show (size : Int) ≠ 0 by omega)
  have hm1 := Int.emod_lt_of_pos ((row : Int) + (size : Int) - 1) (show 0 < (size : Int) by omega)
  rw [← hlen] at hdm
  have HD : Aside0 ((bl.length : Int) * (size : Int) ≤ (row : Int) + (size : Int) - 1 ∧ (row : Int) ≤ (bl.length : Int) * (size : Int)) := ⟨by rw [Int.mul_comm]; omega⟩
  have HV0 : Aside0 (RV w bl row size rs w (rd_T58 bl (0 : Int)).f0 0) := ⟨⟨by
    rw [← hrs]
    simp only [List.drop_zero, Int.natCast_zero, Int.zero_mul, Int.sub_zero]
    cases bl <;> rfl, fun _ => rfl, fun j1 h => absurd h (by omega), Below.refl _ _⟩⟩
  by_cases hn : bl = []
  · subst hn
    have g3n : ((0 : Int) != ((row : Int) + (size : Int) - 1) / (size : Int)) = false := by simpa using hlen
    have hrt : rs = true := by rw [← hrs]; rfl
    subst hrt
    clear hlen hrs hdm g3 HD
    go_enter Try.func41, Try.ntmps41
    go_wp2_with (go_at_call 53; refine (freightref11_isSize.calls _ _ _ HZ.out).mono ?_; rintro e w1 ⟨rfl, ⟨nd, rfl⟩⟩)
    go_loopg [7] 1 (fun k v7 w' => v7 = .int .i64 0 ∧ w' = w.drewN nd)
    case atStart => exact ⟨rfl, rfl⟩
    case round =>
      obtain ⟨rfl, rfl⟩ := hrel
      go_wp2
      go_ret
      exact ⟨rfl, pw_below_drewN (Below.refl _ _) _⟩
  have hn0 : 0 < bl.length := List.length_pos_iff.2 hn
  clear hrs hlen hn hdm hm0 hm1
  go_enter Try.func41, Try.ntmps41
  go_wp2_with (go_at_call 53; refine (freightref11_isSize.calls _ _ _ HZ.out).mono ?_; rintro e w1 ⟨rfl, ⟨nd, rfl⟩⟩)
  have HV1 := Aside0.mk (HV0.out.below (pw_below_drewN (Below.refl _ _) nd))
  generalize w.drewN nd = w1 at HV1
  go_loopg [7] bl.length (fun k v7 w' => ∃ (at_ : Int) (j : Nat), v7 = .int .i64 j ∧ j + k = bl.length ∧ Aside0 (RV w bl row size rs w' at_ j))
  case atStart => exact ⟨_, 0, rfl, by omega, HV1⟩
  case round =>
    clear HV0 HV1 g1 g2 g3
    obtain ⟨at_, j, rfl, hjk, HI⟩ := hrel
    cases gk with
    | zero =>
      have hj : j = bl.length := by omega
      subst hj
      have hr := HI.out.run
      rw [List.drop_length] at hr
      have hrt : rs = true := by rw [← hr]; rfl
      subst hrt
      clear hr
      go_wp2
      go_ret
      exact ⟨rfl, HI.out.bel⟩
    | succ k =>
      have hj : j < bl.length := by omega
      have hj1 : (j : Int) < (bl.length : Int) := by omega
      obtain ⟨ad2, e2, h0, h1, h2, h3⟩ := at_T58 (Kd.C_below HR0.out HI.out.bel) (j : Int) (by omega) hj1
      cases e2
      have hrun := HI.out.run
      rw [drop_consB bl j hj] at hrun
      simp only [Int.toNat_natCast] at h0 h1 h2 h3
      obtain ⟨b, hb⟩ : ∃ b, rd_T58 bl (j : Int) = b := ⟨_, rfl⟩
      rw [hb] at h0 h1 h2 h3 hrun
      obtain ⟨y0, y1, y2, y3⟩ := b
      have hbk := Aside0.mk hb
      have hbb : (rd_T58 bl (j : Int)).f0 = y0 := by rw [hb]
      clear hb
      have hR1 := Aside0.mk hrow
      simp only [] at h0 h1 h2 h3
      -- j * size: one number
      have hjs : (j : Int) * (size : Int) + (size : Int) ≤ (bl.length : Int) * (size : Int) := by
        have : ((j : Int) + 1) * (size : Int) ≤ (bl.length : Int) * (size : Int) := Int.mul_le_mul_of_nonneg_right (by omega) (by omega)
        rw [Int.add_mul, Int.one_mul] at this
        exact this
      have hjs0 : 0 ≤ (j : Int) * (size : Int) := Int.mul_nonneg (by omega) (by omega)
      have hjr : (j : Int) * (size : Int) < (row : Int) := by have := HD.out; omega
      by_cases hlast : j + 1 = bl.length
      · obtain ⟨raw, hraw⟩ : ∃ raw : Nat, (row : Int) - (j : Int) * (size : Int) = (raw : Int) := ⟨((row : Int) - (j : Int) * (size : Int)).toNat, by omega⟩
        have hraw2 : (raw : Int) = min (size : Int) ((row : Int) - (j : Int) * (size : Int)) := by
          have h1 := HD.out.2
          have h2 : (bl.length : Int) * (size : Int) = (j : Int) * (size : Int) + (size : Int) := by
            rw [← hlast, Int.natCast_add, Int.add_mul]; simp
          omega
        have HLAST : Aside0 (j + 1 < bl.length → (raw : Int) = (size : Int)) := ⟨fun h => absurd h (by omega)⟩
        have HRUN := Aside0.mk hrun
        have HRAW := Aside0.mk hraw2
        have g7 : ((j : Int) == (bl.length : Int) - 1) = true := by rw [beq_iff_eq]; omega
        clear hraw2 hlast
        by_cases c1 : y2 ≠ (raw : Int)
        · have HF : Aside0 (rs = false) := ⟨by rw [← hrun]; exact validR_no (fun h => by have := HRAW.out; have h' := h.raw; (try simp only [] at h'); omega)⟩
          have f1 : (y2 != (raw : Int)) = true := by simpa using c1
          clear c1 hrun HRUN
          go_wp2
          go_ret
          exact ⟨by rw [HF.out]; rfl, bel_next HI.out.bel HI.out.bel.size ((Below.refl _ _).alloc (Nat.le_refl _) _)⟩
        have f1 : (y2 != (raw : Int)) = false := by simpa using c1
        by_cases c2 : y1 < 1
        · have HF : Aside0 (rs = false) := ⟨by rw [← hrun]; exact validR_no (fun h => by have := HRAW.out; have h' := h.lo; (try simp only [] at h'); omega)⟩
          have f2 : decide (y1 < 1) = true := by simpa using c2
          clear c2 hrun HRUN
          go_wp2
          go_ret
          exact ⟨by rw [HF.out]; rfl, bel_next HI.out.bel HI.out.bel.size ((Below.refl _ _).alloc (Nat.le_refl _) _)⟩
        have f2 : decide (y1 < 1) = false := by simp; omega
        by_cases c3 : y1 > (raw : Int)
        · have HF : Aside0 (rs = false) := ⟨by rw [← hrun]; exact validR_no (fun h => by have := HRAW.out; have h' := h.hi; (try simp only [] at h'); omega)⟩
          have f3 : decide ((raw : Int) < y1) = true := by simpa using c3
          clear c3 hrun HRUN
          go_wp2
          go_ret
          exact ⟨by rw [HF.out]; rfl, bel_next HI.out.bel HI.out.bel.size ((Below.refl _ _).alloc (Nat.le_refl _) _)⟩
        have f3 : decide ((raw : Int) < y1) = false := by simp; omega
        by_cases c4 : y3 < 0
        · have HF : Aside0 (rs = false) := ⟨by rw [← hrun]; exact validR_no (fun h => by have := HRAW.out; have h' := h.s0; (try simp only [] at h'); omega)⟩
          have f4 : decide (y3 < 0) = true := by simpa using c4
          clear c4 hrun HRUN
          go_wp2
          go_ret
          exact ⟨by rw [HF.out]; rfl, bel_next HI.out.bel HI.out.bel.size ((Below.refl _ _).alloc (Nat.le_refl _) _)⟩
        have f4 : decide (y3 < 0) = false := by simp; omega
        by_cases c5 : y3 > 4294967295
        · have HF : Aside0 (rs = false) := ⟨by rw [← hrun]; exact validR_no (fun h => by have := HRAW.out; have h' := h.s1; (try simp only [] at h'); omega)⟩
          have f5 : decide ((4294967295 : Int) < y3) = true := by simpa using c5
          clear c5 hrun HRUN
          go_wp2
          go_ret
          exact ⟨by rw [HF.out]; rfl, bel_next HI.out.bel HI.out.bel.size ((Below.refl _ _).alloc (Nat.le_refl _) _)⟩
        have f5 : decide ((4294967295 : Int) < y3) = false := by simp; omega
        by_cases c6 : y0 < 0
        · have HF : Aside0 (rs = false) := ⟨by rw [← hrun]; exact validR_no (fun h => by have h1 := h.pos; have h2 := h.a0; have h3 := h.a1; (try simp only [] at h1); omega)⟩
          have f6 : decide (y0 < 0) = true := by simpa using c6
          clear c6 hrun HRUN
          go_wp2
          go_ret
          exact ⟨by rw [HF.out]; rfl, bel_next HI.out.bel HI.out.bel.size ((Below.refl _ _).alloc (Nat.le_refl _) _)⟩
        have f6 : decide (y0 < 0) = false := by simp; omega
        by_cases c7 : y0 > 2147483647
        · have HF : Aside0 (rs = false) := ⟨by rw [← hrun]; exact validR_no (fun h => by have h1 := h.pos; have h2 := h.a0; have h3 := h.a1; (try simp only [] at h1); omega)⟩
          have f7 : decide ((2147483647 : Int) < y0) = true := by simpa using c7
          clear c7 hrun HRUN
          go_wp2
          go_ret
          exact ⟨by rw [HF.out]; rfl, bel_next HI.out.bel HI.out.bel.size ((Below.refl _ _).alloc (Nat.le_refl _) _)⟩
        have f7 : decide ((2147483647 : Int) < y0) = false := by simp; omega
        by_cases hj0 : j = 0
        · have hat : y0 = at_ := by rw [← hbb]; exact HI.out.at0 hj0
          have hok : vOk (size : Int) ((row : Int) - (j : Int) * (size : Int)) at_ ⟨y0, y1, y2, y3⟩ := by
            have := HRAW.out
            exact ⟨by simp only []; omega, by simp only []; omega, by simp only []; omega, by simp only []; omega, by simp only []; omega, by simp only []; omega, by omega, by omega⟩
          have hN := Aside0.mk (HI.out.next hj hR1.out hbk.out HRAW.out HLAST.out hok (by simp only []; omega))
          have g8 : decide ((0 : Int) < (j : Int)) = false := by simp; omega
          have g8b : decide (0 < j) = false := by simp; omega
          clear hrun HRUN hok hat hj0
          go_wp2
          go_quiet (fail)
          go_wp2
          go_roundg k
          case measure => omega
          case rel => exact ⟨_, j + 1, by go_num, by omega, ⟨(hN.out.below (below_alloc (Below.refl _ _) _)).below (pw_below_drewN (Below.refl _ _) _)⟩⟩
        · obtain ⟨j1, hj1e⟩ : ∃ j1, j = j1 + 1 := ⟨j - 1, by omega⟩
          obtain ⟨p, hp⟩ : ∃ p, rd_T58 bl (j1 : Int) = p := ⟨_, rfl⟩
          have hpv := HI.out.prev j1 hj1e
          rw [hp] at hpv
          obtain ⟨ad3, e3, q0, q1, -, -⟩ := at_T58 (Kd.C_below HR0.out HI.out.bel) (j1 : Int) (by omega) (by omega)
          cases e3
          simp only [Int.toNat_natCast] at q0 q1
          rw [hp] at q0 q1
          obtain ⟨p0, p1, p2, p3⟩ := p
          simp only [] at q0 q1 hpv
          have r0 := cell_alloc q0 (.cells #[.int .i64 y0, .int .i64 y1, .int .i64 y2, .int .i64 y3] 58)
          have r1 := cell_alloc q1 (.cells #[.int .i64 y0, .int .i64 y1, .int .i64 y2, .int .i64 y3] 58)
          have g8 : decide ((0 : Int) < (j : Int)) = true := by simp; omega
          have g8b : decide (0 < j) = true := by simp; omega
          have g8c : 0 < j := by omega
          have g9 : IntKind.i64.wrap ((j : Int) - 1) = (j1 : Int) := by rw [IntWalk.i64_in _ (by omega)]; omega
          have g10 : (j1 : Int) < (bl.length : Int) := by omega
          have g11 : IntKind.i64.wrap (p0 + p1) = p0 + p1 := IntWalk.i64_in _ (by omega)
          by_cases c8 : y0 ≠ p0 + p1
          · have HF : Aside0 (rs = false) := ⟨by rw [← hrun]; exact validR_no (fun h => by have h1 := h.pos; simp only [] at h1; omega)⟩
            have f8 : (y0 != p0 + p1) = true := by simpa using c8
            clear c8 hrun HRUN hp hj1e
            go_wp2
            go_quiet (fail)
            go_wp2
            go_ret
            exact ⟨by rw [HF.out]; rfl, pw_below_drewN (bel_next HI.out.bel HI.out.bel.size ((Below.refl _ _).alloc (Nat.le_refl _) _)) _⟩
          · have f8 : (y0 != p0 + p1) = false := by simpa using c8
            have hok : vOk (size : Int) ((row : Int) - (j : Int) * (size : Int)) at_ ⟨y0, y1, y2, y3⟩ := by
              have := HRAW.out
              exact ⟨by simp only []; omega, by simp only []; omega, by simp only []; omega, by simp only []; omega, by simp only []; omega, by simp only []; omega, by omega, by omega⟩
            have hN := Aside0.mk (HI.out.next hj hR1.out hbk.out HRAW.out HLAST.out hok (by simp only []; omega))
            clear c8 hrun HRUN hok hp hj1e hj0
            go_wp2
            go_quiet (fail)
            go_wp2
            go_roundg k
            case measure => omega
            case rel => exact ⟨_, j + 1, by go_num, by omega, ⟨(hN.out.below (below_alloc (Below.refl _ _) _)).below (pw_below_drewN (Below.refl _ _) _)⟩⟩
      · have hj2 : j + 2 ≤ bl.length := by omega
        have hjs2 : (j : Int) * (size : Int) + 2 * (size : Int) ≤ (bl.length : Int) * (size : Int) := by
          have : ((j : Int) + 2) * (size : Int) ≤ (bl.length : Int) * (size : Int) := Int.mul_le_mul_of_nonneg_right (by omega) (by omega)
          rw [Int.add_mul] at this
          exact this
        obtain ⟨raw, hraw⟩ : ∃ raw : Nat, size = raw := ⟨_, rfl⟩
        have hraw2 : (raw : Int) = min (size : Int) ((row : Int) - (j : Int) * (size : Int)) := by have := HD.out; omega
        have HLAST : Aside0 (j + 1 < bl.length → (raw : Int) = (size : Int)) := ⟨fun _ => by omega⟩
        have HRUN := Aside0.mk hrun
        have HRAW := Aside0.mk hraw2
        have g7 : ((j : Int) == (bl.length : Int) - 1) = false := by rw [beq_eq_false_iff_ne]; omega
        clear hraw2 hlast
        subst hraw
        by_cases c1 : y2 ≠ (size : Int)
        · have HF : Aside0 (rs = false) := ⟨by rw [← hrun]; exact validR_no (fun h => by have := HRAW.out; have h' := h.raw; (try simp only [] at h'); omega)⟩
          have f1 : (y2 != (size : Int)) = true := by simpa using c1
          clear c1 hrun HRUN
          go_wp2
          go_ret
          exact ⟨by rw [HF.out]; rfl, bel_next HI.out.bel HI.out.bel.size ((Below.refl _ _).alloc (Nat.le_refl _) _)⟩
        have f1 : (y2 != (size : Int)) = false := by simpa using c1
        by_cases c2 : y1 < 1
        · have HF : Aside0 (rs = false) := ⟨by rw [← hrun]; exact validR_no (fun h => by have := HRAW.out; have h' := h.lo; (try simp only [] at h'); omega)⟩
          have f2 : decide (y1 < 1) = true := by simpa using c2
          clear c2 hrun HRUN
          go_wp2
          go_ret
          exact ⟨by rw [HF.out]; rfl, bel_next HI.out.bel HI.out.bel.size ((Below.refl _ _).alloc (Nat.le_refl _) _)⟩
        have f2 : decide (y1 < 1) = false := by simp; omega
        by_cases c3 : y1 > (size : Int)
        · have HF : Aside0 (rs = false) := ⟨by rw [← hrun]; exact validR_no (fun h => by have := HRAW.out; have h' := h.hi; (try simp only [] at h'); omega)⟩
          have f3 : decide ((size : Int) < y1) = true := by simpa using c3
          clear c3 hrun HRUN
          go_wp2
          go_ret
          exact ⟨by rw [HF.out]; rfl, bel_next HI.out.bel HI.out.bel.size ((Below.refl _ _).alloc (Nat.le_refl _) _)⟩
        have f3 : decide ((size : Int) < y1) = false := by simp; omega
        by_cases c4 : y3 < 0
        · have HF : Aside0 (rs = false) := ⟨by rw [← hrun]; exact validR_no (fun h => by have := HRAW.out; have h' := h.s0; (try simp only [] at h'); omega)⟩
          have f4 : decide (y3 < 0) = true := by simpa using c4
          clear c4 hrun HRUN
          go_wp2
          go_ret
          exact ⟨by rw [HF.out]; rfl, bel_next HI.out.bel HI.out.bel.size ((Below.refl _ _).alloc (Nat.le_refl _) _)⟩
        have f4 : decide (y3 < 0) = false := by simp; omega
        by_cases c5 : y3 > 4294967295
        · have HF : Aside0 (rs = false) := ⟨by rw [← hrun]; exact validR_no (fun h => by have := HRAW.out; have h' := h.s1; (try simp only [] at h'); omega)⟩
          have f5 : decide ((4294967295 : Int) < y3) = true := by simpa using c5
          clear c5 hrun HRUN
          go_wp2
          go_ret
          exact ⟨by rw [HF.out]; rfl, bel_next HI.out.bel HI.out.bel.size ((Below.refl _ _).alloc (Nat.le_refl _) _)⟩
        have f5 : decide ((4294967295 : Int) < y3) = false := by simp; omega
        by_cases c6 : y0 < 0
        · have HF : Aside0 (rs = false) := ⟨by rw [← hrun]; exact validR_no (fun h => by have h1 := h.pos; have h2 := h.a0; have h3 := h.a1; (try simp only [] at h1); omega)⟩
          have f6 : decide (y0 < 0) = true := by simpa using c6
          clear c6 hrun HRUN
          go_wp2
          go_ret
          exact ⟨by rw [HF.out]; rfl, bel_next HI.out.bel HI.out.bel.size ((Below.refl _ _).alloc (Nat.le_refl _) _)⟩
        have f6 : decide (y0 < 0) = false := by simp; omega
        by_cases c7 : y0 > 2147483647
        · have HF : Aside0 (rs = false) := ⟨by rw [← hrun]; exact validR_no (fun h => by have h1 := h.pos; have h2 := h.a0; have h3 := h.a1; (try simp only [] at h1); omega)⟩
          have f7 : decide ((2147483647 : Int) < y0) = true := by simpa using c7
          clear c7 hrun HRUN
          go_wp2
          go_ret
          exact ⟨by rw [HF.out]; rfl, bel_next HI.out.bel HI.out.bel.size ((Below.refl _ _).alloc (Nat.le_refl _) _)⟩
        have f7 : decide ((2147483647 : Int) < y0) = false := by simp; omega
        by_cases hj0 : j = 0
        · have hat : y0 = at_ := by rw [← hbb]; exact HI.out.at0 hj0
          have hok : vOk (size : Int) ((row : Int) - (j : Int) * (size : Int)) at_ ⟨y0, y1, y2, y3⟩ := by
            have := HRAW.out
            exact ⟨by simp only []; omega, by simp only []; omega, by simp only []; omega, by simp only []; omega, by simp only []; omega, by simp only []; omega, by omega, by omega⟩
          have hN := Aside0.mk (HI.out.next hj hR1.out hbk.out HRAW.out HLAST.out hok (by simp only []; omega))
          have g8 : decide ((0 : Int) < (j : Int)) = false := by simp; omega
          have g8b : decide (0 < j) = false := by simp; omega
          clear hrun HRUN hok hat hj0
          go_wp2
          go_quiet (fail)
          go_wp2
          go_roundg k
          case measure => omega
          case rel => exact ⟨_, j + 1, by go_num, by omega, ⟨(hN.out.below (below_alloc (Below.refl _ _) _)).below (pw_below_drewN (Below.refl _ _) _)⟩⟩
        · obtain ⟨j1, hj1e⟩ : ∃ j1, j = j1 + 1 := ⟨j - 1, by omega⟩
          obtain ⟨p, hp⟩ : ∃ p, rd_T58 bl (j1 : Int) = p := ⟨_, rfl⟩
          have hpv := HI.out.prev j1 hj1e
          rw [hp] at hpv
          obtain ⟨ad3, e3, q0, q1, -, -⟩ := at_T58 (Kd.C_below HR0.out HI.out.bel) (j1 : Int) (by omega) (by omega)
          cases e3
          simp only [Int.toNat_natCast] at q0 q1
          rw [hp] at q0 q1
          obtain ⟨p0, p1, p2, p3⟩ := p
          simp only [] at q0 q1 hpv
          have r0 := cell_alloc q0 (.cells #[.int .i64 y0, .int .i64 y1, .int .i64 y2, .int .i64 y3] 58)
          have r1 := cell_alloc q1 (.cells #[.int .i64 y0, .int .i64 y1, .int .i64 y2, .int .i64 y3] 58)
          have g8 : decide ((0 : Int) < (j : Int)) = true := by simp; omega
          have g8b : decide (0 < j) = true := by simp; omega
          have g8c : 0 < j := by omega
          have g9 : IntKind.i64.wrap ((j : Int) - 1) = (j1 : Int) := by rw [IntWalk.i64_in _ (by omega)]; omega
          have g10 : (j1 : Int) < (bl.length : Int) := by omega
          have g11 : IntKind.i64.wrap (p0 + p1) = p0 + p1 := IntWalk.i64_in _ (by omega)
          by_cases c8 : y0 ≠ p0 + p1
          · have HF : Aside0 (rs = false) := ⟨by rw [← hrun]; exact validR_no (fun h => by have h1 := h.pos; simp only [] at h1; omega)⟩
            have f8 : (y0 != p0 + p1) = true := by simpa using c8
            clear c8 hrun HRUN hp hj1e
            go_wp2
            go_quiet (fail)
            go_wp2
            go_ret
            exact ⟨by rw [HF.out]; rfl, pw_below_drewN (bel_next HI.out.bel HI.out.bel.size ((Below.refl _ _).alloc (Nat.le_refl _) _)) _⟩
          · have f8 : (y0 != p0 + p1) = false := by simpa using c8
            have hok : vOk (size : Int) ((row : Int) - (j : Int) * (size : Int)) at_ ⟨y0, y1, y2, y3⟩ := by
              have := HRAW.out
              exact ⟨by simp only []; omega, by simp only []; omega, by simp only []; omega, by simp only []; omega, by simp only []; omega, by simp only []; omega, by omega, by omega⟩
            have hN := Aside0.mk (HI.out.next hj hR1.out hbk.out HRAW.out HLAST.out hok (by simp only []; omega))
            clear c8 hrun HRUN hok hp hj1e hj0
            go_wp2
            go_quiet (fail)
            go_wp2
            go_roundg k
            case measure => omega
            case rel => exact ⟨_, j + 1, by go_num, by omega, ⟨(hN.out.below (below_alloc (Below.refl _ _) _)).below (pw_below_drewN (Below.refl _ _) _)⟩⟩

theorem rvalid_any (A0 : Option Addr) (c0 : Nat) (bl : List S58) (row size : Int) (w : World) (hr0 : k58.C w A0 bl.length bl) (hl : bl.length ≤ 140737488355328) :
    Calls Try.prog 41 #[.slice A0 bl.length c0, .int .i64 row, .int .i64 size] w fun e w' => e = .returned (.bool (validS bl row size)) ∧ Below w.heap.size w w' := by
  by_cases h1 : row < 0
  · have e : validS bl row size = false := by unfold validS; rw [if_pos (.inl h1)]
    rw [e]
    go_enter Try.func41, Try.ntmps41
    go_wp2
    go_ret
    exact ⟨rfl, Below.refl _ _⟩
  have g1 : decide (row < 0) = false := by simp; omega
  by_cases h2 : row > 65536
  · have e : validS bl row size = false := by unfold validS; rw [if_pos (.inr (.inl h2))]
    rw [e]
    have g2 : (65536 : Int) < row := h2
    go_enter Try.func41, Try.ntmps41
    go_wp2
    go_ret
    exact ⟨rfl, Below.refl _ _⟩
  have g2 : decide ((65536 : Int) < row) = false := by simp; omega
  by_cases hz : isSize size
  · have HZ := Aside0.mk (show freightref11_isSize.f size = some true by rw [ref_isSize_f, decide_eq_true hz])
    by_cases h4 : (bl.length : Int) ≠ (row + size - 1) / size
    · have e : validS bl row size = false := by unfold validS; rw [if_pos (.inr (.inr (.inr h4)))]
      rw [e]
      have hz' := hz
      obtain ⟨z1, z2⟩ := hz'
      have g4 : ((bl.length : Int) != (row + size - 1) / size) = true := by simpa using h4
      clear h4 hz e
      go_enter Try.func41, Try.ntmps41
      go_wp2_with (go_at_call 53; refine (freightref11_isSize.calls _ _ _ HZ.out).mono ?_; rintro e w1 ⟨rfl, ⟨nd, rfl⟩⟩)
      go_ret
      exact ⟨rfl, pw_below_drewN (Below.refl _ _) _⟩
    · have hz' := hz
      obtain ⟨z1, z2⟩ := hz'
      obtain ⟨r, rfl⟩ := Int.eq_ofNat_of_zero_le (a := row) (by omega)
      obtain ⟨s, rfl⟩ := Int.eq_ofNat_of_zero_le (a := size) (by omega)
      have e : validS bl (r : Int) (s : Int) = validR s bl r (bl.headD z58).f0 := by
        unfold validS
        rw [if_neg]
        simp only [not_or, Classical.not_not]
        exact ⟨h1, h2, hz, Classical.not_not.1 h4⟩
      rw [e]
      exact rvalid_walk A0 c0 bl r s w hr0 hl (by omega) (by omega) (by omega) (Classical.not_not.1 h4)
  · have HZ := Aside0.mk (show freightref11_isSize.f size = some false by rw [ref_isSize_f, decide_eq_false hz])
    have e : validS bl row size = false := by unfold validS; rw [if_pos (.inr (.inr (.inl hz)))]
    rw [e]
    clear hz e
    go_enter Try.func41, Try.ntmps41
    go_wp2_with (go_at_call 53; refine (freightref11_isSize.calls _ _ _ HZ.out).mono ?_; rintro e w1 ⟨rfl, ⟨nd, rfl⟩⟩)
    go_ret
    exact ⟨rfl, pw_below_drewN (Below.refl _ _) _⟩
end Go.Proofs.Ytoefligelajfkaa.Block
