import Derived.Test.YtoefligelajfkaaLay
namespace Go.Proofs.Ytoefligelajfkaa.Block
open Go.RowKit Go.Proofs.YtoefligelajfkaaW.PrintWords Go.Proofs.YtoefligelajfkaaW.PrintLast Go.Proofs.YtoefligelajfkaaW.PrintMore Go.Proofs.Ytoefligelajfkaa.Press
open Go.Proofs.Ytoefligelajfkaa.PBlockOpens (S58 k58 z58 k58_open k58_mk k58_mkM k58_openM rd_T58 at_T58 block_isSize.f block_isSize.calls)

/-- The piece that stands at a place. -/
def pieceAt (l : List Int) (size at_ : Nat) : List Int := (l.drop at_).take (min size (l.length - at_))
theorem pieceAt_length (l : List Int) (size at_ : Nat) : (pieceAt l size at_).length = min size (l.length - at_) := by simp [pieceAt]
/-- What is left of a Pack. -/
def bpR (l : List Int) (size : Nat) : Nat → List Int → List S58 → Nat → List Int × List S58
  | 0, out, bl, _ => (out, bl)
  | k + 1, out, bl, at_ => if at_ < l.length then bpR l size k (out ++ pieceS (pieceAt l size at_)) (bl ++ [blockS out.length (pieceAt l size at_)]) (at_ + size) else (out, bl)
def isSize (size : Int) : Prop := 16 ≤ size ∧ size ≤ 4096
instance (size : Int) : Decidable (isSize size) := inferInstanceAs (Decidable (_ ∧ _))
def bpackS (l : List Int) (size : Int) : List Int × List S58 × Int :=
  if ¬ isSize size then ([], [], 1) else if l.length > 65536 then ([], [], 2) else ((bpR l size.toNat l.length [] [] 0).1, (bpR l size.toNat l.length [] [] 0).2, 0)
theorem pieceS_length (l : List Int) : (pieceS l).length ≤ l.length := by unfold pieceS; split <;> omega

theorem isSize_f (size : Int) : block_isSize.f size = some (decide (isSize size)) := by
  unfold block_isSize.f isSize
  by_cases h : 16 ≤ size
  · rw [if_pos h]; simp [h]
  · rw [if_neg h]; simp [h]

theorem piece_C {w : World} {A : Option Addr} {l : List Int} (size at_ : Nat) (h : Kd.C (Kd.int .u8) w A l.length l) (hat : at_ < l.length) : Kd.C (Kd.int .u8) w (A.map fun x => x.add at_) (pieceAt l size at_).length (pieceAt l size at_) := by
  have h1 := Kd.C_drop (c := l.length) (m := at_) h (by omega) (Nat.le_refl _)
  rw [if_neg (by omega)] at h1
  rw [show (Kd.int .u8).sz = 1 from rfl, Nat.mul_one] at h1
  have h2 := Kd.C_take (m := min size (l.length - at_)) h1 (by simp; omega)
  simpa [pieceAt] using h2

structure BInv (w : World) (l : List Int) (size : Nat) (rs : List Int × List S58) (wr : World) (k : Nat) (out : List Int) (bl : List S58) (at_ : Nat) (vo vb : Value) : Prop where
  inv : LInv w w.heap.size w.heap.size (w.heap.size + 1) wr vo vb out bl
  fuel : l.length ≤ at_ + k
  run : bpR l size k out bl at_ = rs
  olen : out.length ≤ at_
  blen : bl.length ≤ at_
  at_le : at_ ≤ 70000

set_option maxHeartbeats 4000000 in
theorem bpack_walk (A0 : Option Addr) (c0 : Nat) (l0 : List Int) (size : Nat) (w : World) (hr0 : Kd.C (Kd.int .u8) w A0 l0.length l0) (hby : ∀ x ∈ l0, 0 ≤ x ∧ x ≤ 255) (hc0 : l0.length ≤ c0) (hl : l0.length ≤ 65536) (hs1 : 16 ≤ size) (hs2 : size ≤ 4096) :
    Calls Try.prog 31 #[.slice A0 l0.length c0, .int .i64 size] w fun e w' => ∃ vo vb, e = .returned (.tuple #[vo, vb, .int .i64 0]) ∧
      Kd.R (Kd.int .u8) 5 w' w.heap.size (fun _ => True) vo (bpR l0 size l0.length [] [] 0).1 ∧ k58.R 58 w' w.heap.size (fun _ => True) vb (bpR l0 size l0.length [] [] 0).2 ∧ Below w.heap.size w w' := by
  obtain ⟨rs, hrs⟩ : ∃ rs, bpR l0 size l0.length [] [] 0 = rs := ⟨_, rfl⟩
  rw [hrs]
  have HRS := Aside0.mk hrs
  have HR0 := Aside0.mk hr0
  clear hrs hr0
  have hz : block_isSize.f (size : Int) = some true := by rw [isSize_f, decide_eq_true (show isSize (size : Int) from ⟨by omega, by omega⟩)]
  have HZ := Aside0.mk hz
  clear hz
  have hl1 : (l0.length : Int) ≤ 65536 := by omega
  have hl2 : decide ((65536 : Int) < (l0.length : Int)) = false := by simp; omega
  have hl3 : decide (65536 < l0.length) = false := by simp; omega
  go_enter Try.func31, Try.ntmps31
  go_upto_region 9 with (go_at_call 55; refine (block_isSize.calls _ _ _ HZ.out).mono ?_; rintro e w1 ⟨rfl, ⟨nd, rfl⟩⟩)
  have hB0 : BInv w l0 size rs (((w.drewN nd).alloc (.cells #[.slice none 0 0] 22)).alloc (.cells #[.slice none 0 0] 47)) l0.length [] [] 0 (.slice none 0 0) (.slice none 0 0) := by
    refine ⟨⟨?_, ?_, Kd.R_nil _ _ _ _ _, Kd.R_nil _ _ _ _ _, Nat.le_refl _, Nat.le_succ _, below_alloc (below_alloc (pw_below_drewN (Below.refl _ _) _) _) _⟩, by omega, HRS.out, by simp, by simp, by omega⟩
    · have h1 := heap_alloc_new (w.drewN nd) (.cells #[.slice none 0 0] 22)
      have e : (w.drewN nd).heap.size = w.heap.size := by simp
      rw [e] at h1
      exact block_below (n := ((w.drewN nd).alloc (.cells #[.slice none 0 0] 22)).heap.size) ((Below.refl _ _).alloc (Nat.le_refl _) _) (by simp) h1
    · have h2 := heap_alloc_new ((w.drewN nd).alloc (.cells #[.slice none 0 0] 22)) (.cells #[.slice none 0 0] 47)
      have e : ((w.drewN nd).alloc (.cells #[.slice none 0 0] 22)).heap.size = w.heap.size + 1 := by simp
      rw [e] at h2
      exact h2
  have HB0 := Aside0.mk hB0
  clear hB0
  generalize ((w.drewN nd).alloc (.cells #[.slice none 0 0] 22)).alloc (.cells #[.slice none 0 0] 47) = w1 at HB0
  go_loopg [10] l0.length (fun k v10 w' => ∃ (at_ : Nat) (out : List Int) (bl : List S58) (vo vb : Value), v10 = .int .i64 at_ ∧ Aside0 (BInv w l0 size rs w' k out bl at_ vo vb))
  case atStart => exact ⟨0, [], [], _, _, rfl, HB0⟩
  case round =>
    clear HB0
    obtain ⟨at_, out, bl, vo, vb, rfl, HB⟩ := hrel
    have hat0 := HB.out.at_le
    by_cases hat : at_ < l0.length
    · have hat1 : (at_ : Int) < (l0.length : Int) := by omega
      obtain ⟨k, rfl⟩ : ∃ k, gk = k + 1 := ⟨gk - 1, by have := HB.out.fuel; omega⟩
      obtain ⟨en, hen⟩ : ∃ en : Nat, en = min (at_ + size) l0.length := ⟨_, rfl⟩
      have hmin : (if (l0.length : Int) < (at_ : Int) + (size : Int) then (l0.length : Int) else (at_ : Int) + (size : Int)) = (en : Int) := by split <;> omega
      have he1 : at_ ≤ en := by omega
      have he2 : en ≤ c0 := by omega
      have he3 : (at_ : Int) ≤ (en : Int) := by omega
      have he4 : (en : Int) ≤ (c0 : Int) := by omega
      have HEN := Aside0.mk hen
      clear hen
      obtain ⟨pc, hpc⟩ : ∃ pc, pc = pieceAt l0 size at_ := ⟨_, rfl⟩
      have hpl : pc.length = en - at_ := by rw [hpc, pieceAt_length, HEN.out]; omega
      have hpb : ∀ x ∈ pc, 0 ≤ x ∧ x ≤ 255 := by rw [hpc]; exact fun x hx => hby x (List.mem_of_mem_drop (List.mem_of_mem_take hx))
      have hpn : pc.length ≤ 4096 := by rw [hpc, pieceAt_length]; omega
      have hpC := piece_C (w := wr) size at_ (Kd.C_below HR0.out HB.out.inv.bel) hat
      rw [← hpc] at hpC
      have hrun := HB.out.run
      rw [bpR, if_pos hat, ← hpc] at hrun
      have hlay := lay_any w w.heap.size w.heap.size (w.heap.size + 1) _ (en - at_) pc wr vo vb out bl HB.out.inv hpC hpb hpn (by have := HB.out.olen; omega) (by have := HB.out.blen; omega)
      rw [hpl] at hlay
      have HLAY := Aside0.mk hlay
      have HRUN := Aside0.mk hrun
      have hps := pieceS_length pc
      have hpl2 : pc.length ≤ size := by rw [hpc, pieceAt_length]; omega
      clear hlay hrun hpC hpc hpb
      go_wp2_with (go_at_call 56; refine HLAY.out.mono ?_; rintro e w5 ⟨rfl, vo5, vb5, hI5⟩; have HI5 := Aside0.mk hI5; clear hI5)
      go_roundg k
      case measure => omega
      case rel =>
        exact ⟨at_ + size, _, _, vo5, vb5, by go_num, ⟨⟨HI5.out, by have := HB.out.fuel; omega, HRUN.out, by have := HB.out.olen; simp; omega, by have := HB.out.blen; simp; omega, by omega⟩⟩⟩
    · have hat1 : (l0.length : Int) ≤ (at_ : Int) := by omega
      have hr := HB.out.run
      have : bpR l0 size gk out bl at_ = (out, bl) := by cases gk <;> simp [bpR, hat]
      rw [this] at hr
      subst hr
      clear this
      obtain ⟨Ao, ko, rfl⟩ := Kd.R_slice HB.out.inv.ro
      obtain ⟨Ab, kb, rfl⟩ := Kd.R_slice HB.out.inv.rb
      have hco := cell_of_one HB.out.inv.bo
      have hcb := cell_of_one HB.out.inv.bb
      go_wp2
      go_quiet (fail)
      go_wp2
      go_ret3
      exact ⟨_, _, rfl, Kd.R_drewN HB.out.inv.ro _, Kd.R_drewN HB.out.inv.rb _, pw_below_drewN HB.out.inv.bel _⟩

/-- block.Pack of any row and size. -/
theorem bpack_any (A0 : Option Addr) (c0 : Nat) (l0 : List Int) (size : Int) (w : World) (hr0 : Kd.C (Kd.int .u8) w A0 l0.length l0) (hby : ∀ x ∈ l0, 0 ≤ x ∧ x ≤ 255) (hc0 : l0.length ≤ c0) (hl : l0.length ≤ 140737488355328) :
    Calls Try.prog 31 #[.slice A0 l0.length c0, .int .i64 size] w fun e w' => ∃ vo vb, e = .returned (.tuple #[vo, vb, .int .i64 (bpackS l0 size).2.2]) ∧
      Kd.R (Kd.int .u8) 5 w' w.heap.size (fun _ => True) vo (bpackS l0 size).1 ∧ k58.R 58 w' w.heap.size (fun _ => True) vb (bpackS l0 size).2.1 ∧ Below w.heap.size w w' := by
  by_cases hs : isSize size
  · by_cases hb : l0.length > 65536
    · have e : bpackS l0 size = ([], [], 2) := by unfold bpackS; rw [if_neg (fun h => h hs), if_pos hb]
      rw [e]
      have hz : block_isSize.f size = some true := by rw [isSize_f, decide_eq_true hs]
      have hl1 : (65536 : Int) < (l0.length : Int) := by omega
      go_enter Try.func31, Try.ntmps31
      go_wp2_with (go_at_call 55; refine (block_isSize.calls _ _ _ hz).mono ?_; rintro e w1 ⟨rfl, ⟨nd, rfl⟩⟩)
      go_ret3
      exact ⟨_, _, rfl, Kd.R_nil _ _ _ _ _, Kd.R_nil _ _ _ _ _, pw_below_drewN (Below.refl _ _) _⟩
    · have hs' := hs
      obtain ⟨h1, h2⟩ := hs'
      obtain ⟨n, rfl⟩ := Int.eq_ofNat_of_zero_le (a := size) (by omega)
      have e : bpackS l0 (n : Int) = ((bpR l0 n l0.length [] [] 0).1, (bpR l0 n l0.length [] [] 0).2, 0) := by unfold bpackS; rw [if_neg (fun h => h hs), if_neg hb, Int.toNat_natCast]
      rw [e]
      exact bpack_walk A0 c0 l0 n w hr0 hby hc0 (by omega) (by omega) (by omega)
  · have e : bpackS l0 size = ([], [], 1) := by unfold bpackS; rw [if_pos hs]
    rw [e]
    have hz : block_isSize.f size = some false := by rw [isSize_f, decide_eq_false hs]
    go_enter Try.func31, Try.ntmps31
    go_wp2_with (go_at_call 55; refine (block_isSize.calls _ _ _ hz).mono ?_; rintro e w1 ⟨rfl, ⟨nd, rfl⟩⟩)
    go_ret3
    exact ⟨_, _, rfl, Kd.R_nil _ _ _ _ _, Kd.R_nil _ _ _ _ _, pw_below_drewN (Below.refl _ _) _⟩
end Go.Proofs.Ytoefligelajfkaa.Block
