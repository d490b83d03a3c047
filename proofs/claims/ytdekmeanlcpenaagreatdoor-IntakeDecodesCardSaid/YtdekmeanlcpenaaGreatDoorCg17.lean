import Derived.Test.YtdekmeanlcpenaaGreatDoorCg16
import Derived.Test.YtdekmeanlcpenaaGreatDoorCg14
import Derived.Test.YtdekmeanlcpenaaGreatDoorCg11
import Derived.Test.YtdekmeanlcpenaaGreatDoorWWords
import Derived.KernelRfl
set_option linter.unusedSimpArgs false
set_option linter.unusedVariables false
namespace Go.Proofs.YtdekmeanlcpenaaGreatDoor.Block
end Go.Proofs.YtdekmeanlcpenaaGreatDoor.Block
namespace Go.Proofs.YtdekmeanlcpenaaGreatDoor.Codec
end Go.Proofs.YtdekmeanlcpenaaGreatDoor.Codec
namespace Go.Proofs.YtdekmeanlcpenaaGreatDoor.Err
end Go.Proofs.YtdekmeanlcpenaaGreatDoor.Err
namespace Go.Proofs.YtdekmeanlcpenaaGreatDoor.Mid
end Go.Proofs.YtdekmeanlcpenaaGreatDoor.Mid
namespace Go.Proofs.YtdekmeanlcpenaaGreatDoor.Pick
end Go.Proofs.YtdekmeanlcpenaaGreatDoor.Pick
namespace Go.Proofs.YtdekmeanlcpenaaGreatDoor.Law
open Go.RowKit Go.Proofs.YtdekmeanlcpenaaGreatDoorW.PrintWords Go.Proofs.YtdekmeanlcpenaaGreatDoorW.PrintLast Go.Proofs.YtdekmeanlcpenaaGreatDoorW.PrintMore Go.Proofs.YtdekmeanlcpenaaGreatDoor.Mid Go.Proofs.YtdekmeanlcpenaaGreatDoor.Pick Go.Proofs.YtdekmeanlcpenaaGreatDoor.Err Go.Proofs.YtdekmeanlcpenaaGreatDoor.Codec Go.Proofs.YtdekmeanlcpenaaGreatDoor.Block
attribute [local go_sem ↓ high] load33_eq load29_eq load60_eq build69_eq build29_eq
attribute [local simp] rowOf_drew rowOf_drewN
attribute [local go_sem high] load33_row load29_row load60_row rowOf_drew rowOf_drewN bld29_none
set_option maxHeartbeats 8000000
set_option maxRecDepth 100000
set_option linter.unusedVariables false
set_option linter.unusedSimpArgs false
theorem empty_row (W : World) (base : Nat) (hb : base ≤ W.heap.size) : Kd.R (Kd.int .u8) 5 (W.alloc (.cells #[] 5)) base (fun _ => True) (.slice (some ⟨W.heap.size, 0, none⟩) 0 0) [] :=
  Kd.R_of_own (own_lit W base 5 .u8 [] hb (by simp)) (fun _ _ => trivial)
theorem lit_three (W : World) (x y z : Int) : Kd.C (Kd.int .u8) (W.alloc (.cells #[.int .u8 x, .int .u8 y, .int .u8 z] 5)) (some ⟨W.heap.size, 0, none⟩) 3 [x, y, z] :=
  Kd.C_of_reads (h1 := fun _ => rfl) (d := (0 : Int)) (readsInt_of.1 (own_reads' (own_lit W 0 5 .u8 [x, y, z] (Nat.zero_le _) (by simp))))
theorem row_some {w : World} {b n k : Nat} {A : Option Addr} {xs : List Int} (h : Kd.R (Kd.int .u8) 5 w b (fun _ => True) (.slice A n k) xs) (h0 : 0 < n) : ∃ g, A = some ⟨g, 0, none⟩ := by
  rcases (Kd.own_of_R h).2 with ⟨hv, _⟩ | ⟨g, cap, cur, hv, _⟩
  · injection hv with _ h2 _
    omega
  · injection hv with h1 _ _
    exact ⟨g, h1⟩
def m171 : List Int := [171, 171, 171]
theorem m171_len : m171.length = 3 := rfl
theorem m171_le : m171.length ≤ 140737488355328 := by decide
theorem lit_171 (W : World) : Kd.C (Kd.int .u8) (W.alloc (.cells #[.int .u8 171, .int .u8 171, .int .u8 171] 5)) (some ⟨W.heap.size, 0, none⟩) m171.length m171 := lit_three W 171 171 171
theorem ofInt_u8 (n : Nat) (h : n < 256) : (BitVec.ofInt 8 (n : Int)).toNat = n := by
  rw [BitVec.toNat_ofInt]; omega
theorem u8_xor_nat (a b : Nat) (ha : a < 256) (hb : b < 256) : bits .xor .u8 (a : Int) (b : Int) = ((a ^^^ b : Nat) : Int) := by
  show IntKind.u8.wrap (((BitVec.ofInt 8 (a : Int)) ^^^ (BitVec.ofInt 8 (b : Int))).toNat : Int) = _
  have := Nat.xor_lt_two_pow (n := 8) ha hb
  rw [BitVec.toNat_xor, ofInt_u8 a ha, ofInt_u8 b hb]
  show ((a ^^^ b : Nat) : Int) % 256 = _
  omega
theorem byt_set {l : List Int} (h : Byt l) (y : Nat) (hy : y ≤ 255) : Byt (l.set 0 (y : Int)) := by
  intro x hx
  rcases List.mem_or_eq_of_mem_set hx with h1 | h1
  · exact h x h1
  · rw [h1]; omega
theorem rd_set {l : List Int} (h : l ≠ []) (y : Int) : rdOf 0 (l.set 0 y) (0 : Int) = y := by
  cases l with
  | nil => exact absurd rfl h
  | cons a t => rfl
/-- .. and two journals more, the second out of a row of one's own. -/
structure LT (w : World) (l1 : List Int) (n b9 gt kt b10 q10 q11 : Nat) (i : Jn) (C1 : Option Addr) (e1 : Nat) (C2 : Option Addr) (e2 : Nat) (C3 : Option Addr) (e3 : Nat) (D1 : Option Addr) (f1 : Nat) (D2 : Option Addr) (f2 : Nat) (D3 : Option Addr) (f3 : Nat) : Prop where
  t : Kd.R (Kd.int .u8) 5 w b9 (fun _ => True) (.slice (some ⟨gt, 0, none⟩) n kt) l1
  c : DecR b10 i C1 e1 C2 e2 C3 e3 w
  d : DecR b10 i D1 f1 D2 f2 D3 f3 w
  c10 : w.heap[q10]? = some (.cells (jC i C1 e1 C2 e2 C3 e3).toArray 60 (0, 0))
  c11 : w.heap[q11]? = some (.cells (jC i D1 f1 D2 f2 D3 f3).toArray 60 (0, 0))
theorem LT.below {w w1 : World} {l1 : List Int} {n b9 gt kt b10 q10 q11 : Nat} {i : Jn} {C1 C2 C3 D1 D2 D3 : Option Addr} {e1 e2 e3 f1 f2 f3 : Nat} (h : LT w l1 n b9 gt kt b10 q10 q11 i C1 e1 C2 e2 C3 e3 D1 f1 D2 f2 D3 f3) (hb : Below w.heap.size w w1) : LT w1 l1 n b9 gt kt b10 q10 q11 i C1 e1 C2 e2 C3 e3 D1 f1 D2 f2 D3 f3 :=
  ⟨Kd.R_below h.t hb, h.c.below hb, h.d.below hb, blk_below h.c10 hb, blk_below h.c11 hb⟩
theorem row_C {w : World} {b g n k : Nat} {xs : List Int} (h : Kd.R (Kd.int .u8) 5 w b (fun _ => True) (.slice (some ⟨g, 0, none⟩) n k) xs) : Kd.C (Kd.int .u8) w (some ⟨g, 0, none⟩) xs.length xs ∧ xs.length ≤ k := by
  have hr := Kd.R_reads' h
  exact ⟨hr.2.2, by rw [← hr.1]; exact hr.2.1⟩
theorem same_n (A0 : Option Addr) (c0 : Nat) (A1 : Option Addr) (c1 : Nat) (rs : List Int) (n m : Nat) (hn : rs.length = n) (hm : rs.length = m) (w : World) (h0 : (Kd.int .u8).C w A0 rs.length rs) (h1 : (Kd.int .u8).C w A1 rs.length rs) (hl : rs.length ≤ 140737488355328) :
    Calls Tryz.prog 22 #[.slice A0 n c0, .slice A1 m c1] w fun e w' => e = .returned (.bool true) ∧ Below w.heap.size w w' := by
  subst hm
  subst hn
  exact same_true A0 c0 A1 c1 rs w h0 h1 hl
theorem lawdec (l : List Int) (A0 : Option Addr) (c0 : Nat) (w : World) (hC : Kd.C (Kd.int .u8) w A0 l.length l) (hb : Byt l) (hl : l.length ≤ 140737488351232) (hcp : l.length ≤ c0) (hH : Handle w) :
    Calls Tryz.prog 6 #[.slice A0 l.length c0] w fun e w' => e = .returned (.bool true) ∧ Below w.heap.size w w' := by
  have hop : (⟨#[105, 110, 116, 97, 107, 101, 46, 100, 101, 99, 111, 100, 101]⟩ : ByteArray) = opDec := rfl
  obtain ⟨n, hn⟩ : ∃ n, l.length = n := ⟨_, rfl⟩
  obtain ⟨n3, hn3⟩ : ∃ n3, n3 = n + 3 := ⟨_, rfl⟩
  obtain ⟨j, hj⟩ : ∃ j, decJ l = j := ⟨_, rfl⟩
  obtain ⟨kd, hk⟩ : ∃ k, decN l = k := ⟨_, rfl⟩
  have HN := Aside0.mk hn
  have HN3 : Aside0 (n3 = n + 3 ∧ (l ++ [171, 171, 171]).length = n3) := ⟨hn3, by rw [List.length_append, hn, hn3]; rfl⟩
  have HJ := Aside0.mk (And.intro hj hk)
  have HJL : Aside0 (j.res.length ≤ 140737488355328 ∧ j.need.length ≤ 140737488355328 ∧ j.tab.length ≤ 140737488355328) := ⟨by rw [← hj]; exact decJ_len l⟩
  have HC := Aside0.mk hC
  have HB := Aside0.mk hb
  have HL := Aside0.mk hl
  have HCP := Aside0.mk hcp
  have HH := Aside0.mk hH
  have hnl : n ≤ 140737488351232 := by omega
  have hnc : n ≤ c0 := by omega
  rw [hn]
  rw [hn] at HC
  clear hC hb hl hcp hH hop hj hk hn hn3
  go_enter Tryz.func6, Tryz.ntmps6
  go_upto_region 1 with (fail)
  go_upto_region 2 with (first
    | (have X := S1; at_builtin; refine Kd.R_append_rows (Kd.int .u8) (w0 := w) w.heap.size rfl (.tmp 14) (.tmp 15) 47 5 (.int .u8 0) 1 rfl Tryz.underlying47 info5 rfl (by decide) (by omega) (.slice Aa n ka) l [171, 171, 171] (some ⟨w1.heap.size, 0, none⟩) 3 3 (fun _ => True) (fun _ => False) rfl rfl (Kd.R_alloc S1.out.1 _) (lit_three w1 171 171 171) (fun _ _ h => h) (fun _ hk => hk.elim) (fun _ _ => trivial) (below_alloc S1.out.2 _) (by simp; have := S1.out.2.size; omega) (by rw [HN.out]; omega) ?_
       intro v2 w2 b1 b2 b3 b4
       obtain ⟨A3, k3, e3⟩ := Kd.R_slice b1
       rw [HN3.out.2] at e3
       subst e3
       have S2 := Aside0.mk (And.intro b1 b2)
       clear b1 b2 b3 b4)
    | (at_builtin; refine Kd.R_append_rows (Kd.int .u8) (w0 := w) w.heap.size rfl (.tmp 12) (.tmp 13) 47 5 (.int .u8 0) 1 rfl Tryz.underlying47 info5 rfl (by decide) (by omega) (.slice (some ⟨w.heap.size, 0, none⟩) 0 0) [] l A0 n c0 (fun _ => True) (fun _ => False) rfl rfl (empty_row w w.heap.size (Nat.le_refl _)) (Kd.C_alloc HC.out _) (fun _ _ h => h) (fun _ hk => hk.elim) (fun _ _ => trivial) (below_alloc (Below.refl _ _) _) (by simp) (by simp; omega) ?_
       intro v1 w1 a1 a2 a3 a4
       obtain ⟨Aa, ka, ea⟩ := Kd.R_slice a1
       rw [List.nil_append, HN.out] at ea
       subst ea
       have S1 : Aside0 (Kd.R (Kd.int .u8) 5 w1 w.heap.size (fun _ => True) (.slice Aa n ka) l ∧ Below w.heap.size w w1) := ⟨a1, a2⟩
       clear a1 a2 a3 a4)
    | go_in)
  obtain ⟨g3, rfl⟩ := row_some S2.out.1 (by have := HN3.out.1; omega)
  have hk3 : n3 ≤ k3 := (Kd.R_reads' S2.out.1).2.1
  have hnk2 : n ≤ k3 := by have := HN3.out.1; omega
  have hnk : (n : Int) ≤ (k3 : Int) := by omega
  have HLT : Aside0 (g3 < w2.heap.size ∧ w.heap.size ≤ g3) := ⟨Kd.R_lt S2.out.1 g3 rfl, Kd.R_base S2.out.1 g3 rfl⟩
  obtain ⟨b5, hb5⟩ : ∃ b5, w2.heap.size = b5 := ⟨_, rfl⟩
  have HB5 := Aside0.mk hb5
  clear S1 X hb5
  go_upto_region 4 with (first
    | (go_at_call 26; (with_reducible refine (idec_any w2 (some ⟨g3, 0, none⟩) k3 n l HN.out j kd HJ.out.1 HJ.out.2 (own_given S2.out.1) HB.out HL.out (by rw [HN.out]; exact hnk2)).mono ?_); rintro e w3 ⟨ve, A1, c1, A2, c2, A4, c4, rfl, hE, hD, hb⟩
       have S3 := Aside0.mk (And.intro (Kd.R_below S2.out.1 hb) (And.intro hE (And.intro (hD.lower (b0 := b5) (by rw [HB5.out]; exact Nat.le_refl _)) (And.intro (below_step S2.out.2 hb) hb.size))))
       clear hE hD hb)
    | go_in)
  obtain ⟨x3, hx3⟩ : ∃ x3, w3.alloc (.cells #[.string j.name, .int .i64 j.ent, .int .i64 j.idx, .slice A1 j.res.length c1, .slice A2 j.need.length c2, .slice A4 j.tab.length c4] 60) = x3 := ⟨_, rfl⟩
  obtain ⟨q5, hq5⟩ : ∃ q5, w3.heap.size = q5 := ⟨_, rfl⟩
  have hb3 : Below w3.heap.size w3 x3 := hx3 ▸ below_alloc (Below.refl _ _) _
  have S4 : Aside0 (x3.heap[q5]? = some (.cells (jC j A1 c1 A2 c2 A4 c4).toArray 60 (0, 0)) ∧ b5 ≤ q5 ∧ Kd.R (Kd.int .u8) 5 x3 w.heap.size (fun _ => True) (.slice (some ⟨g3, 0, none⟩) n3 k3) (l ++ [171, 171, 171]) ∧ ErrIs opDec x3 ve kd ∧ DecR b5 j A1 c1 A2 c2 A4 c4 x3 ∧ Below w.heap.size w x3) := ⟨by rw [← hx3, ← hq5]; exact heap_alloc_new w3 _, by rw [← HB5.out, ← hq5]; exact S3.out.2.2.2.2, Kd.R_below S3.out.1 hb3, S3.out.2.1.below hb3, S3.out.2.2.1.below hb3, below_step S3.out.2.2.2.1 hb3⟩
  rw [hx3, hq5]
  clear hx3 hq5 hb3 S3 S2
  go_upto_region 5 with (first
    | (go_at_call 27; (with_reducible refine (rdec_any x3 A0 c0 n l HN.out j kd HJ.out.1 HJ.out.2 (by rw [HN.out]; exact Kd.C_below HC.out S4.out.2.2.2.2.2) HB.out HL.out HCP.out).mono ?_); rintro e w5 ⟨B1, d1, B2, d2, B4, d4, rfl, hD, hb⟩
       have S5 := Aside0.mk (And.intro (S4.out.2.2.2.1.below hb) (And.intro hD hb))
       clear hD hb)
    | go_in)
  obtain ⟨x5, hx5⟩ : ∃ x5, w5.alloc (.cells #[.string j.name, .int .i64 j.ent, .int .i64 j.idx, .slice B1 j.res.length d1, .slice B2 j.need.length d2, .slice B4 j.tab.length d4] 60) = x5 := ⟨_, rfl⟩
  obtain ⟨q7, hq7⟩ : ∃ q7, w5.heap.size = q7 := ⟨_, rfl⟩
  have hb5 : Below w5.heap.size w5 x5 := hx5 ▸ below_alloc (Below.refl _ _) _
  have hx3b : b5 ≤ x3.heap.size := by have h1 := blk_lt S4.out.1; have h2 := S4.out.2.1; omega
  have M0 : Aside0 (LM w l n3 g3 k3 b5 q5 q7 j A1 c1 A2 c2 A4 c4 B1 d1 B2 d2 B4 d4 x5 ∧ ErrIs opDec x5 ve kd) :=
    ⟨⟨Kd.R_below (Kd.R_below S4.out.2.2.1 S5.out.2.2) hb5, (S4.out.2.2.2.2.1.below S5.out.2.2).below hb5, (S5.out.2.1.lower (b0 := b5) hx3b).below hb5, blk_below (blk_below S4.out.1 S5.out.2.2) hb5, by rw [← hx5, ← hq7]; exact heap_alloc_new w5 _, below_step (below_step S4.out.2.2.2.2.2 S5.out.2.2) hb5, by rw [← HB5.out]; exact HLT.out.1, S4.out.2.1, by rw [← hq7]; exact Nat.le_trans hx3b S5.out.2.2.size⟩, S5.out.1.below hb5⟩
  rw [hx5, hq7]
  clear hx5 hq7 hb5 hx3b S4 S5
  have hnn : n ≤ n3 := by have := HN3.out.1; omega
  obtain ⟨i5, hi5, hs5⟩ := info5s
  obtain ⟨A', hcut, hA'⟩ := print_cut (P := Tryz.prog) 47 5 .i64 Tryz.underlying47 hi5 hs5 (some ⟨g3, 0, none⟩) n3 k3 n hnn
  have HCl : Aside0 (∀ u, Kd.R (Kd.int .u8) 5 u w.heap.size (fun _ => True) (.slice (some ⟨g3, 0, none⟩) n3 k3) (l ++ [171, 171, 171]) → Kd.C (Kd.int .u8) u A' m171.length m171) := ⟨fun u hu => by
    have hr := Kd.R_reads' hu
    have hq := hr.2.2
    rw [← hr.1] at hq
    have h1 := hA' u .u8 (l ++ [171, 171, 171]) hk3 (Kd.reads_of_C (enc := Value.int .u8) (d := (0 : Int)) (h1 := fun _ => rfl) hq)
    have h2 := Kd.C_of_reads (enc := Value.int .u8) (d := (0 : Int)) (h1 := fun _ => rfl) h1
    rw [← HN.out, List.drop_left' rfl, HN.out, show n3 - n = 3 by have := HN3.out.1; omega] at h2
    exact h2⟩
  have HN33 : Aside0 (m171.length = n3 - n) := ⟨by have := HN3.out.1; rw [m171_len]; omega⟩
  clear hA' hi5 hs5
  have r5 := jrow M0.out.1.c5
  have hz : ∀ u : World, u8s z32 = u8s z32 := fun _ => rfl
  go_upto_region 7 with (first
    | (go_at_call 21; refine (says_any opDec ve kd x5 (handle_below HH.out M0.out.1.bel) M0.out.2).mono ?_; rintro e w6 ⟨rfl, hb⟩
       have M1 := Aside0.mk (M0.out.1.below hb)
       have r5a := jrow M1.out.c5
       have r7a := jrow M1.out.c7
       clear hb)
    | (go_at_call 23; (with_reducible refine (journals_true j A1 c1 A2 c2 A4 c4 B1 d1 B2 d2 B4 d4 w6 M1.out.a.at M1.out.b.at HJL.out.1 HJL.out.2.1 HJL.out.2.2).mono ?_); rintro e w7 ⟨rfl, hb⟩
       have M2 := Aside0.mk (M1.out.below hb)
       clear hb)
    | (have X := M3; go_at_call 22; (with_reducible refine (same_n A' (k3 - n) (some ⟨w8.heap.size, 0, none⟩) 3 m171 (n3 - n) 3 HN33.out m171_len (w8.alloc (.cells #[.int .u8 171, .int .u8 171, .int .u8 171] 5)) (Kd.C_alloc (HCl.out _ M3.out.r3) _) (lit_171 w8) m171_le).mono ?_); rintro e w9 ⟨rfl, hb⟩
       have M4 := Aside0.mk ((M3.out.below (below_alloc (Below.refl _ _) _)).below hb)
       clear hb)
    | (go_at_call 22; (with_reducible refine (same_n (some ⟨g3, 0, none⟩) k3 A0 c0 l n n HN.out HN.out w7 M2.out.given (by rw [HN.out]; exact Kd.C_below HC.out M2.out.bel) (by have := HL.out; omega)).mono ?_); rintro e w8 ⟨rfl, hb⟩
       have M3 := Aside0.mk (M2.out.below hb)
       clear hb)
    | go_in)
  clear hcut hnk hk3 hnn r5 r5a r7a M0 M1 M2 M3 X
  by_cases h0 : n = 0
  · subst h0
    go_wp2_with (first
      | (go_at_call 25; refine (awake_any w9 (handle_below HH.out M4.out.bel)).mono ?_; rintro e z8 ⟨rfl, hb⟩
         have Z9 := Aside0.mk (below_step M4.out.bel hb)
         clear hb)
      | go_in)
    go_ret
    exact ⟨rfl, Z9.out⟩
  · have hn0 : (n : Int) ≠ 0 := by omega
    have hn0b : ((n : Int) == 0) = false := by rw [beq_eq_false_iff_ne]; exact hn0
    have hpos : 0 < n := by omega
    have hpos1 : (0 : Int) < (n : Int) := by omega
    have HNE : Aside0 (l ≠ []) := ⟨fun e => by have h1 := HN.out; rw [e] at h1; simp at h1; omega⟩
    obtain ⟨xb, hxb, hxl⟩ := rd_byt HB.out 0 (by rw [HN.out]; exact hpos)
    obtain ⟨y, hy⟩ : ∃ y, xb ^^^ 1 = y := ⟨_, rfl⟩
    have hy255 : y ≤ 255 := by rw [← hy]; have := Nat.xor_lt_two_pow (n := 8) (x := xb) (y := 1) (by omega) (by decide); omega
    have hxor : bits .xor .u8 (xb : Int) 1 = (y : Int) := by rw [← hy]; exact u8_xor_nat xb 1 (by omega) (by decide)
    obtain ⟨l1, hl1⟩ : ∃ l1, l.set 0 (y : Int) = l1 := ⟨_, rfl⟩
    obtain ⟨i, hi⟩ : ∃ i, decJ l1 = i := ⟨_, rfl⟩
    obtain ⟨ki, hki⟩ : ∃ k, decN l1 = k := ⟨_, rfl⟩
    have HI := Aside0.mk (And.intro hi hki)
    have HIL : Aside0 (i.res.length ≤ 140737488355328 ∧ i.need.length ≤ 140737488355328 ∧ i.tab.length ≤ 140737488355328) := ⟨by rw [← hi]; exact decJ_len l1⟩
    have HL1 : Aside0 (l.set 0 (y : Int) = l1 ∧ l1.length = n ∧ Byt l1 ∧ l1.length ≤ 140737488351232) := ⟨hl1, by rw [← hl1, List.length_set]; exact HN.out, by rw [← hl1]; exact byt_set HB.out y hy255, by rw [← hl1, List.length_set]; exact HL.out⟩
    have HX0 : Aside0 (rdOf 0 l (0 : Int) = (xb : Int)) := ⟨hxb⟩
    clear hi hki hl1 hy hxb h0
    go_upto_region 10 with (first
      | (at_builtin; refine Kd.R_append_rows (Kd.int .u8) (w0 := w9) w9.heap.size rfl (.tmp 61) (.tmp 62) 47 5 (.int .u8 0) 1 rfl Tryz.underlying47 info5 rfl (by decide) (by omega) (.slice (some ⟨w9.heap.size, 0, none⟩) 0 0) [] l A0 n c0 (fun _ => True) (fun _ => False) rfl rfl (empty_row w9 w9.heap.size (Nat.le_refl _)) (Kd.C_alloc (Kd.C_below HC.out M4.out.bel) _) (fun _ _ h => h) (fun _ hk => hk.elim) (fun _ _ => trivial) (below_alloc (Below.refl _ _) _) (by simp) (by simp; omega) ?_
         intro v1 wa a1 a2 a3 a4
         obtain ⟨At, kt, et⟩ := Kd.R_slice a1
         rw [List.nil_append, HN.out] at et
         subst et
         have T1 : Aside0 (Kd.R (Kd.int .u8) 5 wa w9.heap.size (fun _ => True) (.slice At n kt) l ∧ Below w9.heap.size w9 wa) := ⟨a1, a2⟩
         clear a1 a2 a3 a4)
      | go_in)
    obtain ⟨gt, rfl⟩ := row_some T1.out.1 hpos
    have M5 := Aside0.mk (M4.out.below T1.out.2)
    have HGT : Aside0 (w9.heap.size ≤ gt) := ⟨Kd.R_base T1.out.1 gt rfl⟩
    obtain ⟨k1, f1⟩ := Kd.R_celln (0 : Int) T1.out.1 (0 : Int) (by decide) hpos1
    rw [HX0.out] at k1
    simp only [Int.toNat_zero] at k1 f1
    go_upto_region 11 with (fail)
    have T2 : Aside0 (Kd.R (Kd.int .u8) 5 (wa.setCell ⟨gt, 0, none⟩ (.int .u8 y)) w9.heap.size (fun _ => True) (.slice (some ⟨gt, 0, none⟩) n kt) l1 ∧ Below w9.heap.size w9 (wa.setCell ⟨gt, 0, none⟩ (.int .u8 y))) := ⟨by
      have h1 := Kd.R_putn T1.out.1 (0 : Int) (y : Int)
      simp only [Int.toNat_zero] at h1
      rw [HL1.out.1] at h1
      exact ⟨h1, T1.out.2.setCell (p := ⟨gt, 0, none⟩) HGT.out _⟩⟩
    obtain ⟨wb, hwb⟩ : ∃ wb, wa.setCell ⟨gt, 0, none⟩ (.int .u8 y) = wb := ⟨_, rfl⟩
    rw [hwb] at T2 ⊢
    have M6 := Aside0.mk (M4.out.below T2.out.2)
    have HG3 : Aside0 (g3 < w9.heap.size) := ⟨Kd.R_lt M4.out.r3 g3 rfl⟩
    have k2 : wb.cell? ⟨gt, 0, none⟩ = some (.int .u8 y) := by
      have h1 := (Kd.R_celln (0 : Int) T2.out.1 (0 : Int) (by decide) hpos1).1
      rw [← HL1.out.1, rd_set HNE.out] at h1
      exact h1
    have hn3p : (0 : Int) < (n3 : Int) := by have := HN3.out.1; omega
    obtain ⟨k3c, k3f⟩ := Kd.R_celln (0 : Int) M6.out.r3 (0 : Int) (by decide) hn3p
    simp only [Int.toNat_zero] at k3c k3f
    have hnk : (n : Int) ≤ (k3 : Int) := by omega
    clear hwb k1 f1 T1 M5
    go_upto_region 12 with (fail)
    have M7 : Aside0 (LM w l1 n3 g3 k3 b5 q5 q7 j A1 c1 A2 c2 A4 c4 B1 d1 B2 d2 B4 d4 (wb.setCell ⟨g3, 0, none⟩ (.int .u8 y))) := ⟨by have h1 := M6.out.put HNE.out (y : Int); rw [HL1.out.1] at h1; exact h1⟩
    have T3 : Aside0 (Kd.R (Kd.int .u8) 5 (wb.setCell ⟨g3, 0, none⟩ (.int .u8 y)) w9.heap.size (fun _ => True) (.slice (some ⟨gt, 0, none⟩) n kt) l1) := ⟨Kd.R_grown1 T2.out.1 rfl (grownBlk wb ⟨g3, 0, none⟩ _) (fun e => by have h1 : w9.heap.size ≤ g3 := Kd.R_base T2.out.1 _ e.symm; have h2 := HG3.out; omega)⟩
    obtain ⟨wc, hwc⟩ : ∃ wc, wb.setCell ⟨g3, 0, none⟩ (.int .u8 y) = wc := ⟨_, rfl⟩
    rw [hwc] at M7 T3 ⊢
    obtain ⟨b10, hb10⟩ : ∃ b10, wc.heap.size = b10 := ⟨_, rfl⟩
    have HB10 := Aside0.mk hb10
    clear hwc k2 k3c k3f T2 M6 M4 hb10
    go_upto_region 13 with (first
      | (go_at_call 26; (with_reducible refine (idec_any wc (some ⟨g3, 0, none⟩) k3 n l1 HL1.out.2.1 i ki HI.out.1 HI.out.2 (own_given M7.out.r3) HL1.out.2.2.1 HL1.out.2.2.2 (by rw [HL1.out.2.1]; exact hnk2)).mono ?_); rintro e wd ⟨ve2, C1, e1, C2, e2, C4, e4, rfl, hE, hD, hb⟩
         have S6 := Aside0.mk (And.intro (M7.out.below hb) (And.intro hE (And.intro (hD.lower (b0 := b10) (by rw [HB10.out]; exact Nat.le_refl _)) (And.intro (Kd.R_below T3.out hb) hb.size))))
         clear hE hD hb)
      | go_in)
    obtain ⟨xd, hxd⟩ : ∃ xd, wd.alloc (.cells #[.string i.name, .int .i64 i.ent, .int .i64 i.idx, .slice C1 i.res.length e1, .slice C2 i.need.length e2, .slice C4 i.tab.length e4] 60) = xd := ⟨_, rfl⟩
    obtain ⟨q10, hq10⟩ : ∃ q10, wd.heap.size = q10 := ⟨_, rfl⟩
    have hbd : Below wd.heap.size wd xd := hxd ▸ below_alloc (Below.refl _ _) _
    have S7 : Aside0 (xd.heap[q10]? = some (.cells (jC i C1 e1 C2 e2 C4 e4).toArray 60 (0, 0)) ∧ LM w l1 n3 g3 k3 b5 q5 q7 j A1 c1 A2 c2 A4 c4 B1 d1 B2 d2 B4 d4 xd ∧ ErrIs opDec xd ve2 ki ∧ DecR b10 i C1 e1 C2 e2 C4 e4 xd ∧ Kd.R (Kd.int .u8) 5 xd w9.heap.size (fun _ => True) (.slice (some ⟨gt, 0, none⟩) n kt) l1 ∧ b10 ≤ xd.heap.size) := ⟨by rw [← hxd, ← hq10]; exact heap_alloc_new wd _, S6.out.1.below hbd, S6.out.2.1.below hbd, S6.out.2.2.1.below hbd, Kd.R_below S6.out.2.2.2.1 hbd, by rw [← HB10.out]; exact Nat.le_trans S6.out.2.2.2.2 hbd.size⟩
    rw [hxd, hq10]
    clear hxd hq10 hbd S6
    go_upto_region 14 with (first
      | (go_at_call 27; (with_reducible refine (rdec_any xd (some ⟨gt, 0, none⟩) kt n l1 HL1.out.2.1 i ki HI.out.1 HI.out.2 (row_C S7.out.2.2.2.2.1).1 HL1.out.2.2.1 HL1.out.2.2.2 (row_C S7.out.2.2.2.2.1).2).mono ?_); rintro e we ⟨D1, f1, D2, f2, D4, f4, rfl, hD, hb⟩
         have S8 := Aside0.mk (And.intro (S7.out.2.2.1.below hb) (And.intro hD hb))
         clear hD hb)
      | go_in)
    obtain ⟨xe, hxe⟩ : ∃ xe, we.alloc (.cells #[.string i.name, .int .i64 i.ent, .int .i64 i.idx, .slice D1 i.res.length f1, .slice D2 i.need.length f2, .slice D4 i.tab.length f4] 60) = xe := ⟨_, rfl⟩
    obtain ⟨q11, hq11⟩ : ∃ q11, we.heap.size = q11 := ⟨_, rfl⟩
    have hbe : Below we.heap.size we xe := hxe ▸ below_alloc (Below.refl _ _) _
    have N0 : Aside0 (LM w l1 n3 g3 k3 b5 q5 q7 j A1 c1 A2 c2 A4 c4 B1 d1 B2 d2 B4 d4 xe ∧ LT xe l1 n w9.heap.size gt kt b10 q10 q11 i C1 e1 C2 e2 C4 e4 D1 f1 D2 f2 D4 f4 ∧ ErrIs opDec xe ve2 ki) :=
      ⟨(S7.out.2.1.below S8.out.2.2).below hbe, ⟨Kd.R_below (Kd.R_below S7.out.2.2.2.2.1 S8.out.2.2) hbe, (S7.out.2.2.2.1.below S8.out.2.2).below hbe, (S8.out.2.1.lower (b0 := b10) S7.out.2.2.2.2.2).below hbe, blk_below (blk_below S7.out.1 S8.out.2.2) hbe, by rw [← hxe, ← hq11]; exact heap_alloc_new we _⟩, S8.out.1.below hbe⟩
    rw [hxe, hq11]
    clear hxe hq11 hbe S7 S8
    go_wp2_with (first
      | (go_at_call 21; refine (says_any opDec ve2 ki xe (handle_below HH.out N0.out.1.bel) N0.out.2.2).mono ?_; rintro e y1 ⟨rfl, hb⟩
         have N1 := Aside0.mk (And.intro (N0.out.1.below hb) (N0.out.2.1.below hb))
         have r10 := jrow N1.out.2.c10
         have r11 := jrow N1.out.2.c11
         clear hb)
      | (have X := N2; go_at_call 23; (with_reducible refine (journals_true j A1 c1 A2 c2 A4 c4 B1 d1 B2 d2 B4 d4 y2 N2.out.1.a.at N2.out.1.b.at HJL.out.1 HJL.out.2.1 HJL.out.2.2).mono ?_); rintro e y3 ⟨rfl, hb⟩
         have N3 := Aside0.mk (And.intro (N2.out.1.below hb) (N2.out.2.below hb))
         clear hb)
      | (go_at_call 23; (with_reducible refine (journals_true i C1 e1 C2 e2 C4 e4 D1 f1 D2 f2 D4 f4 y1 N1.out.2.c.at N1.out.2.d.at HIL.out.1 HIL.out.2.1 HIL.out.2.2).mono ?_); rintro e y2 ⟨rfl, hb⟩
         have N2 := Aside0.mk (And.intro (N1.out.1.below hb) (N1.out.2.below hb))
         have r5 := jrow N2.out.1.c5
         have r7 := jrow N2.out.1.c7
         clear hb)
      | (go_at_call 22; (with_reducible refine (same_n (some ⟨g3, 0, none⟩) k3 (some ⟨gt, 0, none⟩) kt l1 n n HL1.out.2.1 HL1.out.2.1 y3 N3.out.1.given (row_C N3.out.2.t).1 (by have := HL1.out.2.2.2; omega)).mono ?_); rintro e y4 ⟨rfl, hb⟩
         have N4 := Aside0.mk (And.intro (N3.out.1.below hb) (N3.out.2.below hb))
         clear hb)
      | (go_at_call 25; refine (awake_any y4 (handle_below HH.out N4.out.1.bel)).mono ?_; rintro e y5 ⟨rfl, hb⟩
         have N5 := Aside0.mk (below_step N4.out.1.bel hb)
         clear hb)
      | go_in)
    go_ret
    exact ⟨rfl, N5.out⟩
end Go.Proofs.YtdekmeanlcpenaaGreatDoor.Law

namespace Go.Proofs.YtdekmeanlcpenaaGreatDoor.OpenK
open Go.ChangeShapes Go.WideShapes Go.Deep Go.Proofs.YtdekmeanlcpenaaGreatDoorW.PrintWords
theorem opens47 {H : Type} {enc : TypeId × Value → H} {w : World} : Opens Tryz.prog enc w (Kd.slice 5 (Kd.int .u8)) 47 (fun l => l.length * 1 ≤ 140737488351232 ∧ ∀ x ∈ l, (Lit.int .u8 x).wf = true) :=
  opens_slice Tryz.underlying47 (by kernel_rfl) (by kernel_rfl) (opens_int Tryz.underlying5)
theorem byte_wf {n : Int} (h : (Lit.int .u8 n).wf = true) : 0 ≤ n ∧ n ≤ 255 := by
  have h1 : IntKind.u8.min = 0 := rfl
  have h2 : IntKind.u8.max = 255 := rfl
  simp [Lit.wf, h1, h2] at h
  omega
theorem bytes_wf {l : List Int} (h : ∀ x ∈ l, (Lit.int .u8 x).wf = true) : ∀ x ∈ l, 0 ≤ x ∧ x ≤ 255 := fun x hx => byte_wf (h x hx)
end Go.Proofs.YtdekmeanlcpenaaGreatDoor.OpenK
