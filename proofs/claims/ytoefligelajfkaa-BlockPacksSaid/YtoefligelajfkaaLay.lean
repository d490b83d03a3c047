import Derived.Test.YtoefligelajfkaaSum
import Derived.Test.YtoefligelajfkaaRound
import Derived.Test.YtoefligelajfkaaPBlockOpensx1
import Derived.Deep.RegionHeld3
import Derived.Deep.AppendLies
import Derived.OneCell
import Derived.Deep.RegionLaw
namespace Go.Proofs.Ytoefligelajfkaa.Block
open Go.RowKit Go.Proofs.YtoefligelajfkaaW.PrintWords Go.Proofs.YtoefligelajfkaaW.PrintLast Go.Proofs.YtoefligelajfkaaW.PrintMore Go.Proofs.Ytoefligelajfkaa.Press
open Go.Proofs.Ytoefligelajfkaa.PBlockOpens (S58 k58 z58 k58_open k58_mk k58_mkM k58_openM rd_T58 at_T58)

/-- What is laid of a piece. -/
def pieceS (l : List Int) : List Int := if l.length ≤ (packS l).1.length then l else (packS l).1
/-- The block of a piece behind so many bytes. -/
def blockS (n : Nat) (l : List Int) : S58 := ⟨n, (pieceS l).length, l.length, sumS (pieceS l)⟩

theorem info58 : (Try.prog.info? 58).map (fun i => (i.zero, i.size, i.bytes)) = some (some (.agg #[.int .i64 0, .int .i64 0, .int .i64 0, .int .i64 0]), 4, 32) := by kernel_rfl

theorem block_below {w0 w1 : World} {n b : Nat} {o : Obj} (h : Below n w0 w1) (hb : b < n) (ho : w0.heap[b]? = some o) : w1.heap[b]? = some o := by
  rw [← ho]; exact h.block b hb

/-- What the closure works on. -/
structure LInv (w0 : World) (base Bo Bb : Nat) (w : World) (vo vb : Value) (out : List Int) (bl : List S58) : Prop where
  bo : w.heap[Bo]? = some (.cells #[vo] 22 (0, 0))
  bb : w.heap[Bb]? = some (.cells #[vb] 47 (0, 0))
  ro : Kd.R (Kd.int .u8) 5 w base (fun _ => True) vo out
  rb : Kd.R k58 58 w base (fun _ => True) vb bl
  hbo : base ≤ Bo
  hbb : base ≤ Bb
  bel : Below base w0 w

theorem ne_block {α : Type} {d : Kd α} {e base b : Nat} {w : World} {v : Value} {xs : List α} {cs : Array Value} {t : Nat} {fr : Nat × Nat} (h : d.R e w base (fun _ => True) v xs) (hb : w.heap[b]? = some (.cells cs t fr)) (ht : t ≠ e) : v.ownBlock ≠ some b := by
  intro he
  obtain ⟨cells, hc⟩ := Kd.R_typed h b he
  rw [hb] at hc
  injection hc with hc
  injection hc with _ h2
  exact ht h2
theorem grown_block {W W1 : World} {row : Option Nat} {b : Nat} {o : Obj} (hg : W.grownBy W1 row) (hb : W.heap[b]? = some o) (hne : row ≠ some b) : W1.heap[b]? = some o := by
  rw [← hb]
  exact hg.block b (lt_of_block hb) (Ne.symm hne)
theorem type_ne {α β : Type} {d1 : Kd α} {d2 : Kd β} {e1 e2 b1 b2 : Nat} {w : World} {v1 v2 : Value} {xs : List α} {ys : List β} (h1 : d1.R e1 w b1 (fun _ => True) v1 xs) (h2 : d2.R e2 w b2 (fun _ => True) v2 ys) (ht : e1 ≠ e2) : v1.ownBlock = none ∨ v1.ownBlock ≠ v2.ownBlock := by
  cases hv : v1.ownBlock with
  | none => exact .inl rfl
  | some b =>
    refine .inr fun he => ?_
    obtain ⟨c1, hc1⟩ := Kd.R_typed h1 b hv
    obtain ⟨c2, hc2⟩ := Kd.R_typed h2 b he.symm
    rw [hc1] at hc2
    injection hc2 with hc2
    injection hc2 with _ h
    exact ht h
theorem bel_next {w0 w w1 : World} {base : Nat} (h : Below base w0 w) (hs : base ≤ w.heap.size) (hb : Below w.heap.size w w1) : Below base w0 w1 := h.trans (hb.mono hs)
theorem LInv.base_le {w0 : World} {base Bo Bb : Nat} {w : World} {vo vb : Value} {out : List Int} {bl : List S58} (h : LInv w0 base Bo Bb w vo vb out bl) : base ≤ w.heap.size := Nat.le_trans h.hbo (Nat.le_of_lt (lt_of_block h.bo))
theorem LInv.step {w0 : World} {base Bo Bb : Nat} {w w1 : World} {vo vb : Value} {out : List Int} {bl : List S58} (h : LInv w0 base Bo Bb w vo vb out bl) (hb : Below w.heap.size w w1) : LInv w0 base Bo Bb w1 vo vb out bl :=
  ⟨block_below hb (lt_of_block h.bo) h.bo, block_below hb (lt_of_block h.bb) h.bb, Kd.R_below h.ro hb, Kd.R_below h.rb hb, h.hbo, h.hbb, bel_next h.bel h.base_le hb⟩

theorem lay_mid {w0 w5 w6 : World} {base b4 Bo Bb : Nat} {vo vb v6 v4 : Value} {out q : List Int} {bl bl6 : List S58} (hI5 : LInv w0 base Bo Bb w5 vo vb out bl) (hq5 : Kd.R (Kd.int .u8) 5 w5 b4 (fun _ => True) v4 q)
    (ho6 : k58.R 58 w6 base (fun _ => True) v6 bl6) (hb6 : Below base w0 w6) (hg6 : w5.grownBy w6 vb.ownBlock) (hB6 : w6.heap[Bb]? = some (.cells #[vb] 47 (0, 0))) (hO6 : w6.heap[Bo]? = some (.cells #[vo] 22 (0, 0))) :
    LInv w0 base Bo Bb (w6.setCell ⟨Bb, 0, none⟩ v6) vo v6 out bl6 ∧ Kd.R (Kd.int .u8) 5 (w6.setCell ⟨Bb, 0, none⟩ v6) b4 (fun _ => True) v4 q := by
  have hne : Bo ≠ Bb := by
    intro e
    subst e
    rw [hO6] at hB6
    injection hB6 with h
    injection h with _ h
    exact absurd h (by decide)
  have hty : ∀ k, (Value.slice (some ⟨Bb, 0, none⟩) 1 1).ownBlock = some k → ∃ cells, w6.heap[k]? = some (.cells cells 47 (0, 0)) := fun k hk => by cases hk; exact ⟨_, hB6⟩
  have hR6 := Kd.R_over' (v := vb) (e' := 58) hI5.ro (Kd.R_typed hI5.rb) (by decide) hg6
  have hq6 := Kd.R_over' (v := vb) (e' := 58) hq5 (Kd.R_typed hI5.rb) (by decide) hg6
  have hset : w6.grownBy (w6.setCell ⟨Bb, 0, none⟩ v6) (Value.slice (some ⟨Bb, 0, none⟩) 1 1).ownBlock := grown_set w6 Bb 0 v6
  exact ⟨⟨(Below.heap_setCell w6 ⟨Bb, 0, none⟩ v6 Bo hne).trans hO6, one_setCell hB6, Kd.R_over' (v := .slice (some ⟨Bb, 0, none⟩) 1 1) hR6 hty (by decide) hset, Kd.R_over' (v := .slice (some ⟨Bb, 0, none⟩) 1 1) ho6 hty (by decide) hset, hI5.hbo, hI5.hbb, hb6.setCell (p := ⟨Bb, 0, none⟩) hI5.hbb _⟩,
    Kd.R_over' (v := .slice (some ⟨Bb, 0, none⟩) 1 1) hq6 hty (by decide) hset⟩
theorem lay_end {w0 w7 w8 : World} {base Bo Bb : Nat} {vo vb v8 : Value} {out out8 : List Int} {bl : List S58} (hI7 : LInv w0 base Bo Bb w7 vo vb out bl)
    (ho8 : Kd.R (Kd.int .u8) 5 w8 base (fun _ => True) v8 out8) (hb8 : Below base w0 w8) (hg8 : w7.grownBy w8 vo.ownBlock) (hB8 : w8.heap[Bb]? = some (.cells #[vb] 47 (0, 0))) (hO8 : w8.heap[Bo]? = some (.cells #[vo] 22 (0, 0))) :
    LInv w0 base Bo Bb (w8.setCell ⟨Bo, 0, none⟩ v8) v8 vb out8 bl := by
  have hne : Bb ≠ Bo := by
    intro e
    subst e
    rw [hO8] at hB8
    injection hB8 with h
    injection h with _ h
    exact absurd h (by decide)
  have hty : ∀ k, (Value.slice (some ⟨Bo, 0, none⟩) 1 1).ownBlock = some k → ∃ cells, w8.heap[k]? = some (.cells cells 22 (0, 0)) := fun k hk => by cases hk; exact ⟨_, hO8⟩
  have hR8 := Kd.R_over' (v := vo) (e' := 5) hI7.rb (Kd.R_typed hI7.ro) (by decide) hg8
  have hset : w8.grownBy (w8.setCell ⟨Bo, 0, none⟩ v8) (Value.slice (some ⟨Bo, 0, none⟩) 1 1).ownBlock := grown_set w8 Bo 0 v8
  exact ⟨one_setCell hO8, (Below.heap_setCell w8 ⟨Bo, 0, none⟩ v8 Bb hne).trans hB8, Kd.R_over' (v := .slice (some ⟨Bo, 0, none⟩) 1 1) ho8 hty (by decide) hset, Kd.R_over' (v := .slice (some ⟨Bo, 0, none⟩) 1 1) hR8 hty (by decide) hset, hI7.hbo, hI7.hbb, hb8.setCell (p := ⟨Bo, 0, none⟩) hI7.hbo _⟩

set_option maxHeartbeats 4000000 in
theorem lay_any (w0 : World) (base Bo Bb : Nat) (A0 : Option Addr) (c0 : Nat) (l0 : List Int) (w : World) (vo vb : Value) (out : List Int) (bl : List S58) (hI : LInv w0 base Bo Bb w vo vb out bl)
    (hr0 : Kd.C (Kd.int .u8) w A0 l0.length l0) (hby : ∀ x ∈ l0, 0 ≤ x ∧ x ≤ 255) (hl : l0.length ≤ 4096) (hout : out.length ≤ 1000000) (hbl : bl.length ≤ 1000000) :
    Calls Try.prog 56 #[.slice A0 l0.length c0, .pointer (some ⟨Bb, 0, none⟩), .pointer (some ⟨Bo, 0, none⟩)] w fun e w' => e = .returned (.tuple #[]) ∧
      ∃ vo' vb', LInv w0 base Bo Bb w' vo' vb' (out ++ pieceS l0) (bl ++ [blockS out.length l0]) := by
  have HR0 := Aside0.mk hr0
  have HI := Aside0.mk hI
  clear hr0 hI
  obtain ⟨p, hp⟩ : ∃ p, (packS l0).1 = p := ⟨_, rfl⟩
  have hpk : packS l0 = (p, 0) := by rw [← hp]; unfold packS; rw [if_neg (by omega)]
  have hpb : ∀ x ∈ p, 0 ≤ x ∧ x ≤ 255 := by rw [← hp]; exact packS_bytes l0 hby
  have hpl : p.length ≤ 6000 := by have := packS_length l0 hby; rw [hp] at this; omega
  have hpc : Aside0 (pieceS l0 = if l0.length ≤ p.length then l0 else p) := ⟨by rw [pieceS, hp]⟩
  have HPK := Aside0.mk hpk
  clear hp hpk
  go_enter Try.func56, Try.ntmps56
  go_upto_if 19 with (go_at_call 20; refine (pack_any _ _ _ _ HR0.out hby (by omega)).mono ?_; rw [HPK.out]; rintro e w1 ⟨v1, rfl, hR1, hB1⟩; obtain ⟨A1, k1, rfl⟩ := Kd.R_slice hR1; have H1 := Aside0.mk (⟨hR1, hB1⟩ : _ ∧ _); clear hR1 hB1)
  go_cut [4] (fun v4 wc => ∃ (A4 : Option Addr) (k4 : Nat), v4 = .slice A4 (pieceS l0).length k4 ∧ Aside0 (Kd.R (Kd.int .u8) 5 wc w.heap.size (fun _ => True) (.slice A4 (pieceS l0).length k4) (pieceS l0)) ∧ Aside0 (Below w.heap.size w wc))
  case first =>
    by_cases hge : l0.length ≤ p.length
    · have hge1 : (l0.length : Int) ≤ (p.length : Int) := by omega
      have HP := hpc.out
      rw [if_pos hge] at HP
      have HP := Aside0.mk HP
      clear hge
      go_wp2_with (first
        | (at_make; go_loud (refine Kd.R_make (Kd.int .u8) (w0 := w) w.heap.size 5 rfl rfl 22 _ _ rfl (l0.length : Int) rfl rfl Try.underlying22 (.int .u8 0) 1 info5 rfl (by decide) (by omega) 0 (ok := fun _ => True) (okp := fun _ => False) rfl (fun _ _ => trivial) trivial (by omega) (by simp; omega) H1.out.2 H1.out.2.size ?_); intro v2 w2 ho2 hb2 hg2 hat2)
        | ((with_reducible refine gate_builtin (b := .copy) (xs := #[.tmp 23, .tmp 24]) rfl ?_); go_loud (refine Kd.R_copy (0 : Int) (w0 := w) w.heap.size rfl (.tmp 23) (.tmp 24) 22 22 5 rfl Try.underlying22 (by kernel_rfl) v2 (List.replicate l0.length 0) l0 A0 l0.length c0 (fun _ => True) rfl rfl ho2 (Kd.C_below HR0.out hb2) hb2 hb2.size ?_); intro w3 ho3 hb3 hg3))
      go_meet
      case rel =>
        have ho3' : Kd.R (Kd.int .u8) 5 w3 w.heap.size (fun _ => True) v2 l0 := by
          have e : l0.take (min l0.length (List.replicate l0.length (0 : Int)).length) ++ (List.replicate l0.length (0 : Int)).drop (min l0.length (List.replicate l0.length (0 : Int)).length) = l0 := by simp
          have h := ho3
          rw [e] at h
          exact h
        obtain ⟨A4, k4, rfl⟩ := Kd.R_slice ho3'
        rw [HP.out]
        exact ⟨A4, k4, rfl, ⟨ho3'⟩, ⟨hb3⟩⟩
    · have hge1 : decide ((l0.length : Int) ≤ (p.length : Int)) = false := by simp; omega
      have hge2 : decide (l0.length ≤ p.length) = false := by simp; omega
      have hge3 : (p.length : Int) < (l0.length : Int) := by omega
      clear hge1 hge2
      have HP := hpc.out
      rw [if_neg hge] at HP
      have HP := Aside0.mk HP
      clear hge
      go_wp2
      go_meet
      case rel =>
        rw [HP.out]
        exact ⟨A1, k1, rfl, ⟨H1.out.1⟩, ⟨H1.out.2⟩⟩
  case rest =>
    obtain ⟨A4, k4, rfl, HC4, HB4⟩ := hcut
    have HI1 := Aside0.mk ((HI.out.step HB4.out).step (Below.refl wc.heap.size wc).drew)
    have HC5 : Aside0 (Kd.R (Kd.int .u8) 5 wc.drew w.heap.size (fun _ => True) (.slice A4 (pieceS l0).length k4) (pieceS l0)) := ⟨Kd.R_drew HC4.out⟩
    obtain ⟨q, hq⟩ : ∃ q, pieceS l0 = q := ⟨_, rfl⟩
    have hqb : ∀ x ∈ q, 0 ≤ x ∧ x ≤ 255 := by
      rw [← hq, hpc.out]
      split
      · exact hby
      · exact hpb
    have hql : q.length ≤ 6000 := by
      rw [← hq, hpc.out]
      split <;> omega
    obtain ⟨nq, hnq⟩ : ∃ nq, sumS q = nq := ⟨_, rfl⟩
    have HBS : Aside0 (blockS out.length l0 = ⟨out.length, q.length, l0.length, nq⟩) := ⟨by rw [blockS, hq, hnq]⟩
    have HNQ := Aside0.mk hnq
    have HQQ := Aside0.mk hq
    rw [hq] at HC4 HC5 ⊢
    clear hq hnq hpc HPK H1 HI HB4 hpb hpl HR0
    obtain ⟨Ao, ko, rfl⟩ := Kd.R_slice HI1.out.ro
    have hcb := cell_of_one HI1.out.bb
    have hco := cell_of_one HI1.out.bo
    have hfb := free_of_one HI1.out.bb
    have hfo := free_of_one HI1.out.bo
    go_wp2_with fail
    go_region_law (first
      | (refine Kd.R_append_step k58 (w0 := w0) base rfl (.tmp 26) (.tmp 36) 47 58 _ 32 rfl Try.underlying47 info58 rfl (by decide) (by omega) vb bl ⟨out.length, q.length, l0.length, nq⟩ _ (fun _ => True) (fun _ => False) rfl rfl (k58_mkM _ _ _ _) (fun _ hk => hk.elim) (fun _ _ => trivial) (Kd.R_below HI1.out.rb hb5) (bel_next HI1.out.bel HI1.out.base_le hb5) (Nat.le_trans HI1.out.base_le hb5.size) (by omega) ?_; intro v6 w6 ho6 hb6 hg6 hat6; obtain ⟨A6, k6, e6⟩ := Kd.R_slice ho6; rw [List.length_append, List.length_singleton] at e6; subst e6; have hB6 := grown_block hg6 hI5.bb (ne_block hI5.rb hI5.bb (by decide)); have hO6 := grown_block hg6 hI5.bo (ne_block hI5.rb hI5.bo (by decide)); have hc6 := cell_of_one hB6; have hf6 := free_of_one hB6)
      | (go_simp; go_at_call 45; refine (sum_any _ _ _ _ (Kd.R_reads' HC5.out).2.2 hqb (by omega)).mono ?_; rw [HNQ.out]; rintro e w5 ⟨rfl, hb5⟩; have hI5 := HI1.out.step hb5; have hcb5 := cell_of_one hI5.bb; have hco5 := cell_of_one hI5.bo; have hcbA := cell_alloc hcb5 (.cells #[.int .i64 out.length, .int .i64 q.length, .int .i64 l0.length, .int .i64 nq] 58); have hcoA := cell_alloc hco5 (.cells #[.int .i64 out.length, .int .i64 q.length, .int .i64 l0.length, .int .i64 nq] 58)))
    all_goals
      have HN := Aside0.mk (lay_mid hI5 (Kd.R_below HC5.out hb5) ho6 hb6 hg6 hB6 hO6)
      clear hcb hco hfb hfo hcb5 hco5 hcbA hcoA hc6 hf6 hB6 hO6 hat6 hg6 hb6 ho6 hI5 hb5
      generalize Value.slice A6 (bl.length + 1) k6 = v7 at HN
      generalize w6.setCell ⟨Bb, 0, none⟩ v7 = w7 at HN
      have hco7 := cell_of_one HN.out.1.bo
      go_wp2_with (at_builtin; go_loud (refine Kd.R_append_rows (Kd.int .u8) (w0 := w0) base rfl (.tmp 38) (.tmp 39) 22 5 (.int .u8 0) 1 rfl Try.underlying22 info5 rfl (by decide) (by omega) (.slice Ao out.length ko) out q A4 q.length k4 (fun _ => True) (fun _ => False) rfl rfl HN.out.1.ro (Kd.R_reads' HN.out.2).2.2 (fun _ _ h => h) (fun _ hk => hk.elim) (fun _ _ => trivial) HN.out.1.bel HN.out.1.base_le (by omega) ?_); intro v8 w8 ho8 hb8 hg8 hat8; obtain ⟨A8, k8, e8⟩ := Kd.R_slice ho8; rw [List.length_append] at e8; subst e8; have hB8 := grown_block hg8 HN.out.1.bb (ne_block HN.out.1.ro HN.out.1.bb (by decide)); have hO8 := grown_block hg8 HN.out.1.bo (ne_block HN.out.1.ro HN.out.1.bo (by decide)); have hc8 := cell_of_one hO8; have hf8 := free_of_one hO8)
      go_end0
      rw [HBS.out, HQQ.out]
      exact ⟨rfl, _, _, lay_end HN.out.1 ho8 hb8 hg8 hB8 hO8⟩
end Go.Proofs.Ytoefligelajfkaa.Block
