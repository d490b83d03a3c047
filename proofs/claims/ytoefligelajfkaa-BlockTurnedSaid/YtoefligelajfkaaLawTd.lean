import Derived.Test.YtoefligelajfkaaLawBk
namespace Go.Proofs.Ytoefligelajfkaa.Block
open Go.Proofs.Ytoefligelajfkaa.PBlockOpens Go.Proofs.Ytoefligelajfkaa.Press

theorem sumR_append (a b : List Int) : ∀ r, sumR (a ++ b) r = sumR b (sumR a r) := by
  induction a with
  | nil => intro r; rfl
  | cons x t ih => intro r; exact ih _
theorem xor_byte_lt {r x : Nat} (hr : r < 4294967296) (hx : x ≤ 255) : r ^^^ x < 4294967296 := Nat.xor_lt_two_pow (n := 32) hr (by omega)
theorem xor_cancel {a b x : Nat} (h : a ^^^ x = b ^^^ x) : a = b := by
  have := congrArg (· ^^^ x) h
  simpa only [Nat.xor_assoc, Nat.xor_self, Nat.xor_zero] using this
theorem xor_cancel' {a x y : Nat} (h : a ^^^ x = a ^^^ y) : x = y := by
  have := congrArg (a ^^^ ·) h
  simpa only [← Nat.xor_assoc, Nat.xor_self, Nat.zero_xor] using this
theorem sumR_inj : ∀ (l : List Int) (r r' : Nat), (∀ x ∈ l, 0 ≤ x ∧ x ≤ 255) → r < 4294967296 → r' < 4294967296 → sumR l r = sumR l r' → r = r' := by
  intro l
  induction l with
  | nil => intro r r' _ _ _ h; exact h
  | cons x t ih =>
    intro r r' hb h0 h1 h
    have hx := hb x (by simp)
    have hx0 : x.toNat ≤ 255 := by omega
    have e := ih _ _ (fun y hy => hb y (by simp [hy])) (f4_lt (f4_lt (xor_byte_lt h0 hx0))) (f4_lt (f4_lt (xor_byte_lt h1 hx0))) h
    exact xor_cancel (f4_inj (xor_byte_lt h0 hx0) (xor_byte_lt h1 hx0) (f4_inj (f4_lt (xor_byte_lt h0 hx0)) (f4_lt (xor_byte_lt h1 hx0)) e))
/-- Another byte at a place: another sum. -/
theorem sum_set_ne {l : List Int} (hb : ∀ x ∈ l, 0 ≤ x ∧ x ≤ 255) {j : Nat} (hj : j < l.length) {y : Int} (hy : 0 ≤ y ∧ y ≤ 255) (hne : y ≠ l[j]) : sumS (l.set j y) ≠ sumS l := by
  have hx := hb l[j] (List.getElem_mem hj)
  have e1 : l = l.take j ++ l[j] :: l.drop (j + 1) := by rw [← List.drop_eq_getElem_cons hj, List.take_append_drop]
  have e2 : l.set j y = l.take j ++ y :: l.drop (j + 1) := by rw [List.set_eq_take_append_cons_drop, if_pos hj]
  have ht : ∀ x ∈ l.take j, 0 ≤ x ∧ x ≤ 255 := fun x h => hb x (List.mem_of_mem_take h)
  have hd : ∀ x ∈ l.drop (j + 1), 0 ≤ x ∧ x ≤ 255 := fun x h => hb x (List.mem_of_mem_drop h)
  intro h
  have hr := sumR_lt (l.take j) 4294967295 ht (by omega)
  have a1 : sumR l 4294967295 = sumR (l.drop (j + 1)) (f4 (f4 (sumR (l.take j) 4294967295 ^^^ l[j].toNat))) := by
    conv => lhs; rw [e1]
    rw [sumR_append]; rfl
  have a2 : sumR (l.set j y) 4294967295 = sumR (l.drop (j + 1)) (f4 (f4 (sumR (l.take j) 4294967295 ^^^ y.toNat))) := by
    rw [e2, sumR_append]; rfl
  have b1 := xor_byte_lt (x := l[j].toNat) hr (by omega)
  have b2 := xor_byte_lt (x := y.toNat) hr (by omega)
  have c1 := sumR_lt (l.drop (j + 1)) _ hd (f4_lt (f4_lt b1))
  have c2 := sumR_lt (l.drop (j + 1)) _ hd (f4_lt (f4_lt b2))
  unfold sumS at h
  rw [a1, a2] at h
  have h' : sumR (l.drop (j + 1)) (f4 (f4 (sumR (l.take j) 4294967295 ^^^ y.toNat))) = sumR (l.drop (j + 1)) (f4 (f4 (sumR (l.take j) 4294967295 ^^^ l[j].toNat))) := by omega
  have e := sumR_inj _ _ _ hd (f4_lt (f4_lt b2)) (f4_lt (f4_lt b1)) h'
  have := xor_cancel' (f4_inj b2 b1 (f4_inj (f4_lt b2) (f4_lt b1) e))
  omega

theorem open_bad {l : List Int} {b : S58} (h : badB l b) : openS l b = ([], 110) := by unfold openS; rw [if_pos h]
theorem open_len {l : List Int} {b : S58} (h : (l.length : Int) ≠ b.f1) : openS l b = ([], 110) := open_bad (.inr (.inr (.inr (.inr (.inl h)))))
theorem open_sum {l : List Int} {b : S58} (h : (sumS l : Int) ≠ b.f3) : openS l b = ([], 110) := open_bad (.inr (.inr (.inr (.inr (.inr h)))))
theorem open_at (l : List Int) (x0 y0 x1 x2 x3 : Int) : openS l ⟨x0, x1, x2, x3⟩ = openS l ⟨y0, x1, x2, x3⟩ := rfl
theorem xor_ne {x y : Nat} (hy : y ≠ 0) : x ^^^ y ≠ x := fun h => hy (xor_cancel' (a := x) (by rw [h, Nat.xor_zero]))
theorem xor_back (x y : Nat) : (x ^^^ y) ^^^ y = x := by rw [Nat.xor_assoc, Nat.xor_self, Nat.xor_zero]
end Go.Proofs.Ytoefligelajfkaa.Block
namespace Go.Proofs.Ytoefligelajfkaa.Block
open Go.RowKit Go.Proofs.YtoefligelajfkaaW.PrintWords Go.Proofs.YtoefligelajfkaaW.PrintLast Go.Proofs.YtoefligelajfkaaW.PrintMore Go.Proofs.Ytoefligelajfkaa.Press
open Go.Proofs.Ytoefligelajfkaa.PBlockOpens (S58 k58 z58 k58_open k58_mk k58_mkM k58_openM rd_T58 at_T58)

theorem i64_xor_nat (a b : Nat) (ha : a < 4294967296) (hb : b < 4294967296) : bits .xor .i64 (a : Int) (b : Int) = ((a ^^^ b : Nat) : Int) := by
  show IntKind.i64.wrap (((BitVec.ofInt 64 (a : Int)) ^^^ (BitVec.ofInt 64 (b : Int))).toNat : Int) = _
  have := Nat.xor_lt_two_pow (n := 32) ha hb
  rw [BitVec.toNat_xor, ofInt_u64 a (by omega), ofInt_u64 b (by omega), IntWalk.i64_in _ (by omega)]

/-- block.Open by what it answers. -/
theorem bopen_to (A0 : Option Addr) (c0 : Nat) (l0 : List Int) (n : Nat) (x0 x1 x2 x3 : Int) (r : List Int × Int) (w : World) (hn : l0.length = n) (hr : openS l0 ⟨x0, x1, x2, x3⟩ = r) (hr0 : Kd.C (Kd.int .u8) w A0 l0.length l0) (hby : ∀ x ∈ l0, 0 ≤ x ∧ x ≤ 255) (hl : l0.length ≤ 140737488355328) :
    Calls Try.prog 39 #[.slice A0 n c0, .agg #[.int .i64 x0, .int .i64 x1, .int .i64 x2, .int .i64 x3]] w fun e w' => ∃ v, e = .returned (.tuple #[v, .int .i64 r.2]) ∧ Kd.R (Kd.int .u8) 5 w' w.heap.size (fun _ => True) v r.1 ∧ Below w.heap.size w w' := by
  subst hn hr
  exact bopen_any A0 c0 l0 x0 x1 x2 x3 w hr0 hby hl

/-- What is known all along: the boxed block, and the packed bytes. -/
structure TI (w0 : World) (gx gp m k : Nat) (b : S58) (W : World) (q : List Int) : Prop where
  cx : W.heap[gx]? = some (.cells #[.int .i64 b.f0, .int .i64 b.f1, .int .i64 b.f2, .int .i64 b.f3] 58 (0, 0))
  rp : Kd.R (Kd.int .u8) 5 W w0.heap.size (fun _ => True) (.slice (some ⟨gp, 0, none⟩) m k) q
  bel : Below w0.heap.size w0 W
theorem TI.step {w0 : World} {gx gp m k : Nat} {b : S58} {W W1 : World} {q : List Int} (h : TI w0 gx gp m k b W q) (hb : Below W.heap.size W W1) : TI w0 gx gp m k b W1 q :=
  ⟨blk_below h.cx hb, Kd.R_below h.rp hb, below_step h.bel hb⟩
theorem TI.cells {w0 : World} {gx gp m k : Nat} {b : S58} {W : World} {q : List Int} (h : TI w0 gx gp m k b W q) : Boxed W gx b.f0 b.f1 b.f2 b.f3 := Boxed.of h.cx
theorem far_of_at {v u : Value} {g N : Nat} (hat : v.ownBlock = u.ownBlock ∨ ∃ b, v.ownBlock = some b ∧ N ≤ b) (hu : some g ≠ u.ownBlock) (hN : g < N) : some g ≠ v.ownBlock := by
  rcases hat with h | ⟨b, h, hb⟩
  · rw [h]; exact hu
  · rw [h]
    intro e
    injection e with e
    omega
theorem lit_R (W : World) (base : Nat) (xs : List Int) (hb : base ≤ W.heap.size) (hm : xs.length ≤ 9223372036854775807) : Kd.R (Kd.int .u8) 5 (W.alloc (.cells (nums .u8 xs).toArray 5)) base (fun _ => True) (.slice (some ⟨W.heap.size, 0, none⟩) xs.length xs.length) xs :=
  Kd.R_of_own (own_lit W base 5 .u8 xs hb hm) (fun _ _ => trivial)
theorem TI.grown {w0 : World} {gx gp m k : Nat} {b : S58} {W W1 : World} {q : List Int} {row : Option Nat} (h : TI w0 gx gp m k b W q) (hg : W.grownBy W1 row) (hB : Below w0.heap.size w0 W1) (h1 : some gx ≠ row) (h2 : some gp ≠ row) : TI w0 gx gp m k b W1 q :=
  ⟨blk_grown h.cx hg h1, R_kept h.rp hg (.inr h2), hB⟩
theorem TI.setFar {w0 : World} {gx gp m k : Nat} {b : S58} {W : World} {q : List Int} (h : TI w0 gx gp m k b W q) {g : Nat} (h1 : gx ≠ g) (h2 : gp ≠ g) (h3 : w0.heap.size ≤ g) (o : Nat) (v : Value) : TI w0 gx gp m k b (W.setCell ⟨g, o, none⟩ v) q :=
  ⟨blk_far h.cx (p := ⟨g, o, none⟩) h1 _, R_kept (row := some g) h.rp (grown_set _ _ _ _) (.inr (by simp [Value.ownBlock, h2])), h.bel.setCell (p := ⟨g, o, none⟩) h3 _⟩
theorem TI.set {w0 : World} {gx gp m k : Nat} {b : S58} {W : World} {q : List Int} (h : TI w0 gx gp m k b W q) (j : Nat) (y : Int) (hne : gx ≠ gp) : TI w0 gx gp m k b (W.setCell ⟨gp, j, none⟩ (.int .u8 y)) (q.set j y) := by
  have hp := Kd.R_putn (enc := Value.int .u8) (h1 := fun _ => rfl) h.rp (j : Int) y
  simp only [Int.toNat_natCast] at hp
  exact ⟨blk_far h.cx (p := ⟨gp, j, none⟩) hne _, hp, h.bel.setCell (p := ⟨gp, j, none⟩) (Kd.R_base h.rp gp rfl) _⟩

set_option maxRecDepth 100000 in
set_option maxHeartbeats 4000000 in
theorem turned_walk (A0 : Option Addr) (c0 : Nat) (l0 : List Int) (n wh at_ yb : Nat) (w : World) (hr0 : Kd.C (Kd.int .u8) w A0 l0.length l0) (hby : ∀ x ∈ l0, 0 ≤ x ∧ x ≤ 255) (hc0 : l0.length ≤ c0) (hl : l0.length ≤ 65536) (hs1 : 16 ≤ n) (hs2 : n ≤ 4096)
    (hpos : 1 ≤ l0.length) (hy1 : 1 ≤ yb) (hy2 : yb ≤ 255) (hwh : wh ≤ 9223372036854775807) (hat : at_ ≤ 9223372036854775807) :
    Calls Try.prog 16 #[.slice A0 l0.length c0, .int .i64 n, .int .i64 wh, .int .i64 at_, .int .i64 yb] w fun e w' => e = .returned (.bool true) ∧ Below w.heap.size w w' := by
  have HR0 := Aside0.mk hr0
  clear hr0
  obtain ⟨cs, hcs⟩ : ∃ cs, chunksR l0 n l0.length 0 = cs := ⟨_, rfl⟩
  obtain ⟨out, hout⟩ : ∃ out, catS cs = out := ⟨_, rfl⟩
  obtain ⟨blk, hblk⟩ : ∃ blk, blocksR 0 cs = blk := ⟨_, rfl⟩
  have F1 : Aside0 (bpackS l0 n = (out, blk, 0)) := ⟨by rw [bpack_fits l0 n hs1 hs2 hl, hcs, hout, hblk]⟩
  have hol : out.length ≤ 65536 := by rw [← hout, ← hcs]; exact Nat.le_trans (back_len l0 n hs1) hl
  have hcl : blk.length = cs.length := by rw [← hblk, blocks_len]
  have hbl : blk.length ≤ 70000 := by
    rw [hcl, ← hcs, chunks_len l0 n (by omega) _ _ (by omega) (by omega)]
    exact Nat.le_trans (Nat.div_le_self _ _) (by omega)
  have hbl1 : 1 ≤ blk.length := by
    rw [hcl, ← hcs, chunks_len l0 n (by omega) _ _ (by omega) (by omega)]
    exact Nat.div_pos (by omega) (by omega)
  obtain ⟨d, hd⟩ : ∃ d, wh % blk.length = d := ⟨_, rfl⟩
  have hdl : d < blk.length := by rw [← hd]; exact Nat.mod_lt _ hbl1
  obtain ⟨done, p, t, hsp, hdn⟩ : ∃ (done : List (List Int)) (p : List Int) (t : List (List Int)), cs = done ++ p :: t ∧ done.length = d := by
    have hd2 : d < cs.length := by omega
    refine ⟨cs.take d, cs[d], cs.drop (d + 1), ?_, by simp; omega⟩
    rw [← List.drop_eq_getElem_cons hd2, List.take_append_drop]
  have hpm : 1 ≤ p.length ∧ p.length ≤ 4096 ∧ ∀ x ∈ p, 0 ≤ x ∧ x ≤ 255 := by
    have hp : p ∈ chunksR l0 n l0.length 0 := by rw [hcs, hsp]; simp
    have := chunks_mem l0 n (by omega) _ _ p hp
    exact ⟨this.1, by omega, fun x hx => hby x (this.2.2 x hx)⟩
  obtain ⟨q, hq⟩ : ∃ q, pieceS p = q := ⟨_, rfl⟩
  have hb : rd_T58 blk (d : Int) = blockS (catS done).length p := by rw [← hblk, hsp, ← hdn]; exact blocks_get done p t
  have hmid : (out.take ((catS done).length + q.length)).drop (catS done).length = q := by rw [← hout, hsp, ← hq]; exact cat_mid done p t
  have hopen := open_piece (catS done).length hpm.1 hpm.2.1
  have hatl : (catS done).length + q.length ≤ out.length := by
    rw [← hout, hsp, cat_append, catS, List.length_append, List.length_append, hq]; omega
  have hq1 : 1 ≤ q.length := by rw [← hq]; exact pieceS_pos hpm.1 hpm.2.1
  have hq2 : q.length ≤ 4096 := by rw [← hq]; exact Nat.le_trans (pieceS_length p) hpm.2.1
  have hqb : ∀ x ∈ q, 0 ≤ x ∧ x ≤ 255 := by rw [← hq]; exact piece_bytes hpm.2.2
  obtain ⟨a, ha⟩ : ∃ a, (catS done).length = a := ⟨_, rfl⟩
  obtain ⟨ns, hns⟩ : ∃ ns, sumS q = ns := ⟨_, rfl⟩
  have hnl : ns ≤ 4294967295 := by rw [← hns]; exact sumS_le q
  have hbs : blockS a p = ⟨a, q.length, p.length, ns⟩ := by rw [blockS, hq, hns]
  rw [ha] at hb hmid hopen hatl
  rw [hbs] at hb
  rw [hbs, hq] at hopen
  have hpl1 := hpm.1
  have hpl2 := hpm.2.1
  have HB := Aside0.mk hb
  have HMID := Aside0.mk hmid
  have HO := Aside0.mk hopen
  have HNS := Aside0.mk hns
  have k1 : decide ((yb : Int) < 1) = false := by simp; omega
  have k2 : decide ((255 : Int) < (yb : Int)) = false := by simp; omega
  have k3 : decide ((wh : Int) < 0) = false := by simp
  have k4 : decide ((at_ : Int) < 0) = false := by simp
  have k5 : ((l0.length : Int) == 0) = false := by rw [beq_eq_false_iff_ne]; omega
  have k5b : (l0.length == 0) = false := by rw [beq_eq_false_iff_ne]; omega
  have k6 : ((blk.length : Int) == 0) = false := by rw [beq_eq_false_iff_ne]; omega
  have k6b : (blk.length == 0) = false := by rw [beq_eq_false_iff_ne]; omega
  have k7 : (wh : Int) % (blk.length : Int) = (d : Int) := by rw [← hd]; rfl
  have k8 : (d : Int) < (blk.length : Int) := by omega
  clear hcs hout hblk hcl hsp hdn hpm hq hb hmid hopen ha hns hbs hd
  go_enter Try.func16, Try.ntmps16
  go_upto_region 9 with (first
    | (go_at_call 44; refine (fits_true _ _ _ _ _ hl (by omega) (by omega)).mono ?_; rintro e w1 ⟨rfl, rfl⟩)
    | (go_at_call 31; refine (bpack_any _ _ l0 (n : Int) _ HR0.out hby hc0 (by omega)).mono ?_; rw [F1.out]; rintro e w2 ⟨vo, vb, rfl, hRo, hRb, hB2⟩; obtain ⟨go, ko, eo, hgo1, hgo2, -⟩ := Kd.R_form hRo (show 0 < out.length by omega); subst eo; obtain ⟨gb, kb, eb, hgb1, hgb2, -⟩ := Kd.R_form hRb (show 0 < blk.length by omega); subst eb; obtain ⟨b0, b1, b2, b3⟩ := cellsB' hRb HB.out hdl; have H2 := Aside0.mk (⟨hRo, hRb, hB2⟩ : _ ∧ _ ∧ _); clear hRo hRb hB2))
  have hS2 := cellsB' H2.out.2.1 HB.out hdl
  have hko := (Kd.R_reads' H2.out.1).2.1
  have HC : Aside0 (Kd.C (Kd.int .u8) w2 (some ⟨go, a, none⟩) q.length q) := ⟨C_range (Kd.R_reads' H2.out.1).2.2 hko hq1 hatl HMID.out⟩
  have hko' : out.length ≤ ko := hko
  have hB2 : Aside0 (Below w.heap.size w w2) := ⟨H2.out.2.2⟩
  clear b0 b1 b2 b3 hS2 hko H2 HB HMID F1
  obtain ⟨gx, hgx⟩ : ∃ gx, w2.heap.size = gx := ⟨_, rfl⟩
  have HX0 : Aside0 ((w2.alloc (.cells #[.int .i64 a, .int .i64 q.length, .int .i64 p.length, .int .i64 ns] 58)).heap[gx]? = some (.cells #[.int .i64 a, .int .i64 q.length, .int .i64 p.length, .int .i64 ns] 58 (0, 0))) := ⟨by rw [← hgx]; exact heap_alloc_new w2 _⟩
  have HB3 : Aside0 (Below w.heap.size w (w2.alloc (.cells #[.int .i64 a, .int .i64 q.length, .int .i64 p.length, .int .i64 ns] 58))) := ⟨below_alloc hB2.out _⟩
  have HC3 := Aside0.mk (Kd.C_alloc HC.out (.cells #[.int .i64 a, .int .i64 q.length, .int .i64 p.length, .int .i64 ns] 58))
  have hgx2 : (w2.alloc (.cells #[.int .i64 a, .int .i64 q.length, .int .i64 p.length, .int .i64 ns] 58)).heap.size = gx + 1 := by simp [hgx]
  have HGX := Aside0.mk hgx2
  have hgx3 : w.heap.size ≤ gx := by rw [← hgx]; exact hB2.out.size
  rw [hgx]
  clear hgx hgx2 HC hB2
  generalize w2.alloc (.cells #[.int .i64 a, .int .i64 q.length, .int .i64 p.length, .int .i64 ns] 58) = W3 at HX0 HB3 HC3 HGX
  obtain ⟨x0, x1, x2, x3⟩ := Boxed.of HX0.out
  have z0 := cell_alloc x0 (.cells #[] 5)
  have z1 := cell_alloc x1 (.cells #[] 5)
  have h2 : (a : Int) ≤ (a : Int) + (q.length : Int) := by omega
  have h3 : (a : Int) + (q.length : Int) ≤ (ko : Int) := by omega
  have h9 : ((a : Int) + (q.length : Int)).toNat - a = q.length := by omega
  have h10 : ¬ ko = a := by omega
  go_upto_region 10 with (at_builtin; go_loud (refine Kd.R_append_rows (Kd.int .u8) (w0 := w) w.heap.size rfl (.tmp 93) (.tmp 102) 22 5 (.int .u8 0) 1 rfl Try.underlying22 info5 rfl (by decide) (by omega) (.slice (some ⟨W3.heap.size, 0, none⟩) 0 0) [] q (some ⟨go, a, none⟩) q.length (ko - a) (fun _ => True) (fun _ => False) rfl rfl (empty_row W3 w.heap.size HB3.out.size) (Kd.C_alloc HC3.out _) (fun _ _ h => h) (fun _ hk => hk.elim) (fun _ _ => trivial) (below_alloc HB3.out _) (by simp; have := HB3.out.size; omega) (by simp; omega) ?_); intro v8 w8 ho8 hb8 hg8 hat8)
  have ho8' : Kd.R (Kd.int .u8) 5 w8 w.heap.size (fun _ => True) v8 q := ho8
  obtain ⟨gp, kp, ev8, hgp1, hgp2, -⟩ := Kd.R_form ho8' (by omega)
  subst ev8
  have hxp : gx < gp := by
    have := HGX.out
    rcases hat8 with h | ⟨z, h, hz⟩
    · simp [Value.ownBlock] at h; omega
    · simp [Value.ownBlock] at h; simp at hz; omega
  have HT : Aside0 (TI w gx gp q.length kp ⟨a, q.length, p.length, ns⟩ w8 q) := ⟨⟨blk_grown (blk_alloc HX0.out _) hg8 (by simp [Value.ownBlock]; have := HGX.out; omega), ho8', hb8⟩⟩
  have hkp := (Kd.R_reads' ho8').2.1
  have hne : gx ≠ gp := by omega
  clear ho8 ho8' hb8 hg8 hat8 x0 x1 x2 x3 z0 z1 HX0 HB3 HC3 HGX h2 h3 h9 h10 hko' hgp2
  have hal : a ≤ 65536 := by omega
  clear k1 k2 k3 k4 k5 k5b k6 k6b k7 k8 hgo1 hgo2 hgb1 hgb2 hatl hol hbl hbl1 hdl
  obtain ⟨j, hj⟩ : ∃ j, at_ % q.length = j := ⟨_, rfl⟩
  have hjl : j < q.length := by rw [← hj]; exact Nat.mod_lt _ hq1
  have j1 : (at_ : Int) % (q.length : Int) = (j : Int) := by rw [← hj]; rfl
  have j2 : (j : Int) < (q.length : Int) := by omega
  obtain ⟨xb, hxb⟩ : ∃ xb : Nat, q[j] = (xb : Int) := ⟨q[j].toNat, by have := hqb q[j] (List.getElem_mem hjl); omega⟩
  have hxl : xb ≤ 255 := by have := hqb q[j] (List.getElem_mem hjl); omega
  have hrd : ∀ (l : List Int) (z : Int) (h : j < l.length), l[j] = z → rdOf 0 l (j : Int) = z := by
    intro l z h e
    rw [rdOf, Int.toNat_natCast, List.getD_eq_getElem?_getD, List.getElem?_eq_getElem h, e]; rfl
  obtain ⟨c1, f1⟩ := Kd.R_celln (0 : Int) HT.out.rp (j : Int) (by omega) (by omega)
  rw [hrd q _ hjl hxb] at c1
  simp only [Int.toNat_natCast] at c1 f1
  obtain ⟨yv, hyv⟩ : ∃ yv, xb ^^^ yb = yv := ⟨_, rfl⟩
  have hyl : yv ≤ 255 := by have := Nat.xor_lt_two_pow (n := 8) (show xb < 2 ^ 8 by omega) (show yb < 2 ^ 8 by omega); omega
  have hyx : yv ≠ xb := by rw [← hyv]; exact xor_ne (by omega)
  have b1 : bits .xor .u8 (xb : Int) (yb : Int) = (yv : Int) := by rw [← hyv]; exact u8_xor_nat xb yb (by omega) (by omega)
  have b2 : bits .xor .u8 (yv : Int) (yb : Int) = (xb : Int) := by
    rw [u8_xor_nat yv yb (by omega) (by omega), ← hyv, xor_back]
  obtain ⟨q1, hq1e⟩ : ∃ q1, q.set j (yv : Int) = q1 := ⟨_, rfl⟩
  have hq1l : q1.length = q.length := by rw [← hq1e, List.length_set]
  have hq1b : ∀ x ∈ q1, 0 ≤ x ∧ x ≤ 255 := by
    rw [← hq1e]
    intro x hx
    rcases List.mem_or_eq_of_mem_set hx with h | rfl
    · exact hqb x h
    · omega
  have HE1 : Aside0 (openS q1 ⟨a, q.length, p.length, ns⟩ = ([], 110)) := ⟨open_sum (by
    rw [← hq1e]
    have := sum_set_ne hqb hjl (y := (yv : Int)) (by omega) (by rw [hxb]; omega)
    rw [HNS.out] at this
    simp only []
    omega)⟩
  have hq1s : Aside0 (q1.set j (xb : Int) = q) := ⟨by rw [← hq1e, List.set_set, ← hxb, List.set_getElem_self]⟩
  have HL1 := Aside0.mk hq1l
  have hq1j : rdOf 0 q1 (j : Int) = (yv : Int) := hrd q1 _ (by omega) (by simp [← hq1e])
  have HQ1J := Aside0.mk hq1j
  have HT1 : Aside0 (TI w gx gp q.length kp ⟨a, q.length, p.length, ns⟩ ((w8.setCell ⟨gp, j, none⟩ (.int .u8 yv)).drew) q1) := ⟨by rw [← hq1e]; exact (HT.out.set j (yv : Int) hne).step (below_drew (Below.refl _ _))⟩
  clear hj hq1e hxb hyx hq1l hq1j hrd hyv hpos hc0 hl hs1 hs2 hwh
  go_region
  generalize (w8.setCell ⟨gp, j, none⟩ (.int .u8 yv)).drew = W9 at HT1
  clear c1 f1 HT
  obtain ⟨x0, x1, x2, x3⟩ := HT1.out.cells
  simp only [] at x0 x1 x2 x3
  go_upto_region 12 with (go_at_call 39; refine (bopen_to (some ⟨gp, 0, none⟩) kp q1 q.length _ _ _ _ _ _ HL1.out HE1.out (Kd.R_reads' HT1.out.rp).2.2 hq1b (by rw [HL1.out]; omega)).mono ?_; rintro e w10 ⟨v10, rfl, hR10, hB10⟩; have HT2 := Aside0.mk (HT1.out.step hB10); obtain ⟨A10, k10, rfl⟩ := Kd.R_slice hR10; clear hR10 hB10)
  clear HT1 x0 x1 x2 x3
  obtain ⟨c1, f1⟩ := Kd.R_celln (0 : Int) HT2.out.rp (j : Int) (by omega) (by omega)
  rw [HQ1J.out] at c1
  simp only [Int.toNat_natCast] at c1 f1
  have HT3 : Aside0 (TI w gx gp q.length kp ⟨a, q.length, p.length, ns⟩ ((w10.setCell ⟨gp, j, none⟩ (.int .u8 xb)).drew) q) := ⟨by
    have h := (HT2.out.set j (xb : Int) hne).step (below_drew (Below.refl _ _))
    rw [hq1s.out] at h
    exact h⟩
  go_region
  generalize (w10.setCell ⟨gp, j, none⟩ (.int .u8 xb)).drew = W11 at HT3
  clear c1 f1 HT2 HE1 HQ1J HL1 hq1s hq1b
  obtain ⟨x0, x1, x2, x3⟩ := HT3.out.cells
  simp only [] at x0 x1 x2 x3
  obtain ⟨m1, hm1⟩ : ∃ m1, m1 = q.length - 1 := ⟨_, rfl⟩
  have hm2 : IntKind.i64.wrap ((q.length : Int) - 1) = (m1 : Int) := by rw [IntWalk.i64_in _ (by omega)]; omega
  have hm3 : (m1 : Int) ≤ (kp : Int) := by omega
  have hm4 : m1 ≤ q.length := by omega
  have HM1 : Aside0 ((q.take m1).length = m1) := ⟨by rw [List.length_take]; omega⟩
  have HE2 : Aside0 (openS (q.take m1) ⟨a, q.length, p.length, ns⟩ = ([], 110)) := ⟨open_len (by rw [HM1.out]; simp only []; omega)⟩
  have HC2 : Aside0 (Kd.C (Kd.int .u8) W11 (some ⟨gp, 0, none⟩) (q.take m1).length (q.take m1)) := ⟨Kd.C_take (Kd.R_reads' HT3.out.rp).2.2 hm4⟩
  clear hm1
  go_wp2_with fail
  go_region_held3 (fun w' => w'.cell? ⟨gx, 0, none⟩ = some (.int .i64 a) ∧ w'.cell? ⟨gx, 1, none⟩ = some (.int .i64 q.length) ∧ w'.cell? ⟨gx, 2, none⟩ = some (.int .i64 p.length) ∧ w'.cell? ⟨gx, 3, none⟩ = some (.int .i64 ns)) (go_keep)
    (first | (go_at_call 39; refine (bopen_to (some ⟨gp, 0, none⟩) kp (q.take m1) m1 _ _ _ _ _ _ HM1.out HE2.out (Kd.C_drew HC2.out) (fun x hx => hqb x (List.mem_of_mem_take hx)) (by rw [HM1.out]; omega)).mono ?_; rintro e w12 ⟨v12, rfl, hR12, hB12⟩; have HT4 := Aside0.mk ((HT3.out.step (below_drew (Below.refl _ _))).step hB12); obtain ⟨A12, k12, rfl⟩ := Kd.R_slice hR12; clear hR12; have s0 := pw_cell_below hB12 x0; have s1 := pw_cell_below hB12 x1; have s2 := pw_cell_below hB12 x2; have s3 := pw_cell_below hB12 x3))
  clear x0 x1 x2 x3 HE2 HC2 HM1 hm2 hm3 hm4 hB12 HT3
  have hB12 := HT4.out.bel
  have hgp3 := Kd.R_lt HT4.out.rp gp rfl
  have hgx4 := blk_lt HT4.out.cx
  have HEA : Aside0 (Kd.R (Kd.int .u8) 5 (w12.alloc (.cells #[] 5)).drew w.heap.size (fun _ => True) (.slice (some ⟨w12.heap.size, 0, none⟩) 0 0) []) := ⟨by exact Kd.R_drew (empty_row w12 w.heap.size hB12.size)⟩
  have HEB : Aside0 (Kd.R (Kd.int .u8) 5 ((w12.alloc (.cells #[] 5)).alloc (.cells #[.int .u8 7] 5)).drew w.heap.size (fun _ => True) (.slice (some ⟨w12.heap.size, 0, none⟩) 0 0) []) := ⟨by exact Kd.R_drew (Kd.R_alloc (empty_row w12 w.heap.size hB12.size) _)⟩
  have HEC : Aside0 (Kd.R (Kd.int .u8) 5 ((w12.alloc (.cells #[.int .u8 7] 5)).alloc (.cells #[] 5)).drew w.heap.size (fun _ => True) (.slice (some ⟨w12.heap.size + 1, 0, none⟩) 0 0) []) := ⟨by
    have h := Kd.R_drew (empty_row (w12.alloc (.cells #[.int .u8 7] 5)) w.heap.size (below_alloc hB12 _).size)
    have e : (w12.alloc (.cells #[.int .u8 7] 5)).heap.size = w12.heap.size + 1 := by simp
    rw [e] at h
    exact h⟩
  have HTA := Aside0.mk ((HT4.out.step (below_alloc (Below.refl _ _) (.cells #[] 5))).step (below_drew (Below.refl _ _)))
  have HTB := Aside0.mk (((HT4.out.step (below_alloc (Below.refl _ _) (.cells #[] 5))).step (below_alloc (Below.refl _ _) (.cells #[.int .u8 7] 5))).step (below_drew (Below.refl _ _)))
  have HTC := Aside0.mk (((HT4.out.step (below_alloc (Below.refl _ _) (.cells #[.int .u8 7] 5))).step (below_alloc (Below.refl _ _) (.cells #[] 5))).step (below_drew (Below.refl _ _)))
  have HL7 : Aside0 ((q ++ [7]).length = q.length + 1) := ⟨by simp⟩
  have HL7B : Aside0 (Kd.R (Kd.int .u8) 5 ((w12.alloc (.cells #[] 5)).alloc (.cells #[.int .u8 7] 5)).drew w12.heap.size (fun _ => True) (.slice (some ⟨w12.heap.size + 1, 0, none⟩) 1 1) [7]) := ⟨by
    have h := Kd.R_drew (lit_R (w12.alloc (.cells #[] 5)) w12.heap.size [7] (by simp) (by simp))
    have e : (w12.alloc (.cells #[] 5)).heap.size = w12.heap.size + 1 := by simp
    rw [e] at h
    exact h⟩
  have HL7C : Aside0 (Kd.R (Kd.int .u8) 5 ((w12.alloc (.cells #[.int .u8 7] 5)).alloc (.cells #[] 5)).drew w12.heap.size (fun _ => True) (.slice (some ⟨w12.heap.size, 0, none⟩) 1 1) [7]) := ⟨Kd.R_drew (Kd.R_alloc (lit_R w12 w12.heap.size [7] (Nat.le_refl _) (by simp)) _)⟩
  have hq7b : ∀ x ∈ q ++ [7], 0 ≤ x ∧ x ≤ 255 := by
    intro x hx
    rcases List.mem_append.1 hx with h | h
    · exact hqb x h
    · simp at h; omega
  have HE3 : Aside0 (openS (q ++ [7]) ⟨a, q.length, p.length, ns⟩ = ([], 110)) := ⟨open_len (by rw [HL7.out]; simp only []; omega)⟩
  clear hB12
  go_upto_region 14 with (fail)
  go_cut [20, 21] (fun v20 v21 wc => v21 = .int .i64 110 ∧ Aside0 (TI w gx gp q.length kp ⟨a, q.length, p.length, ns⟩ wc q))
  case first =>
    go_region_held3 (fun w' => w'.cell? ⟨gx, 0, none⟩ = some (.int .i64 a) ∧ w'.cell? ⟨gx, 1, none⟩ = some (.int .i64 q.length) ∧ w'.cell? ⟨gx, 2, none⟩ = some (.int .i64 p.length) ∧ w'.cell? ⟨gx, 3, none⟩ = some (.int .i64 ns)) (go_keep)
      (first
        | (refine Kd.R_append_rows_step (Kd.int .u8) (w0 := w) w.heap.size rfl (.tmp 153) (.tmp 154) 22 5 (.int .u8 0) 1 rfl Try.underlying22 info5 rfl (by decide) (by omega) (.slice (some ⟨w12.heap.size, 0, none⟩) 0 0) [] q (some ⟨gp, 0, none⟩) q.length kp (fun _ => True) (fun _ => False) rfl rfl HEA.out (Kd.R_reads' HTA.out.rp).2.2 (fun _ _ h => h) (fun _ hk => hk.elim) (fun _ _ => trivial) HTA.out.bel HTA.out.bel.size (by simp; omega) ?_; intro v13 w13 ho13 hb13 hg13 hat13; have hR13 : Kd.R (Kd.int .u8) 5 w13 w.heap.size (fun _ => True) v13 q := ho13; have hT13 := HTA.out.grown hg13 hb13 (by simp [Value.ownBlock]; omega) (by simp [Value.ownBlock]; omega); obtain ⟨r0, r1, r2, r3⟩ := hT13.cells; simp only [] at r0 r1 r2 r3; obtain ⟨A13, k13, rfl⟩ := Kd.R_slice hR13)
        | (refine Kd.R_append_rows_step (Kd.int .u8) (w0 := w) w.heap.size rfl (.tmp 153) (.tmp 154) 22 5 (.int .u8 0) 1 rfl Try.underlying22 info5 rfl (by decide) (by omega) (.slice (some ⟨w12.heap.size, 0, none⟩) 0 0) [] q (some ⟨gp, 0, none⟩) q.length kp (fun _ => True) (fun _ => False) rfl rfl HEB.out (Kd.R_reads' HTB.out.rp).2.2 (fun _ _ h => h) (fun _ hk => hk.elim) (fun _ _ => trivial) HTB.out.bel HTB.out.bel.size (by simp; omega) ?_; intro v13 w13 ho13 hb13 hg13 hat13; have hR13 : Kd.R (Kd.int .u8) 5 w13 w.heap.size (fun _ => True) v13 q := ho13; have hT13 := HTB.out.grown hg13 hb13 (by simp [Value.ownBlock]; omega) (by simp [Value.ownBlock]; omega); obtain ⟨r0, r1, r2, r3⟩ := hT13.cells; simp only [] at r0 r1 r2 r3; obtain ⟨A13, k13, rfl⟩ := Kd.R_slice hR13)
        | (refine Kd.R_append_rows_step (Kd.int .u8) (w0 := w) w.heap.size rfl (.tmp 153) (.tmp 154) 22 5 (.int .u8 0) 1 rfl Try.underlying22 info5 rfl (by decide) (by omega) (.slice (some ⟨w12.heap.size + 1, 0, none⟩) 0 0) [] q (some ⟨gp, 0, none⟩) q.length kp (fun _ => True) (fun _ => False) rfl rfl HEC.out (Kd.R_reads' HTC.out.rp).2.2 (fun _ _ h => h) (fun _ hk => hk.elim) (fun _ _ => trivial) HTC.out.bel HTC.out.bel.size (by simp; omega) ?_; intro v13 w13 ho13 hb13 hg13 hat13; have hR13 : Kd.R (Kd.int .u8) 5 w13 w.heap.size (fun _ => True) v13 q := ho13; have hT13 := HTC.out.grown hg13 hb13 (by simp [Value.ownBlock]; omega) (by simp [Value.ownBlock]; omega); obtain ⟨r0, r1, r2, r3⟩ := hT13.cells; simp only [] at r0 r1 r2 r3; obtain ⟨A13, k13, rfl⟩ := Kd.R_slice hR13)
        | (refine Kd.R_append_rows_step (Kd.int .u8) (w0 := w) w.heap.size rfl (.tmp 155) (.tmp 156) 22 5 (.int .u8 0) 1 rfl Try.underlying22 info5 rfl (by decide) (by omega) (.slice A13 q.length k13) q [7] (some ⟨w13.heap.size, 0, none⟩) 1 1 (fun _ => True) (fun _ => False) rfl rfl (Kd.R_alloc hR13 _) (own_lit_R w13 0 [7] (Nat.zero_le _) (by simp)) (fun _ _ h => h) (fun _ hk => hk.elim) (fun _ _ => trivial) (hT13.step (below_alloc (Below.refl _ _) _)).bel (hT13.step (below_alloc (Below.refl _ _) _)).bel.size (by omega) ?_; intro v14 w14 ho14 hb14 hg14 hat14; have hT14 := (hT13.step (below_alloc (Below.refl _ _) _)).grown hg14 hb14 (far_of_at hat13 (by simp [Value.ownBlock]; omega) (by simp; omega)) (far_of_at hat13 (by simp [Value.ownBlock]; omega) (by simp; omega)); obtain ⟨r0, r1, r2, r3⟩ := hT14.cells; simp only [] at r0 r1 r2 r3; obtain ⟨A14, k14, e14⟩ := Kd.R_slice ho14; rw [HL7.out] at e14; subst e14)
        | (refine Kd.R_append_rows_step (Kd.int .u8) (w0 := w) w.heap.size rfl (.tmp 155) (.tmp 156) 22 5 (.int .u8 0) 1 rfl Try.underlying22 info5 rfl (by decide) (by omega) (.slice A13 q.length k13) q [7] (some ⟨w12.heap.size + 1, 0, none⟩) 1 1 (fun _ => True) (fun _ => False) rfl rfl hR13 (Kd.R_reads' (R_kept HL7B.out hg13 (.inr (by simp [Value.ownBlock])))).2.2 (fun _ _ h => h) (fun _ hk => hk.elim) (fun _ _ => trivial) hT13.bel hT13.bel.size (by omega) ?_; intro v14 w14 ho14 hb14 hg14 hat14; have hT14 := hT13.grown hg14 hb14 (far_of_at hat13 (by simp [Value.ownBlock]; omega) (by simp; omega)) (far_of_at hat13 (by simp [Value.ownBlock]; omega) (by simp; omega)); obtain ⟨r0, r1, r2, r3⟩ := hT14.cells; simp only [] at r0 r1 r2 r3; obtain ⟨A14, k14, e14⟩ := Kd.R_slice ho14; rw [HL7.out] at e14; subst e14)
        | (refine Kd.R_append_rows_step (Kd.int .u8) (w0 := w) w.heap.size rfl (.tmp 155) (.tmp 156) 22 5 (.int .u8 0) 1 rfl Try.underlying22 info5 rfl (by decide) (by omega) (.slice A13 q.length k13) q [7] (some ⟨w12.heap.size, 0, none⟩) 1 1 (fun _ => True) (fun _ => False) rfl rfl hR13 (Kd.R_reads' (R_kept HL7C.out hg13 (.inr (by simp [Value.ownBlock])))).2.2 (fun _ _ h => h) (fun _ hk => hk.elim) (fun _ _ => trivial) hT13.bel hT13.bel.size (by omega) ?_; intro v14 w14 ho14 hb14 hg14 hat14; have hT14 := hT13.grown hg14 hb14 (far_of_at hat13 (by simp [Value.ownBlock]; omega) (by simp; omega)) (far_of_at hat13 (by simp [Value.ownBlock]; omega) (by simp; omega)); obtain ⟨r0, r1, r2, r3⟩ := hT14.cells; simp only [] at r0 r1 r2 r3; obtain ⟨A14, k14, e14⟩ := Kd.R_slice ho14; rw [HL7.out] at e14; subst e14)
        | (go_simp; go_at_call 39; refine (bopen_to A14 k14 (q ++ [7]) (q.length + 1) _ _ _ _ _ _ HL7.out HE3.out (Kd.R_reads' ho14).2.2 hq7b (by rw [HL7.out]; omega)).mono ?_; rintro e w15 ⟨v15, rfl, hR15, hB15⟩; have hT15 := hT14.step hB15; obtain ⟨r0, r1, r2, r3⟩ := hT15.cells; simp only [] at r0 r1 r2 r3; obtain ⟨A15, k15, rfl⟩ := Kd.R_slice hR15))
    all_goals go_wp2
    all_goals (go_meet; case rel => exact ⟨rfl, ⟨hT15⟩⟩)
  case rest =>
    obtain ⟨rfl, HT5⟩ := hcut
    clear HT4 s0 s1 s2 s3 HEA HEB HEC HTA HTB HTC HL7B HL7C hq7b HE3 HL7 hgp3 hgx4
    obtain ⟨x0, x1, x2, x3⟩ := HT5.out.cells
    simp only [] at x0 x1 x2 x3
    obtain ⟨nx, hnx⟩ : ∃ nx, ns ^^^ 1 = nx := ⟨_, rfl⟩
    have hnx1 : nx ≠ ns := by rw [← hnx]; exact xor_ne (by omega)
    have hnx2 : nx ≤ 4294967295 := by have := Nat.xor_lt_two_pow (n := 32) (show ns < 2 ^ 32 by omega) (show 1 < 2 ^ 32 by omega); omega
    have b3 : bits .xor .i64 (ns : Int) 1 = (nx : Int) := by rw [← hnx]; exact i64_xor_nat ns 1 (by omega) (by omega)
    have HE4 : Aside0 (openS q ⟨a, q.length, p.length, nx⟩ = ([], 110)) := ⟨open_sum (by rw [HNS.out]; simp only []; omega)⟩
    have HT6 := Aside0.mk (HT5.out.step (below_alloc (Below.refl _ _) (.cells #[.int .i64 a, .int .i64 q.length, .int .i64 p.length, .int .i64 nx] 58)))
    have z0 := cell_alloc x0 (.cells #[.int .i64 a, .int .i64 q.length, .int .i64 p.length, .int .i64 ns] 58)
    have z1 := cell_alloc x1 (.cells #[.int .i64 a, .int .i64 q.length, .int .i64 p.length, .int .i64 ns] 58)
    have z2 := cell_alloc x2 (.cells #[.int .i64 a, .int .i64 q.length, .int .i64 p.length, .int .i64 ns] 58)
    have z3 := cell_alloc x3 (.cells #[.int .i64 a, .int .i64 q.length, .int .i64 p.length, .int .i64 ns] 58)
    have hgxw := blk_lt HT5.out.cx
    clear hnx hnx1
    go_upto_region 18 with (go_at_call 39; refine (bopen_to (some ⟨gp, 0, none⟩) kp q q.length _ _ _ _ _ _ rfl HE4.out (Kd.R_reads' HT6.out.rp).2.2 hqb (by omega)).mono ?_; rintro e w16 ⟨v16, rfl, hR16, hB16⟩; obtain ⟨A16, k16, rfl⟩ := Kd.R_slice hR16; have HT7 := Aside0.mk (HT6.out.step hB16); have hy := blk_below (heap_alloc_new wc (.cells #[.int .i64 a, .int .i64 q.length, .int .i64 p.length, .int .i64 nx] 58)) hB16)
    obtain ⟨gy, hgy⟩ : ∃ gy, wc.heap.size = gy := ⟨_, rfl⟩
    rw [hgy] at hy hgxw ⊢
    have y0 := blk_cell hy 0
    have y1 := blk_cell hy 1
    have y2 := blk_cell hy 2
    have y3 := blk_cell hy 3
    have u0 := blk_frozen hy 0
    have u1 := blk_frozen hy 1
    have u2 := blk_frozen hy 2
    have u3 := blk_frozen hy 3
    clear x0 x1 x2 x3 z0 z1 z2 z3
    obtain ⟨x0, x1, x2, x3⟩ := HT7.out.cells
    simp only [] at x0 x1 x2 x3
    have hgpw : gp < gy := by rw [← hgy]; exact Kd.R_lt HT5.out.rp gp rfl
    have HT8 : Aside0 (TI w gx gp q.length kp ⟨a, q.length, p.length, ns⟩ (((((w16.setCell ⟨gy, 0, none⟩ (.int .i64 a)).setCell ⟨gy, 1, none⟩ (.int .i64 q.length)).setCell ⟨gy, 2, none⟩ (.int .i64 p.length)).setCell ⟨gy, 3, none⟩ (.int .i64 ns)).setCell ⟨gy, 0, none⟩ (.int .i64 ((a : Int) + 5))) q) := by
      have h1 : gx ≠ gy := by omega
      have h2 : gp ≠ gy := by omega
      have h3 : w.heap.size ≤ gy := by omega
      exact ⟨((((HT7.out.setFar h1 h2 h3 _ _).setFar h1 h2 h3 _ _).setFar h1 h2 h3 _ _).setFar h1 h2 h3 _ _).setFar h1 h2 h3 _ _⟩
    have HO5 : Aside0 (openS q ⟨(a : Int) + 5, q.length, p.length, ns⟩ = (p, 0)) := ⟨by rw [open_at q _ (a : Int)]; exact HO.out⟩
    go_wp2_with (first
      | (go_at_call 39; (with_reducible refine (bopen_to (some ⟨gp, 0, none⟩) kp q q.length ((a : Int) + 5) _ _ _ _ _ rfl HO5.out (Kd.R_reads' HT8.out.rp).2.2 hqb (by omega)).mono ?_); rintro e w17 ⟨v17, rfl, hR17, hB17⟩; have HT9 := Aside0.mk (HT8.out.step hB17); obtain ⟨A17, k17, rfl⟩ := Kd.R_slice hR17; have HR17 := Aside0.mk hR17; clear hR17 hB17; obtain ⟨x0, x1, x2, x3⟩ := HT9.out.cells; simp only [] at x0 x1 x2 x3)
      | (go_at_call 39; refine (bopen_to (some ⟨gp, 0, none⟩) kp q q.length _ _ _ _ _ _ rfl HO.out (Kd.R_reads' HT9.out.rp).2.2 hqb (by omega)).mono ?_; rintro e w18 ⟨v18, rfl, hR18, hB18⟩; have HTA := Aside0.mk (HT9.out.step hB18); obtain ⟨A18, k18, rfl⟩ := Kd.R_slice hR18; have HR18 := Aside0.mk (⟨hR18, Kd.R_below HR17.out hB18⟩ : _ ∧ _); clear hR18 hB18; obtain ⟨x0, x1, x2, x3⟩ := HTA.out.cells; simp only [] at x0 x1 x2 x3)
      | (go_at_call 35; refine (bytes_true _ _ _ _ p _ (Kd.R_reads' HR18.out.2).2.2 (Kd.R_reads' HR18.out.1).2.2 (by omega)).mono ?_; rintro e w19 ⟨rfl, ⟨nd, rfl⟩⟩)
      | (go_at_call 37; refine (known_any _).mono ?_; rintro e w20 ⟨rfl, hB20⟩))
    go_ret
    exact ⟨rfl, below_step (pw_below_drewN HTA.out.bel _) hB20⟩

set_option maxRecDepth 100000 in
set_option maxHeartbeats 1000000 in
theorem blockTurned_walk (A0 : Option Addr) (c0 : Nat) (l0 : List Int) (size wh at_ yb : Int) (w : World) (hr0 : Kd.C (Kd.int .u8) w A0 l0.length l0) (hby : ∀ x ∈ l0, 0 ≤ x ∧ x ≤ 255) (hc0 : l0.length ≤ c0) (_hl : l0.length ≤ 140737488351232)
    (_h1 : -9223372036854775808 ≤ size ∧ size ≤ 9223372036854775807) (h2 : -9223372036854775808 ≤ wh ∧ wh ≤ 9223372036854775807) (h3 : -9223372036854775808 ≤ at_ ∧ at_ ≤ 9223372036854775807) (_h4 : -9223372036854775808 ≤ yb ∧ yb ≤ 9223372036854775807) :
    Calls Try.prog 16 #[.slice A0 l0.length c0, .int .i64 size, .int .i64 wh, .int .i64 at_, .int .i64 yb] w fun e w' => e = .returned (.bool true) ∧ Below w.heap.size w w' := by
  by_cases hf : l0.length ≤ 65536 ∧ 16 ≤ size ∧ size ≤ 4096
  · by_cases f1 : l0.length = 0
    · have k1 : ((l0.length : Int) == 0) = true := by simpa using f1
      have k1b : (l0.length == 0) = true := by simpa using f1
      clear f1
      go_enter Try.func16, Try.ntmps16
      go_wp2_with (go_at_call 44; refine (fits_true _ _ _ _ _ hf.1 hf.2.1 hf.2.2).mono ?_; rintro e w1 ⟨rfl, rfl⟩)
      go_ret
      exact ⟨rfl, Below.refl _ _⟩
    have k1 : ((l0.length : Int) == 0) = false := by rw [beq_eq_false_iff_ne]; omega
    have k1b : (l0.length == 0) = false := by rw [beq_eq_false_iff_ne]; omega
    by_cases f2 : yb < 1
    · have k2 : decide (yb < 1) = true := by simpa using f2
      go_enter Try.func16, Try.ntmps16
      go_wp2_with (go_at_call 44; refine (fits_true _ _ _ _ _ hf.1 hf.2.1 hf.2.2).mono ?_; rintro e w1 ⟨rfl, rfl⟩)
      go_ret
      exact ⟨rfl, Below.refl _ _⟩
    have k2 : decide (yb < 1) = false := by simp; omega
    by_cases f3 : yb > 255
    · have k3 : decide ((255 : Int) < yb) = true := by simpa using f3
      go_enter Try.func16, Try.ntmps16
      go_wp2_with (go_at_call 44; refine (fits_true _ _ _ _ _ hf.1 hf.2.1 hf.2.2).mono ?_; rintro e w1 ⟨rfl, rfl⟩)
      go_ret
      exact ⟨rfl, Below.refl _ _⟩
    have k3 : decide ((255 : Int) < yb) = false := by simp; omega
    by_cases f4 : wh < 0
    · have k4 : decide (wh < 0) = true := by simpa using f4
      go_enter Try.func16, Try.ntmps16
      go_wp2_with (go_at_call 44; refine (fits_true _ _ _ _ _ hf.1 hf.2.1 hf.2.2).mono ?_; rintro e w1 ⟨rfl, rfl⟩)
      go_ret
      exact ⟨rfl, Below.refl _ _⟩
    have k4 : decide (wh < 0) = false := by simp; omega
    by_cases f5 : at_ < 0
    · have k5 : decide (at_ < 0) = true := by simpa using f5
      go_enter Try.func16, Try.ntmps16
      go_wp2_with (go_at_call 44; refine (fits_true _ _ _ _ _ hf.1 hf.2.1 hf.2.2).mono ?_; rintro e w1 ⟨rfl, rfl⟩)
      go_ret
      exact ⟨rfl, Below.refl _ _⟩
    obtain ⟨n, rfl⟩ := Int.eq_ofNat_of_zero_le (a := size) (by omega)
    obtain ⟨wn, rfl⟩ := Int.eq_ofNat_of_zero_le (a := wh) (by omega)
    obtain ⟨an, rfl⟩ := Int.eq_ofNat_of_zero_le (a := at_) (by omega)
    obtain ⟨yn, rfl⟩ := Int.eq_ofNat_of_zero_le (a := yb) (by omega)
    exact turned_walk A0 c0 l0 n wn an yn w hr0 hby hc0 hf.1 (by omega) (by omega) (by omega) (by omega) (by omega) (by omega) (by omega)
  · have HF := Aside0.mk hf
    clear hf hr0
    go_enter Try.func16, Try.ntmps16
    go_wp2_with (go_at_call 44; refine (fits_false _ _ _ _ _ HF.out).mono ?_; rintro e w1 ⟨rfl, rfl⟩)
    go_ret
    exact ⟨rfl, Below.refl _ _⟩
end Go.Proofs.Ytoefligelajfkaa.Block
