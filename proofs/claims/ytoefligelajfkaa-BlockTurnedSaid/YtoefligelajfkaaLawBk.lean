import Derived.Test.YtoefligelajfkaaBytes
import Derived.Deep.RegionHeld3
import Derived.Deep.DrawnRows
import Derived.IntWalk
namespace Go.Proofs.Ytoefligelajfkaa.Block
open Go.RowKit Go.Proofs.YtoefligelajfkaaW.PrintWords Go.Proofs.YtoefligelajfkaaW.PrintLast Go.Proofs.YtoefligelajfkaaW.PrintMore Go.Proofs.Ytoefligelajfkaa.Press
open Go.Proofs.Ytoefligelajfkaa.PBlockOpens (S58 k58 z58 k58_open k58_mk k58_mkM k58_openM rd_T58 at_T58)

/-- The cells of one block in a row of blocks. -/
structure CellsB (w : World) (g o : Nat) (b : S58) : Prop where
  c0 : w.cell? ⟨g, o, none⟩ = some (.int .i64 b.f0)
  c1 : w.cell? ⟨g, o + 1, none⟩ = some (.int .i64 b.f1)
  c2 : w.cell? ⟨g, o + 2, none⟩ = some (.int .i64 b.f2)
  c3 : w.cell? ⟨g, o + 3, none⟩ = some (.int .i64 b.f3)
theorem cellsB {w : World} {g n : Nat} {bl : List S58} (h : k58.C w (some ⟨g, 0, none⟩) n bl) (i : Nat) (hi : i < n) : CellsB w g (i * 4) (rd_T58 bl (i : Int)) := by
  obtain ⟨ad, e, a0, a1, a2, a3⟩ := at_T58 h (i : Int) (by omega) (by omega)
  cases e
  rw [Int.toNat_natCast, add_plain] at a0 a1 a2 a3
  exact ⟨a0, a1, a2, a3⟩

theorem cellsB' {w : World} {g n k e base : Nat} {bl : List S58} {b : S58} (h : k58.R e w base (fun _ => True) (.slice (some ⟨g, 0, none⟩) n k) bl) {i : Nat} (hb : rd_T58 bl (i : Int) = b) (hi : i < n) : CellsB w g (i * 4) b := by
  have h' := Kd.R_reads' h
  rw [← hb]
  exact cellsB h'.2.2 i (by rw [← h'.1]; exact hi)

/-- What a slice of bytes reads. -/
theorem C_range {w : World} {g n k a m : Nat} {l q : List Int} (h : Kd.C (Kd.int .u8) w (some ⟨g, 0, none⟩) n l) (hn : n ≤ k) (hm : 0 < m) (ha : a + m ≤ n) (hq : (l.take (a + m)).drop a = q) : Kd.C (Kd.int .u8) w (some ⟨g, a, none⟩) m q := by
  have hl := Kd.C_len h
  subst hl
  have h' := Kd.C_mid (lo := a) (hi := a + m) (c := k) h (by omega) ha hn
  rw [if_neg (by omega), hq] at h'
  have e : q.length = m := by rw [← hq]; simp; omega
  rw [e] at h'
  have e2 : (Option.map (fun x => x.add (a * (Kd.int IntKind.u8).sz)) (some (⟨g, 0, none⟩ : Addr))) = some ⟨g, a, none⟩ := by
    rw [show (Kd.int IntKind.u8).sz = 1 from rfl, Nat.mul_one, Option.map_some, add_plain]
  rw [e2] at h'
  exact h'

theorem rest_cons {α : Type} {l : List α} {k : Nat} (h : l.length = k + 1) : ∃ p t, l = p :: t := by
  cases l with
  | nil => simp at h
  | cons p t => exact ⟨p, t, rfl⟩

attribute [local go_sem ↓] Go.wp_at_zero Go.wp_at_succ
set_option maxRecDepth 100000 in
set_option maxHeartbeats 4000000 in
theorem back_loop (A0 : Option Addr) (c0 : Nat) (l0 : List Int) (n : Nat) (w : World) (hr0 : Kd.C (Kd.int .u8) w A0 l0.length l0) (hby : ∀ x ∈ l0, 0 ≤ x ∧ x ≤ 255) (hc0 : l0.length ≤ c0) (hl : l0.length ≤ 65536) (hs1 : 16 ≤ n) (hs2 : n ≤ 4096) :
    Calls Try.prog 15 #[.slice A0 l0.length c0, .int .i64 n] w fun e w' => e = .returned (.bool true) ∧ Below w.heap.size w w' := by
  have HR0 := Aside0.mk hr0
  clear hr0
  obtain ⟨cs, hcs⟩ : ∃ cs, chunksR l0 n l0.length 0 = cs := ⟨_, rfl⟩
  obtain ⟨out, hout⟩ : ∃ out, catS cs = out := ⟨_, rfl⟩
  obtain ⟨blk, hblk⟩ : ∃ blk, blocksR 0 cs = blk := ⟨_, rfl⟩
  have F1 : Aside0 (bpackS l0 n = (out, blk, 0)) := ⟨by rw [bpack_fits l0 n hs1 hs2 hl, hcs, hout, hblk]⟩
  have F2 : Aside0 (validS blk l0.length n = true) := ⟨by rw [← hblk, ← hcs]; exact back_valid l0 n hs1 hs2 hl hby⟩
  have F3 : Aside0 (validS blk ((l0.length : Int) + n) n = false) := ⟨by rw [← hblk, ← hcs]; exact back_invalid l0 n hs1 hs2 hl⟩
  have hol : out.length ≤ l0.length := by rw [← hout, ← hcs]; exact back_len l0 n hs1
  have F5 : Aside0 (cs.flatten = l0) := ⟨by rw [← hcs]; have := chunks_flat l0 n (by omega) l0.length 0 (by omega); rwa [List.drop_zero] at this⟩
  have F6 : Aside0 (∀ p ∈ cs, 1 ≤ p.length ∧ p.length ≤ 4096 ∧ ∀ x ∈ p, 0 ≤ x ∧ x ≤ 255) := ⟨fun p hp => by
    rw [← hcs] at hp
    have := chunks_mem l0 n (by omega) _ _ p hp
    exact ⟨this.1, by omega, fun x hx => hby x (this.2.2 x hx)⟩⟩
  have F7 : Aside0 (catS cs = out ∧ blocksR 0 cs = blk) := ⟨hout, hblk⟩
  have hcl : blk.length = cs.length := by rw [← hblk, blocks_len]
  have hbl : blk.length ≤ 70000 := by
    rw [hcl, ← hcs, chunks_len l0 n (by omega) _ _ (by omega) (by omega)]
    exact Nat.le_trans (Nat.div_le_self _ _) (by omega)
  have HCL := Aside0.mk hcl
  have hgt : decide ((l0.length : Int) < (out.length : Int)) = false := by simp; omega
  have hgt2 : decide (l0.length < out.length) = false := by simp; omega
  clear hcs hout hblk hcl
  go_enter Try.func15, Try.ntmps15
  go_wp2_with (first
    | (go_at_call 44; refine (fits_true _ _ _ _ _ hl (by omega) (by omega)).mono ?_; rintro e w1 ⟨rfl, rfl⟩)
    | (go_at_call 31; refine (bpack_any _ _ l0 (n : Int) _ HR0.out hby hc0 (by omega)).mono ?_; rw [F1.out]; rintro e w2 ⟨vo, vb, rfl, hRo, hRb, hB2⟩; obtain ⟨Ao, ko, rfl⟩ := Kd.R_slice hRo; obtain ⟨Ab, kb, rfl⟩ := Kd.R_slice hRb; have H2 := Aside0.mk (⟨hRo, hRb, hB2⟩ : _ ∧ _ ∧ _); clear hRo hRb hB2)
    | (go_at_call 40; (with_reducible refine (valid_any Ab kb blk (l0.length : Int) (n : Int) _ (Kd.R_reads' H2.out.2.1).2.2 (by omega)).mono ?_); rw [F2.out]; rintro e w3 ⟨rfl, hB3⟩)
    | (go_at_call 40; (with_reducible refine (valid_any Ab kb blk ((l0.length : Int) + (n : Int)) (n : Int) _ (Kd.C_below (Kd.R_reads' H2.out.2.1).2.2 hB3) (by omega)).mono ?_); rw [F3.out]; rintro e w4 ⟨rfl, hB4⟩))
  have HW : Aside0 (Kd.R (Kd.int .u8) 5 w4 w.heap.size (fun _ => True) (.slice Ao out.length ko) out ∧ k58.R 58 w4 w.heap.size (fun _ => True) (.slice Ab blk.length kb) blk ∧ Below w.heap.size w w4) :=
    ⟨Kd.R_below (Kd.R_below H2.out.1 hB3) hB4, Kd.R_below (Kd.R_below H2.out.2.1 hB3) hB4, below_step (below_step H2.out.2.2 hB3) hB4⟩
  clear H2 hB3 hB4 F1 F2 F3 hgt hgt2
  go_loopg [8, 9, 10] cs.length (fun k v8 v9 v10 w' => ∃ (done rest : List (List Int)) (fl : List Int) (Aa : Option Addr) (ka : Nat), v8 = .slice Aa fl.length ka ∧ v9 = .int .i64 ((catS done).length : Nat) ∧ v10 = .int .i64 (done.length : Nat) ∧ Aside0 (cs = done ++ rest ∧ done.flatten = fl) ∧ rest.length = k ∧
    Aside0 (Kd.R (Kd.int .u8) 5 w' w4.heap.size (fun _ => True) (.slice Aa fl.length ka) fl ∧ Below w4.heap.size w4 w'))
  case atStart => exact ⟨[], cs, [], none, 0, rfl, rfl, rfl, ⟨rfl, rfl⟩, rfl, ⟨Kd.R_nil _ _ _ _ _, Below.refl _ _⟩⟩
  case round =>
    obtain ⟨done, rest, fl, Aa, ka, rfl, rfl, rfl, HD, hk, HI⟩ := hrel
    cases gk with
    | zero =>
      have he : rest = [] := List.length_eq_zero_iff.1 hk
      subst he
      have hd : done = cs := by rw [HD.out.1, List.append_nil]
      subst hd
      have hfl : fl = l0 := by rw [← HD.out.2, F5.out]
      subst hfl
      have HA := HI.out.1
      have e1 : (catS done).length = out.length := by rw [F7.out.1]
      have e2 : done.length = blk.length := HCL.out.symm
      rw [e1, e2]
      have HAA := Aside0.mk HA
      clear HA e1 e2 hk
      go_wp2_with (first
        | (go_at_call 35; refine (bytes_true _ _ _ _ fl _ (Kd.R_reads' HAA.out).2.2 (Kd.C_below (Kd.C_below HR0.out HW.out.2.2) HI.out.2) (by omega)).mono ?_; rintro e w5 ⟨rfl, ⟨nd5, rfl⟩⟩)
        | (go_at_call 37; refine (known_any _).mono ?_; rintro e w6 ⟨rfl, hB6⟩))
      go_ret
      exact ⟨rfl, below_step (pw_below_drewN (below_step HW.out.2.2 HI.out.2) _) hB6⟩
    | succ k =>
      obtain ⟨p, t, rfl⟩ := rest_cons hk
      have hpm := F6.out p (by rw [HD.out.1]; simp)
      have hkt : t.length = k := by simpa using hk
      have hdl : done.length < blk.length := by rw [HCL.out, HD.out.1]; simp
      obtain ⟨q, hq⟩ : ∃ q, pieceS p = q := ⟨_, rfl⟩
      have hb : rd_T58 blk (done.length : Int) = blockS (catS done).length p := by rw [← F7.out.2, HD.out.1]; exact blocks_get done p t
      have hmid : (out.take ((catS done).length + q.length)).drop (catS done).length = q := by rw [← F7.out.1, HD.out.1, ← hq]; exact cat_mid done p t
      have hopen := open_piece (catS done).length hpm.1 hpm.2.1
      have hat : (catS done).length + q.length ≤ out.length := by
        rw [← F7.out.1, HD.out.1, cat_append, catS, List.length_append, List.length_append, hq]; omega
      have hq1 : 1 ≤ q.length := by rw [← hq]; exact pieceS_pos hpm.1 hpm.2.1
      have hq2 : q.length ≤ 4096 := by rw [← hq]; exact Nat.le_trans (pieceS_length p) hpm.2.1
      have hqb : ∀ x ∈ q, 0 ≤ x ∧ x ≤ 255 := by rw [← hq]; exact piece_bytes hpm.2.2
      obtain ⟨a, ha⟩ : ∃ a, (catS done).length = a := ⟨_, rfl⟩
      obtain ⟨d, hd⟩ : ∃ d, done.length = d := ⟨_, rfl⟩
      obtain ⟨ns, hns⟩ : ∃ ns, sumS q = ns := ⟨_, rfl⟩
      have hbs : blockS a p = ⟨a, q.length, p.length, ns⟩ := by rw [blockS, hq, hns]
      have hca : (catS (done ++ [p])).length = a + q.length := by rw [cat_append, catS, catS, List.append_nil, List.length_append, ha, hq]
      have hfl : (done ++ [p]).flatten = fl ++ p := by rw [← HD.out.2]; simp
      have hpl1 := hpm.1
      have hpl2 := hpm.2.1
      rw [ha] at hb hmid hopen hat ⊢
      rw [hd] at hb hdl ⊢
      rw [hbs] at hb
      rw [hbs, hq] at hopen
      have hRo := Kd.R_below HW.out.1 HI.out.2
      have hRb := Kd.R_below HW.out.2.1 HI.out.2
      obtain ⟨go, ko', eo, hgo1, hgo2, -⟩ := Kd.R_form hRo (by omega)
      obtain ⟨gb, kb', eb, hgb1, hgb2, -⟩ := Kd.R_form hRb (by omega)
      injection eo with eo1 _ eo2
      injection eb with eb1 _ eb2
      subst eo1 eo2 eb1 eb2
      have hko := (Kd.R_reads' hRo).2.1
      have hC := C_range (Kd.R_reads' hRo).2.2 hko hq1 hat hmid
      have hcb := cellsB (Kd.R_reads' hRb).2.2 d hdl
      rw [hb] at hcb
      obtain ⟨b0, b1, b2, b3⟩ := hcb
      simp only [] at b0 b1 b2 b3
      have HC := Aside0.mk hC
      have HO := Aside0.mk hopen
      have HNS := Aside0.mk hns
      have HX : Aside0 ((catS (done ++ [p])).length = a + q.length ∧ (done ++ [p]).length = d + 1 ∧ (done ++ [p]).flatten = fl ++ p ∧ cs = (done ++ [p]) ++ t) := ⟨hca, by rw [List.length_append, hd]; rfl, hfl, by rw [HD.out.1]; simp⟩
      have h1 : (0 : Int) ≤ (a : Int) := by omega
      have h2 : (a : Int) ≤ (a : Int) + (q.length : Int) := by omega
      have h3 : (a : Int) + (q.length : Int) ≤ (ko : Int) := by omega
      have h4 : (d : Int) < (blk.length : Int) := by omega
      have h5 : decide ((out.length : Int) < (a : Int) + (q.length : Int)) = false := by simp; omega
      have h6 : decide ((q.length : Int) < 1) = false := by simp; omega
      have h7 : (a : Int) + (q.length : Int) ≤ 70000 := by omega
      have h8 : IntKind.i64.wrap ((a : Int) + (q.length : Int)) = (a : Int) + (q.length : Int) := IntWalk.i64_in _ (by omega)
      have h9 : ((a : Int) + (q.length : Int)).toNat - a = q.length := by omega
      have h10 : ¬ ko = a := by omega
      have HBD := Aside0.mk hb
      have hfll : fl.length + p.length ≤ l0.length := by
        rw [← F5.out, HD.out.1, List.flatten_append, List.flatten_cons, List.length_append, List.length_append, HD.out.2]; omega
      clear hb hmid hopen hns hbs hca hfl hq ha hd hC hRo hRb hpm hk HCL
      go_wp2_with fail
      go_region_held3 (fun w' => w'.cell? ⟨gb, d * 4, none⟩ = some (.int .i64 a) ∧ w'.cell? ⟨gb, d * 4 + 1, none⟩ = some (.int .i64 q.length) ∧ w'.cell? ⟨gb, d * 4 + 3, none⟩ = some (.int .i64 ns)) (go_keep)
        (first | (go_at_call 45; refine (sum_any (some ⟨go, a, none⟩) (ko - a) q _ (Kd.C_drew HC.out) hqb (by omega)).mono ?_; rw [HNS.out]; rintro e w5 ⟨rfl, hB5⟩; have s0 := pw_cell_below hB5 b0; have s1 := pw_cell_below hB5 b1; have s2 := pw_cell_below hB5 b2; have s3 := pw_cell_below hB5 b3))
      go_wp2_with fail
      go_region_held3 (fun w' => w'.cell? ⟨gb, d * 4, none⟩ = some (.int .i64 a) ∧ w'.cell? ⟨gb, d * 4 + 1, none⟩ = some (.int .i64 q.length) ∧ w'.cell? ⟨gb, d * 4 + 2, none⟩ = some (.int .i64 p.length) ∧ w'.cell? ⟨gb, d * 4 + 3, none⟩ = some (.int .i64 ns)) (go_keep)
        (first | (go_at_call 39; refine (bopen_any (some ⟨go, a, none⟩) (ko - a) q a q.length p.length ns _ (Kd.C_drew (Kd.C_below (Kd.C_drew HC.out) hB5)) hqb (by omega)).mono ?_; rw [HO.out]; rintro e w6 ⟨v6, rfl, hR6, hB6⟩; obtain ⟨A6, k6, rfl⟩ := Kd.R_slice hR6; have t0 := pw_cell_below hB6 s0; have t1 := pw_cell_below hB6 s1; have t2 := pw_cell_below hB6 s2; have t3 := pw_cell_below hB6 s3))
      have HB6 : Aside0 (Below wr.heap.size wr w6) := ⟨below_step (below_step (below_drew (Below.refl _ _)) hB5 |> below_drew) hB6⟩
      have HR6 := Aside0.mk hR6
      have HY : Aside0 (Kd.R (Kd.int .u8) 5 w6 w4.heap.size (fun _ => True) (.slice Aa fl.length ka) fl ∧ k58.R 58 w6 w.heap.size (fun _ => True) (.slice (some ⟨gb, 0, none⟩) blk.length kb) blk ∧ Below w4.heap.size w4 w6) :=
        ⟨Kd.R_below HI.out.1 HB6.out, Kd.R_below (Kd.R_below HW.out.2.1 HI.out.2) HB6.out, below_step HI.out.2 HB6.out⟩
      clear b0 b1 b2 b3 s0 s1 s2 s3 hR6 hB6 hB5 HO HNS HC h5 h6
      go_wp2_with (at_builtin; refine Kd.R_append_rows (Kd.int .u8) (w0 := w4) w4.heap.size rfl (.tmp 122) (.tmp 123) 22 5 (.int .u8 0) 1 rfl Try.underlying22 info5 rfl (by decide) (by omega) (.slice Aa fl.length ka) fl p A6 p.length k6 (fun _ => True) (fun _ => False) rfl rfl HY.out.1 (Kd.R_reads' HR6.out).2.2 (fun _ _ h => h) (fun _ hk => hk.elim) (fun _ _ => trivial) HY.out.2.2 HY.out.2.2.size (by omega) ?_; intro v8 w8 ho8 hb8 hg8 hat8; obtain ⟨A8, k8, e8⟩ := Kd.R_slice ho8; subst e8; obtain ⟨r0, r1, r2, r3⟩ := cellsB' (Kd.R_over' (v := .slice Aa fl.length ka) (e' := 5) HY.out.2.1 (Kd.R_typed HY.out.1) (by decide) hg8) HBD.out hdl; have H8 := Aside0.mk (⟨ho8, hb8⟩ : _ ∧ _); clear ho8 hb8 hg8 hat8)
      go_roundg k
      case measure => omega
      case rel => exact ⟨done ++ [p], t, fl ++ p, A8, k8, by rw [List.length_append], by rw [HX.out.1]; go_num, by rw [HX.out.2.1]; go_num, ⟨HX.out.2.2.2, HX.out.2.2.1⟩, hkt, H8⟩

theorem blockBack_walk (A0 : Option Addr) (c0 : Nat) (l0 : List Int) (size : Int) (w : World) (hr0 : Kd.C (Kd.int .u8) w A0 l0.length l0) (hby : ∀ x ∈ l0, 0 ≤ x ∧ x ≤ 255) (hc0 : l0.length ≤ c0) (_hl : l0.length ≤ 140737488351232) (_h1 : -9223372036854775808 ≤ size ∧ size ≤ 9223372036854775807) :
    Calls Try.prog 15 #[.slice A0 l0.length c0, .int .i64 size] w fun e w' => e = .returned (.bool true) ∧ Below w.heap.size w w' := by
  by_cases hf : l0.length ≤ 65536 ∧ 16 ≤ size ∧ size ≤ 4096
  · obtain ⟨n, rfl⟩ := Int.eq_ofNat_of_zero_le (a := size) (by omega)
    exact back_loop A0 c0 l0 n w hr0 hby hc0 hf.1 (by omega) (by omega)
  · have HF := Aside0.mk hf
    clear hf hr0
    go_enter Try.func15, Try.ntmps15
    go_wp2_with (go_at_call 44; refine (fits_false _ _ _ _ _ HF.out).mono ?_; rintro e w1 ⟨rfl, rfl⟩)
    go_ret
    exact ⟨rfl, Below.refl _ _⟩
end Go.Proofs.Ytoefligelajfkaa.Block
