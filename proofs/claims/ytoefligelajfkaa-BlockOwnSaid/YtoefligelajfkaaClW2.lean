import Derived.Test.YtoefligelajfkaaClW1
import Derived.Carry
import Derived.Lib.SlBytesConst
import Derived.ArgAppend
import Derived.Deep.RegionLaw
import Derived.Deep.DrawnRows
import Derived.BigQuiet
import Derived.IntWalk
namespace Go.Proofs.Ytoefligelajfkaa.Press
open Go.RowKit Go.Proofs.YtoefligelajfkaaW.PrintWords Go.Proofs.YtoefligelajfkaaW.PrintLast Go.Proofs.YtoefligelajfkaaW.PrintMore

/-- What the map tells when all places ahead of 'at' have been put in. -/
noncomputable def GAt (l : List Int) (at_ : Nat) (v : Value) : List Int := open Classical in ((List.range at_).filter fun q => decide (q + 3 ≤ l.length) && decide (keyAt l q = v)).map fun q : Nat => (q : Int)

theorem keyAt_eq (l : List Int) (q p : Nat) : keyAt l q = keyAt l p ↔ gramEq l q p = true := by
  simp [keyAt, key3, gramEq, and_assoc]
theorem GAt_at (l : List Int) (at_ p : Nat) : GAt l at_ (keyAt l p) = places l at_ p := by
  unfold GAt places
  congr 1
  apply List.filter_congr
  intro q _
  congr 1
  rw [Bool.eq_iff_iff]
  simp [keyAt_eq]
theorem GAt_zero (l : List Int) : GAt l 0 = fun _ => [] := by
  funext v; simp [GAt]
theorem GAt_skip (l : List Int) (at_ : Nat) (h : ¬ at_ + 3 ≤ l.length) : GAt l (at_ + 1) = GAt l at_ := by
  funext v
  unfold GAt
  rw [List.range_succ, List.filter_append]
  simp [h]
theorem GAt_step (l : List Int) (at_ : Nat) (h : at_ + 3 ≤ l.length) : GAt l (at_ + 1) = upd (GAt l at_) (keyAt l at_) (GAt l at_ (keyAt l at_) ++ [(at_ : Int)]) := by
  funext v
  by_cases hv : v = keyAt l at_
  · subst hv
    rw [upd_same]
    unfold GAt
    rw [List.range_succ, List.filter_append]
    simp [h]
  · rw [upd_other _ _ hv]
    unfold GAt
    rw [List.range_succ, List.filter_append]
    have : ¬ keyAt l at_ = v := fun e => hv e.symm
    simp [this]

theorem info3 : (Try.prog.info? 3).map (fun i => (i.zero, i.size, i.bytes)) = some (some (.int .i64 0), 1, 8) := by kernel_rfl

structure PInv (w : World) (l0 : List Int) (rs : List Int) (wr : World) (k : Nat) (vo : Value) (out : List Int) (flag items at_ : Nat) : Prop where
  at_le : at_ ≤ l0.length
  fuel : l0.length ≤ at_ + k
  items_le : items ≤ at_
  olen : out.length ≤ 3 * items
  fl : items % 8 ≠ 0 → FlagOk out flag (items % 8)
  run : packR l0 k out flag items at_ = rs
  own : Kd.R (Kd.int .u8) 5 wr w.heap.size (fun _ => True) vo out
  grp : Grp Try.prog 81 wr w.heap.size w.heap.size (GAt l0 at_)
  bel : Below w.heap.size w wr

/-- Behind the flag's byte. -/
structure PMid (w : World) (l0 : List Int) (wr : World) (vo : Value) (out : List Int) (flag items at_ : Nat) : Prop where
  fl : FlagOk out flag (items % 8)
  olen : out.length ≤ 3 * items + 1
  own : Kd.R (Kd.int .u8) 5 wr w.heap.size (fun _ => True) vo out
  grp : Grp Try.prog 81 wr w.heap.size w.heap.size (GAt l0 at_)
  bel : Below w.heap.size w wr

/-- Behind an item. -/
structure PEnd (w : World) (l0 rs : List Int) (wr : World) (k : Nat) (vo : Value) (out : List Int) (flag items at_ n : Nat) : Prop where
  n_pos : 1 ≤ n
  n_le : at_ + n ≤ l0.length
  fl : FlagOk out flag (items % 8 + 1)
  olen : out.length ≤ 3 * (items + 1)
  run : packR l0 k out flag (items + 1) (at_ + n) = rs
  own : Kd.R (Kd.int .u8) 5 wr w.heap.size (fun _ => True) vo out
  grp : Grp Try.prog 81 wr w.heap.size w.heap.size (GAt l0 at_)
  bel : Below w.heap.size w wr

theorem reads_two (W : World) (base : Nat) (x y : Int) (hb : base ≤ W.heap.size) :
    ReadsRow ((Kd.int .u8).K (W.alloc (.cells #[.int .u8 x, .int .u8 y] 5))) 1 (W.alloc (.cells #[.int .u8 x, .int .u8 y] 5)) (some ⟨W.heap.size, 0, none⟩) 2 [x, y] :=
  Kd.C_of_reads (h1 := fun _ => rfl) (d := (0 : Int)) (readsInt_of.1 (own_reads' (own_lit W base 5 .u8 [x, y] hb (by simp))))

theorem or_flag (fb : Int) (b : Nat) (hb : b < 8) (h0 : 0 ≤ fb) (h1 : fb < 2 ^ b) : bits .or .u8 fb (2 ^ b % 256) = fb + 2 ^ b := by
  obtain ⟨n, rfl⟩ := Int.eq_ofNat_of_zero_le h0
  have hn : n < 2 ^ b := by exact_mod_cast h1
  have h8 : (2 : Nat) ^ b < 256 := Nat.pow_lt_pow_right (by omega) hb
  have e : ((2 : Int) ^ b % 256) = ((2 ^ b : Nat) : Int) := by
    have : ((2 : Int) ^ b) = ((2 ^ b : Nat) : Int) := by simp
    rw [this]
    generalize (2 : Nat) ^ b = q at h8
    omega
  have e2 := Nat.two_pow_add_eq_or_of_lt hn 1
  rw [Nat.mul_one] at e2
  rw [e, u8_or_nat n (2 ^ b) (by omega) h8, Nat.or_comm, ← e2]
  simp [Int.add_comm]
theorem i64_join6 (x y : Int) (h0 : 0 ≤ x) (h1 : x ≤ 1023) (h2 : 0 ≤ y) (h3 : y ≤ 63) : bits .or .i64 (x * 64) y = x * 64 + y :=
  bits_join .i64 17 (by decide) (fun n a b => IntWalk.i64_in n (by omega)) 6 (x * 64) y (by omega) (by omega) (by omega) (by omega) (by omega) (by omega)

theorem R_kept {k : IntKind} {e base : Nat} {w w1 : World} {v : Value} {xs : List Int} {row : Option Nat} (h : (Kd.int k).R e w base (fun _ => True) v xs) (hg : w.grownBy w1 row) (hne : v.ownBlock = none ∨ v.ownBlock ≠ row) : (Kd.int k).R e w1 base (fun _ => True) v xs :=
  Kd.R_of_own ((Kd.own_of_R h).kept hg hne) (fun _ _ => trivial)
theorem R_ne_map {k : IntKind} {e base b : Nat} {w : World} {v : Value} {xs : List Int} {es : Array MapEntry} {clock : Nat} (h : (Kd.int k).R e w base (fun _ => True) v xs) (hb : w.heap[b]? = some (.map es clock)) : v.ownBlock = none ∨ v.ownBlock ≠ some b := by
  refine .inr fun he => ?_
  obtain ⟨cells, hc⟩ := Kd.R_typed h b he
  rw [hb] at hc; cases hc

section
variable {P : Program} {ops : Array Oper} {rest : List Oper} {o : Oper} {a : Act} {Q : Exit → Act → World → Prop} {W w1 : World}
theorem wpList_mapEntry (hgd : o.guard = none) (m x : Operand) (t : TypeId) (hop : o.op = Op.mapEntry t m x) (key r : Value) (b : Nat) (hm : a.eval m = .map (some b)) (hx : a.eval x = key)
    (hrun : (Instr.mapEntry t (.map (some b)) key).run P W = .ok r w1) (hK : wpList P ops Q rest (a.put o.dst r) w1) : wpList P ops Q (o :: rest) a W := by
  refine wpList_plain hgd fun K hK' => ?_
  unfold Oper.wp
  simp [execOp, hop, hm, hx, hrun, Result.andThen]
  exact hK' _ _ hK
theorem wpList_entryStore (hgd : o.guard = none) (m x y : Operand) (t : TypeId) (hop : o.op = Op.entryStore t m x y) (s v : Value) (b : Nat) (hm : a.eval m = .map (some b)) (hx : a.eval x = s) (hy : a.eval y = v)
    (hrun : (Instr.entryStore t (.map (some b)) s v).run P W = .ok () w1) (hK : wpList P ops Q rest (a.put o.dst undef) w1) : wpList P ops Q (o :: rest) a W := by
  refine wpList_plain hgd fun K hK' => ?_
  unfold Oper.wp
  simp [execOp, hop, hm, hx, hy, hrun, Result.andThen]
  exact hK' _ _ hK
end

theorem box_reads {wA w7 : World} {base b : Nat} {x : Int} (hb : b < wA.heap.size) (hbase : base ≤ wA.heap.size) (hg : (wA.alloc (.cells #[.int .i64 x] 3)).grownBy w7 (some b)) : (Kd.int .i64).C w7 (some ⟨wA.heap.size, 0, none⟩) 1 [x] := by
  have h := own_lit wA base 3 .i64 [x] hbase (by simp)
  have h' := h.kept hg (.inr (by simp [Value.ownBlock]; omega))
  exact Kd.C_of_reads (h1 := fun _ => rfl) (d := (0 : Int)) (readsInt_of.1 (own_reads' h'))

/-- What is known behind 'g[k]' is looked up for the append. -/
structure PEntry (w : World) (l0 out2 : List Int) (u5 : Value) (a2 : Nat) (w5 : World) (v6 : Value) (st : Nat) (w7 : World) : Prop where
  val : Kd.R (Kd.int .i64) 3 w7 w.heap.size (fun _ => True) v6 (GAt l0 a2 (keyAt l0 a2))
  box : (Kd.int .i64).C w7 (some ⟨w5.heap.size + 1, 0, none⟩) 1 [(a2 : Int)]
  bel : Below w.heap.size w w7
  row : Kd.R (Kd.int .u8) 5 w7 w.heap.size (fun _ => True) u5 out2
  ne3 : u5.ownBlock = none ∨ u5.ownBlock ≠ v6.ownBlock
  neb : u5.ownBlock = none ∨ u5.ownBlock ≠ some w.heap.size
  back : ∀ (w2 : World) (v' : Value) (zs : List Int), w7.grownBy w2 v6.ownBlock → (Kd.int .i64).R 3 w2 w.heap.size (fun _ => True) v' zs → (v'.ownBlock = v6.ownBlock ∨ ∃ q, v'.ownBlock = some q ∧ w7.heap.size ≤ q) →
        ∃ w3, (Instr.entryStore 78 (.map (some w.heap.size)) (.int .i64 st) v').run Try.prog w2 = .ok () w3 ∧ Grp Try.prog 81 w3 w.heap.size w.heap.size (upd (GAt l0 a2) (keyAt l0 a2) zs) ∧ w2.grownBy w3 (some w.heap.size)

theorem pack_entry {w w5 : World} {l0 out2 : List Int} {u5 : Value} {a2 : Nat} (hby : ∀ x ∈ l0, 0 ≤ x ∧ x ≤ 255) (hG : Grp Try.prog 81 w5 w.heap.size w.heap.size (GAt l0 a2)) (hR : Kd.R (Kd.int .u8) 5 w5 w.heap.size (fun _ => True) u5 out2)
    (hB : Below w.heap.size w w5) (x0 x1 x2 : Int) (hk : keyAt l0 a2 = .agg #[.int .u8 x0, .int .u8 x1, .int .u8 x2]) :
    ∃ (v6 : Value) (st : Nat) (w7 : World), (Instr.mapEntry 78 (.map (some w.heap.size)) (.agg #[.int .u8 x0, .int .u8 x1, .int .u8 x2])).run Try.prog ((w5.alloc (.cells #[.int .u8 x0, .int .u8 x1, .int .u8 x2] 81)).alloc (.cells #[.int .i64 (a2 : Int)] 3)) = .ok (.tuple #[v6, .int .i64 st]) w7 ∧
      PEntry w l0 out2 u5 a2 w5 v6 st w7 := by
  obtain ⟨kl, hkl⟩ := keyOf_at hby a2
  have hG6 := hG.below (below_alloc (below_alloc (Below.refl _ _) (.cells #[.int .u8 x0, .int .u8 x1, .int .u8 x2] 81)) (.cells #[.int .i64 (a2 : Int)] 3))
  have hR6 := Kd.R_alloc (Kd.R_alloc hR (.cells #[.int .u8 x0, .int .u8 x1, .int .u8 x2] 81)) (.cells #[.int .i64 (a2 : Int)] 3)
  obtain ⟨v6, st, w7, hme, hv7, hg7, hsz7, hback⟩ := hG6.entry K81 Try.underlying78 zero83 hkl
  have hlt := hG.lt
  have hneb : u5.ownBlock = none ∨ u5.ownBlock ≠ some w.heap.size := by
    obtain ⟨es, clock, hb, _⟩ := hG
    exact R_ne_map hR hb
  have hR7 := R_kept hR6 hg7 hneb
  have hsz : (w5.alloc (.cells #[.int .u8 x0, .int .u8 x1, .int .u8 x2] 81)).heap.size = w5.heap.size + 1 := by simp
  have hbox := box_reads (base := 0) (by rw [hsz]; omega) (Nat.zero_le _) hg7
  rw [hsz] at hbox
  rw [hk] at hme
  exact ⟨v6, st, w7, hme, hv7, hbox, (below_alloc (below_alloc hB _) _).grown hg7 (by simp; have := hB.size; omega) (fun k hk => by cases hk; exact Nat.le_refl _), hR7, own_type_ne (Kd.own_of_R hR7) (Kd.own_of_R hv7) (by decide), hneb, hback⟩

set_option maxHeartbeats 4000000 in
set_option maxRecDepth 100000 in
theorem pack_walk (A0 : Option Addr) (c0 : Nat) (l0 : List Int) (w : World) (hr0 : Kd.C (Kd.int .u8) w A0 l0.length l0) (hby : ∀ x ∈ l0, 0 ≤ x ∧ x ≤ 255) (hl : l0.length ≤ 4096) :
    Calls Try.prog 20 #[.slice A0 l0.length c0] w fun e w' => ∃ v, e = .returned (.tuple #[v, .int .i64 0]) ∧
      Kd.R (Kd.int .u8) 5 w' w.heap.size (fun _ => True) v (packR l0 l0.length [] 0 0 0) ∧ Below w.heap.size w w' := by
  obtain ⟨i0, hi, hz0, hz1, hz2⟩ := info_parts info5
  have HI := Aside0.mk (⟨hi, hz0, hz1, hz2⟩ : Try.prog.info? 5 = some i0 ∧ i0.zero = some (.int .u8 0) ∧ i0.size = 1 ∧ i0.bytes = 1)
  clear hi hz0 hz1 hz2
  obtain ⟨rs, hrs⟩ : ∃ rs, packR l0 l0.length [] 0 0 0 = rs := ⟨_, rfl⟩
  rw [hrs]
  have HRS := Aside0.mk hrs
  clear hrs
  have HR0 := Aside0.mk hr0
  clear hr0
  have hl1 : (l0.length : Int) ≤ 4096 := by omega
  have hl2 : decide ((4096 : Int) < (l0.length : Int)) = false := by simp; omega
  have hl3 : decide (4096 < l0.length) = false := by simp; omega
  have hmm := @run_makeMap Try.prog
  go_enter Try.func20, Try.ntmps20
  go_wp2_with (at_make; refine wpList_make_own _ rfl _ _ 22 rfl w.heap.size 5 i0 (.int .u8 0) 1 Try.underlying22 HI.out.1 HI.out.2.1 HI.out.2.2.1 .i64 .i64 _ (l0.length + (l0.length + 7) / 8) rfl rfl (by omega) (by rw [HI.out.2.2.2]; omega) (by simp only [maxLen]; omega) (by simp) ?_)
  intro w1 hown hgrow
  have HS : PInv w l0 rs w1 l0.length (.slice (some ⟨w.heap.size + 1, 0, none⟩) 0 (l0.length + (l0.length + 7) / 8)) [] 0 0 0 := by
    refine ⟨Nat.zero_le _, by omega, Nat.le_refl _, by simp, fun h => absurd rfl h, HRS.out, Kd.R_of_own (by simp [encs]; simpa using hown) (fun _ _ => trivial), ?_, ?_⟩
    · rw [GAt_zero]
      refine Grp.step (Grp.made Try.prog 81 w w.heap.size) fun j hj _ => ?_
      exact hgrow.block j hj (by simp)
    · exact ((Below.refl _ _).alloc (Nat.le_refl _) _).grown hgrow (by simp) (by simp)
  clear hown hgrow
  go_wp2
  go_loopg [5, 6, 7, 8] (l0.length) (fun k v5 v6 v7 v8 w' => ∃ (out : List Int) (flag items at_ : Nat), v6 = .int .i64 flag ∧ v7 = .int .i64 items ∧ v8 = .int .i64 at_ ∧ PInv w l0 rs w' k v5 out flag items at_)
  case atStart => exact ⟨[], 0, 0, 0, rfl, rfl, rfl, HS⟩
  case round =>
    clear HS
    obtain ⟨out, flag, items, at_, rfl, rfl, rfl, HI0⟩ := hrel
    obtain ⟨Ao, co, eo⟩ := Kd.R_slice HI0.own
    subst eo
    by_cases hat : at_ < l0.length
    · have hat1 : (at_ : Int) < (l0.length : Int) := by omega
      have hit : items ≤ 4096 := by have := HI0.items_le; omega
      have hol : out.length ≤ 12288 := by have := HI0.olen; omega
      cases gk with
      | zero => exact absurd HI0.fuel (by omega)
      | succ k =>
      go_upto_if 33 with (fail)
      go_cut [5, 6] (fun v5 v6 wc => ∃ flag1 : Nat, v6 = .int .i64 flag1 ∧ flag1 = (if items % 8 = 0 then out.length else flag) ∧ PMid w l0 wc v5 (if items % 8 = 0 then out ++ [0] else out) flag1 items at_)
      case first =>
        by_cases h8 : items % 8 = 0
        · have h81 : ((items : Int) % 8 == 0) = true := by simp; omega
          have H8 := Aside0.mk h8
          clear h8
          go_wp2_with (at_builtin; refine Kd.R_append (Kd.int .u8) (w0 := w) w.heap.size rfl (.tmp 36) (.tmp 37) 22 5 (.int .u8 0) 1 rfl Try.underlying22 info5 rfl (by decide) (by omega) (.slice Ao out.length co) out 0 [.int .u8 0] (fun _ => True) (fun _ => False) rfl rfl rfl (fun _ hk => hk.elim) (fun _ _ => trivial) HI0.own HI0.bel HI0.bel.size (by omega) ?_; intro v1 w2 ho hb hg hat')
          go_meet
          case rel =>
            refine ⟨out.length, rfl, by rw [if_pos H8.out], ?_⟩
            rw [if_pos H8.out]
            refine ⟨by rw [H8.out]; exact FlagOk.new out, by have := HI0.olen; simp; omega, ho, ?_, hb⟩
            exact HI0.grp.grown (v := .slice Ao out.length co) (e' := 5) (Kd.own_of_R HI0.own) (by decide) hg
        · have h81 : ((items : Int) % 8 == 0) = false := by simp; omega
          have H8 := Aside0.mk h8
          clear h8
          go_wp2
          go_meet
          case rel =>
            refine ⟨flag, rfl, by rw [if_neg H8.out], ?_⟩
            rw [if_neg H8.out]
            exact ⟨HI0.fl H8.out, by have := HI0.olen; omega, HI0.own, HI0.grp, HI0.bel⟩
      case rest =>
        obtain ⟨flag1, rfl, hfl1, HM⟩ := hcut
        obtain ⟨out1, ho1⟩ : ∃ o, o = (if items % 8 = 0 then out ++ [0] else out) := ⟨_, rfl⟩
        have hrun := HI0.run
        rw [packR, if_pos hat, ← hfl1, ← ho1] at hrun
        rw [← ho1] at HM
        have hb := fnd_bounds l0 at_
        have hfe : findS (GAt l0 at_ (keyAt l0 at_)) l0 at_ = fnd l0 at_ := by rw [GAt_at]; rfl
        obtain ⟨nn, bk, hnb⟩ : ∃ nn bk, fnd l0 at_ = (nn, bk) := ⟨_, _, rfl⟩
        rw [hnb] at hb hrun hfe
        have HFE := Aside0.mk hfe
        have HRUN := Aside0.mk hrun
        clear hfe hrun hfl1 ho1 hnb
        go_upto_if 47 with (go_at_call 50; refine (find_any _ _ _ _ _ _ _ _ HM.grp (Kd.C_below HR0.out HM.bel) hby hl (by omega) ?_ ?_).mono ?_; (· rw [GAt_at]; exact fun x hx => places_mem hx); (· rw [GAt_at]; have := places_length l0 at_ at_; omega); rw [HFE.out]; rintro e w3 ⟨rfl, hb3⟩)
        have HM3 : PMid w l0 w3 u5 out1 flag1 items at_ := ⟨HM.fl, HM.olen, Kd.R_below HM.own hb3, HM.grp.below hb3, below_step HM.bel hb3⟩
        clear HM hb3
        go_cut [5, 9] (fun v5 v9 wc => ∃ (out2 : List Int) (n1 : Nat), v9 = .int .i64 n1 ∧ PEnd w l0 rs wc k v5 out2 flag1 items at_ n1)
        case first =>
          obtain ⟨Ao1, co1, eo1⟩ := Kd.R_slice HM3.own
          subst eo1
          have hol1 : out1.length ≤ 12289 := by have := HM3.olen; omega
          by_cases hn0 : nn = 0
          · have hn01 : ((nn : Int) == 0) = true := by simp [hn0]
            have HN0 := Aside0.mk hn0
            clear hn0
            obtain ⟨ad, e0, hx⟩ := Kd.at_int (Kd.C_below HR0.out HM3.bel) (at_ : Int) (by omega) (by omega)
            cases e0
            simp only [Int.toNat_natCast] at hx
            go_wp2_with (at_builtin; refine Kd.R_append (Kd.int .u8) (w0 := w) w.heap.size rfl (.tmp 48) (.tmp 53) 22 5 (.int .u8 0) 1 rfl Try.underlying22 info5 rfl (by decide) (by omega) (.slice Ao1 out1.length co1) out1 (rd l0 at_) [.int .u8 (rd l0 at_)] (fun _ => True) (fun _ => False) rfl rfl rfl (fun _ hk => hk.elim) (fun _ _ => trivial) HM3.own HM3.bel HM3.bel.size (by omega) ?_; intro v1 w4 ho hb4 hg4 hat')
            go_meet
            case rel =>
              have hr := HRUN.out
              rw [if_pos HN0.out] at hr
              exact ⟨out1 ++ [rd l0 at_], 1, rfl, by omega, by omega, (HM3.fl.append _).up, by have := HM3.olen; simp; omega, by rw [rd_nat]; exact hr, ho, HM3.grp.grown (Kd.own_of_R HM3.own) (by decide) hg4, hb4⟩
          · have hn01 : ((nn : Int) == 0) = false := by simp [hn0]
            have hbb := hb.resolve_left hn0
            have HN0 := Aside0.mk hn0
            clear hn0 hb
            have hbb' := hbb
            obtain ⟨hb1, hb2, hb3, hb4, hb5, hb6⟩ := hbb'
            obtain ⟨v, hv⟩ : ∃ v : Nat, v = (bk - 1) * 64 + (nn - 3) := ⟨_, rfl⟩
            have hv1 : bits .or .i64 (((bk : Int) - 1) * 64) ((nn : Int) - 3) = (v : Int) := by
              rw [i64_join6 _ _ (by omega) (by omega) (by omega) (by omega)]; omega
            have hv2 : v ≤ 65535 := by omega
            have HV := Aside0.mk hv
            clear hv hbb
            go_wp2_with (at_builtin; go_loud (refine Kd.R_append_rows (Kd.int .u8) (w0 := w) w.heap.size rfl (.tmp 61) (.tmp 67) 22 5 (.int .u8 0) 1 rfl Try.underlying22 info5 rfl (by decide) (by omega) (.slice Ao1 out1.length co1) out1 [(v : Int) / 256, (v : Int) % 256] (some ⟨w3.heap.size, 0, none⟩) 2 2 (fun _ => True) (fun _ => False) rfl rfl (Kd.R_alloc HM3.own _) (reads_two w3 w.heap.size _ _ HM3.bel.size) (fun _ _ h => h) (fun _ hk => hk.elim) (fun _ _ => trivial) (below_alloc HM3.bel _) (by simp; have := HM3.bel.size; omega) (by omega) ?_); intro v1 w4 ho hb7 hg4 hat')
            obtain ⟨out3, ho3⟩ : ∃ o, o = out1 ++ [(v : Int) / 256, (v : Int) % 256] := ⟨_, rfl⟩
            rw [← ho3] at ho
            have hfk : FlagOk out3 flag1 (items % 8) := by rw [ho3]; exact HM3.fl.append _
            have hflt := hfk.lt
            obtain ⟨g, cap, ev1, hgb, hglt, cells, hcells⟩ := Kd.R_form ho (by omega)
            subst ev1
            obtain ⟨hc, hz⟩ := Kd.R_celln (0 : Int) ho (flag1 : Int) (by omega) (by omega)
            simp only [Int.toNat_natCast] at hc hz
            obtain ⟨fb, hfb⟩ : ∃ fb : Int, rdOf 0 out3 (flag1 : Int) = fb := ⟨_, rfl⟩
            rw [hfb] at hc
            have hflt1 : (flag1 : Int) < (out3.length : Int) := by omega
            have HQ := Aside0.mk (⟨ho, hb7, hcells⟩ : Kd.R (Kd.int .u8) 5 w4 w.heap.size (fun _ => True) (.slice (some ⟨g, 0, none⟩) out3.length cap) out3 ∧ Below w.heap.size w w4 ∧ w4.heap[g]? = some (.cells cells 5 (0, 0)))
            have HO3 := Aside0.mk (⟨ho3, hfb⟩ : out3 = out1 ++ [(v : Int) / 256, (v : Int) % 256] ∧ rdOf 0 out3 (flag1 : Int) = fb)
            have HG3 := Aside0.mk ((HM3.grp.below (below_alloc (Below.refl _ _) _)).grown (Kd.own_of_R (Kd.R_alloc HM3.own _)) (by decide) hg4)
            clear ho hb7 hcells ho3 hfb hg4 hat' hfk
            go_region
            go_wp2
            go_meet
            case rel =>
              have hr := HRUN.out
              rw [if_neg HN0.out] at hr
              have hfk : FlagOk out3 flag1 (items % 8) := by rw [HO3.out.1]; exact HM3.fl.append _
              have hfd : fb = out3.getD flag1 0 := by rw [← HO3.out.2]; simp [rdOf]
              have hor : bits .or .u8 fb (2 ^ (items % 8) % 256) = fb + 2 ^ (items % 8) := or_flag fb (items % 8) (by omega) (by rw [hfd]; exact hfk.lo) (by rw [hfd]; exact hfk.hi)
              have hmk : mark out3 flag1 (items % 8) = out3.set flag1 (fb + 2 ^ (items % 8)) := by rw [mark, hfd]
              have hR := Kd.R_drew (Kd.R_putn (enc := Value.int .u8) (h1 := fun _ => rfl) HQ.out.1 (flag1 : Int) (fb + 2 ^ (items % 8)))
              simp only [Int.toNat_natCast] at hR
              have hiv : itemV (nn, bk) = (v : Int) := by rw [itemV, HV.out]
              rw [hor]
              refine ⟨mark out3 flag1 (items % 8), nn, rfl, by omega, by omega, hfk.mark, ?_, ?_, ?_, ?_, ?_⟩
              · rw [mark_length, HO3.out.1]; have := HM3.olen; simp; omega
              · rw [hiv, ← HO3.out.1] at hr; exact hr
              · rw [hmk]; exact hR
              · refine HG3.out.step fun j hj hcc => ?_
                show (w4.setCell _ _).heap[j]? = _
                refine Below.heap_setCell _ _ _ _ ?_
                intro hjg
                have hjg : j = g := hjg
                rcases hcc with hcc | ⟨cells', hcc⟩
                · obtain ⟨es, clock, hes, _⟩ := HG3.out
                  rw [← hcc, hjg, HQ.out.2.2] at hes
                  exact absurd hes (by simp)
                · rw [hjg, HQ.out.2.2] at hcc
                  injection hcc with hcc
                  injection hcc with _ ht
                  exact absurd ht (by decide)
              · exact (HQ.out.2.1.setCell hgb _).drew
        case rest =>
          obtain ⟨out2, n1, rfl, HE⟩ := hcut
          have hfu := HI0.fuel
          have hitl := HI0.items_le
          clear HRUN HFE HI0 HM3 hb
          have hn1 : n1 ≤ 4096 := by have := HE.n_le; omega
          have hn2 : at_ + n1 ≤ l0.length := HE.n_le
          have HE0 := Aside0.mk HE
          clear HE
          go_wp2
          go_loopg [8, 9] n1 (fun j v8 v9 w' => ∃ a2 : Nat, v8 = .int .i64 a2 ∧ v9 = .int .i64 (j : Int) ∧ a2 + j ≤ at_ + n1 ∧ at_ + n1 ≤ a2 + j ∧ Aside0 (Kd.R (Kd.int .u8) 5 w' w.heap.size (fun _ => True) u5 out2 ∧ Grp Try.prog 81 w' w.heap.size w.heap.size (GAt l0 a2) ∧ Below w.heap.size w w'))
          case atStart => exact ⟨at_, rfl, rfl, Nat.le_refl _, Nat.le_refl _, ⟨HE0.out.own, HE0.out.grp, HE0.out.bel⟩⟩
          case round =>
            obtain ⟨a2, rfl, rfl, hal1, hal2, HA⟩ := hrel
            cases gk with
            | zero =>
              go_wp2
              go_roundg k
              case measure => omega
              case rel =>
                have e2 : a2 = at_ + n1 := by omega
                subst e2
                have hE := HE0.out
                refine ⟨out2, flag1, items + 1, at_ + n1, rfl, by go_num, rfl, by omega, by have := hE.n_pos; omega, by have := hE.n_pos; omega, hE.olen, fun h => ?_, hE.run, HA.out.1, HA.out.2.1, HA.out.2.2⟩
                have : (items + 1) % 8 = items % 8 + 1 := by omega
                rw [this]; exact hE.fl
            | succ j =>
              have hal3 : a2 < l0.length := by omega
              have hj1 : (0 : Int) < ((j + 1 : Nat) : Int) := by omega
              by_cases h3 : a2 + 3 ≤ l0.length
              · have h31 : (a2 : Int) + 3 ≤ (l0.length : Int) := by omega
                obtain ⟨x0, hx0⟩ : ∃ x, l0.getD a2 0 = x := ⟨_, rfl⟩
                obtain ⟨x1, hx1⟩ : ∃ x, l0.getD (a2 + 1) 0 = x := ⟨_, rfl⟩
                obtain ⟨x2, hx2⟩ : ∃ x, l0.getD (a2 + 2) 0 = x := ⟨_, rfl⟩
                have HKY : Aside0 (keyAt l0 a2 = .agg #[.int .u8 x0, .int .u8 x1, .int .u8 x2]) := ⟨by rw [← hx0, ← hx1, ← hx2]; rfl⟩
                clear hx0 hx1 hx2
                go_wp2_with (first
                  | (go_at_call 51; refine (gram_at _ _ _ _ _ (Kd.C_below HR0.out HA.out.2.2) h3 (by omega)).mono ?_; rw [HKY.out]; rintro e w5 ⟨rfl, hb5⟩; obtain ⟨v6, st, w7, hme, HX7⟩ := pack_entry hby (HA.out.2.1.below hb5) (Kd.R_below HA.out.1 hb5) (below_step HA.out.2.2 hb5) x0 x1 x2 HKY.out; clear hb5)
                  | (at_builtin; refine Kd.R_append_rows (Kd.int .i64) (w0 := w) w.heap.size rfl (.tmp 92) (.tmp 94) 83 3 (.int .i64 0) 8 rfl Try.underlying83 info3 rfl (by decide) (by omega) v6 (GAt l0 a2 (keyAt l0 a2)) [(a2 : Int)] (some ⟨w5.heap.size + 1, 0, none⟩) 1 1 (fun _ => True) (fun _ => False) rfl rfl HX7.val HX7.box (fun _ _ h => h) (fun _ hk => hk.elim) (fun _ _ => trivial) HX7.bel HX7.bel.size (by rw [GAt_at]; have := places_length l0 a2 a2; omega) ?_; intro v8 w8 ho8 hb8 hg8 hat8; obtain ⟨w9, hes, hG9, hg9⟩ := HX7.back w8 v8 _ hg8 ho8 hat8; have H9 := Aside0.mk (⟨R_kept (R_kept HX7.row hg8 HX7.ne3) hg9 HX7.neb, hG9, hb8.grown hg9 (Nat.le_trans hb8.size (Nat.le_refl _)) (fun k hk => by cases hk; exact Nat.le_refl _)⟩ : Kd.R (Kd.int .u8) 5 w9 w.heap.size (fun _ => True) u5 out2 ∧ Grp Try.prog 81 w9 w.heap.size w.heap.size (upd (GAt l0 a2) (keyAt l0 a2) (GAt l0 a2 (keyAt l0 a2) ++ [(a2 : Int)])) ∧ Below w.heap.size w w9); clear hG9 hg9 ho8 hb8 hg8 hat8))
                go_roundg j
                case measure => omega
                case rel => exact ⟨a2 + 1, by go_num, by go_num, by omega, by omega, ⟨H9.out.1, by rw [GAt_step _ _ h3]; exact H9.out.2.1, H9.out.2.2⟩⟩
              · have h31 : (l0.length : Int) < (a2 : Int) + 3 := by omega
                go_wp2
                go_roundg j
                case measure => omega
                case rel => exact ⟨a2 + 1, by go_num, by go_num, by omega, by omega, ⟨HA.out.1, by rw [GAt_skip _ _ h3]; exact HA.out.2.1, HA.out.2.2⟩⟩
    · have hat0 : at_ = l0.length := by have := HI0.at_le; omega
      have hat1 : (l0.length : Int) ≤ (at_ : Int) := by omega
      have hr := HI0.run
      have : packR l0 gk out flag items at_ = out := by cases gk <;> simp [packR, hat]
      rw [this] at hr
      subst hr
      clear this hat0
      go_wp2
      go_ret2
      exact ⟨_, rfl, HI0.own, HI0.bel⟩

/-- press.Pack of any bytes. -/
theorem pack_any (A0 : Option Addr) (c0 : Nat) (l0 : List Int) (w : World) (hr0 : Kd.C (Kd.int .u8) w A0 l0.length l0) (hby : ∀ x ∈ l0, 0 ≤ x ∧ x ≤ 255) (hl : l0.length ≤ 140737488355328) :
    Calls Try.prog 20 #[.slice A0 l0.length c0] w fun e w' => ∃ v, e = .returned (.tuple #[v, .int .i64 (packS l0).2]) ∧
      Kd.R (Kd.int .u8) 5 w' w.heap.size (fun _ => True) v (packS l0).1 ∧ Below w.heap.size w w' := by
  by_cases h : l0.length > 4096
  · have hs : packS l0 = ([], 2) := by unfold packS; rw [if_pos h]
    rw [hs]
    have h1 : (4096 : Int) < (l0.length : Int) := by omega
    go_enter Try.func20, Try.ntmps20
    go_wp2
    go_ret2
    exact ⟨_, rfl, Kd.R_nil _ _ _ _ _, Below.refl _ _⟩
  · have hs : packS l0 = (packR l0 l0.length [] 0 0 0, 0) := by unfold packS; rw [if_neg h]
    rw [hs]
    exact pack_walk A0 c0 l0 w hr0 hby (by omega)
end Go.Proofs.Ytoefligelajfkaa.Press

namespace Go.Proofs.Ytoefligelajfkaa.Press
open Go.RowKit Go.Proofs.YtoefligelajfkaaW.PrintWords Go.Proofs.YtoefligelajfkaaW.PrintLast Go.Proofs.YtoefligelajfkaaW.PrintMore Go.Proofs.Ytoefligelajfkaa.PPressSpoilt

theorem same_run (l0 l1 : List Int) (hl : l0.length ≤ 9223372036854775807) (he : l0 = l1) : ∀ (d : Nat) (k : Nat) (i : Nat), i + d = l0.length → d < k → freightlaw4_same.l0 k l0 l1 i = some true := by
  subst he
  intro d
  induction d with
  | zero =>
    intro k i hi hk
    obtain ⟨k, rfl⟩ : ∃ m, k = m + 1 := ⟨k - 1, by omega⟩
    simp only [freightlaw4_same.l0]
    rw [if_neg (by omega)]
  | succ d ih =>
    intro k i hi hk
    obtain ⟨k, rfl⟩ : ∃ m, k = m + 1 := ⟨k - 1, by omega⟩
    simp only [freightlaw4_same.l0]
    rw [if_pos (by omega), if_pos (by omega), if_pos (by omega), if_true, w64n (n := i + 1) (by omega) (by omega)]
    exact ih k (i + 1) (by omega) (by omega)

/-- same of two rows that are alike. -/
theorem same_true (A0 : Option Addr) (c0 : Nat) (A1 : Option Addr) (c1 : Nat) (l : List Int) (w : World) (h0 : Kd.C (Kd.int .u8) w A0 l.length l) (hc0 : l.length ≤ c0) (h1 : Kd.C (Kd.int .u8) w A1 l.length l) (hc1 : l.length ≤ c1) :
    Calls Try.prog 22 #[.slice A0 l.length c0, .slice A1 l.length c1] w fun e w' => e = .returned (.bool true) ∧ Drawn0 w w' := by
  refine freightlaw4_same.calls (l.length + 1) A0 c0 l A1 c1 l true w h0 hc0 h1 hc1 ?_
  unfold freightlaw4_same.f
  rw [if_pos rfl]
  exact same_run l l (Kd.C_max h0) rfl l.length (l.length + 1) 0 (by omega) (by omega)

/-- The bytes, and nine marks behind them. -/
def roomS (l : List Int) : List Int := l ++ List.replicate 9 167

theorem room_put (l : List Int) (i k : Nat) (x : Int) (h : i + (k + 1) = l.length + 9) : ((roomS l).take i ++ List.replicate (k + 1) 0).set i x = (roomS l).take i ++ x :: List.replicate k 0 := by
  have hl : ((roomS l).take i).length = i := by simp [roomS]; omega
  rw [List.set_append_right _ _ (by omega), hl, Nat.sub_self]
  rfl
theorem room_mark (l : List Int) (i : Nat) (h : l.length ≤ i) (hi : i < l.length + 9) (ys : List Int) : (roomS l).take (i + 1) ++ ys = (roomS l).take i ++ 167 :: ys := by
  rw [List.take_succ_eq_append_getElem (by simp [roomS]; omega)]
  have : (roomS l)[i]'(by simp [roomS]; omega) = 167 := by
    simp only [roomS]
    rw [List.getElem_append_right h, List.getElem_replicate]
  rw [this, List.append_assoc]; rfl
theorem room_byte (l : List Int) (i : Nat) (h : i < l.length) (ys : List Int) : (roomS l).take (i + 1) ++ ys = (roomS l).take i ++ rd l i :: ys := by
  rw [List.take_succ_eq_append_getElem (by simp [roomS]; omega)]
  have : (roomS l)[i]'(by simp [roomS]; omega) = rd l i := by
    simp only [roomS]
    rw [List.getElem_append_left h, rd_nat, List.getD_eq_getElem?_getD, List.getElem?_eq_getElem h]; rfl
  rw [this, List.append_assoc]; rfl

set_option maxHeartbeats 2000000 in
theorem roomy_any (A0 : Option Addr) (c0 : Nat) (l0 : List Int) (w : World) (hr0 : Kd.C (Kd.int .u8) w A0 l0.length l0) (hl : l0.length ≤ 140737488355328) :
    Calls Try.prog 19 #[.slice A0 l0.length c0] w fun e w' => ∃ g, e = .returned (.tuple #[.slice (some ⟨g, 0, none⟩) l0.length (l0.length + 9), .slice (some ⟨g, 0, none⟩) (l0.length + 9) (l0.length + 9)]) ∧
      Kd.R (Kd.int .u8) 5 w' w.heap.size (fun _ => True) (.slice (some ⟨g, 0, none⟩) (l0.length + 9) (l0.length + 9)) (roomS l0) ∧ Below w.heap.size w w' := by
  obtain ⟨M, hM⟩ : ∃ M, M = l0.length + 9 := ⟨_, rfl⟩
  rw [← hM]
  have hm : ∀ W : World, (Instr.makeSlice 22 (.int .i64 (M : Int)) (.int .i64 (M : Int))).run Try.prog W = .ok (.slice (some ⟨W.heap.size, 0, none⟩) M M) (W.alloc (.cells (madeCells #[.int .u8 0] M) 5)) :=
    print_make 22 5 .u8 1 Try.underlying22 info5 (by omega) M (by omega)
  have hn : (l0.length : Int) + 9 = (M : Int) := by omega
  have HS : Kd.R (Kd.int .u8) 5 (w.alloc (.cells (madeCells #[.int .u8 0] M) 5)) w.heap.size (fun _ => True) (.slice (some ⟨w.heap.size, 0, none⟩) M M) (List.replicate M 0) := by
    have h := own_made w w.heap.size 5 .u8 M (Nat.le_refl _) (by omega)
    exact Kd.R_of_own (by simp only [List.length_replicate]; exact h) (fun _ _ => trivial)
  have HB : Aside0 (Below w.heap.size w (w.alloc (.cells (madeCells #[.int .u8 0] M) 5))) := ⟨(Below.refl _ _).alloc (Nat.le_refl _) _⟩
  have HS0 := Aside0.mk HS
  clear HS
  have HM := Aside0.mk hM
  have HR0 := Aside0.mk hr0
  have HL := Aside0.mk hl
  clear hr0
  have hM1 : l0.length ≤ M := by omega
  have hM2 : M ≤ 140737488355337 := by omega
  clear hM
  go_enter Try.func19, Try.ntmps19
  go_wp2
  go_loopg [5] M (fun k v5 w' => ∃ i : Nat, v5 = .int .i64 i ∧ i + k = M ∧ Aside0 (Kd.R (Kd.int .u8) 5 w' w.heap.size (fun _ => True) (.slice (some ⟨w.heap.size, 0, none⟩) M M) ((roomS l0).take i ++ List.replicate k 0) ∧ Below w.heap.size w w'))
  case atStart => exact ⟨0, rfl, by omega, ⟨by simp only [List.take_zero, List.nil_append]; exact HS0.out, HB.out⟩⟩
  case round =>
    obtain ⟨i, rfl, hik, HA⟩ := hrel
    cases gk with
    | zero =>
      go_wp2
      go_ret2
      refine ⟨w.heap.size, rfl, ?_, HA.out.2⟩
      have h := HA.out.1
      have e : (roomS l0).take i = roomS l0 := List.take_of_length_le (by simp [roomS]; have := HM.out; omega)
      rw [e] at h
      simpa using h
    | succ k =>
      have hiM : i < M := by omega
      have hlen : ((roomS l0).take i ++ List.replicate (k + 1) 0).length = M := by simp [roomS]; have := HM.out; omega
      obtain ⟨hc, hz⟩ := Kd.R_celln (0 : Int) HA.out.1 (i : Int) (by omega) (by omega)
      simp only [Int.toNat_natCast] at hc hz
      by_cases hil : i < l0.length
      · obtain ⟨ad, e0, hx⟩ := Kd.at_int HR0.out (i : Int) (by omega) (by omega)
        cases e0
        simp only [Int.toNat_natCast] at hx
        have hblk : (ad.add i).block < w.heap.size := World.block_lt_of_cell? w _ hx
        have hx1 : wr.cell? (ad.add i) = some (.int .u8 (rd l0 i)) := (HA.out.2.cell hblk).trans hx
        have hx2 : (wr.setCell ⟨w.heap.size, i, none⟩ (.int .u8 167)).cell? (ad.add i) = some (.int .u8 (rd l0 i)) := (cell_far (by simp only [ne_eq]; omega) _).trans hx1
        clear hx hx1 hblk
        go_wp2
        go_roundg k
        case measure => omega
        case rel =>
          have h0 := Kd.R_putn (enc := Value.int .u8) (h1 := fun _ => rfl) HA.out.1 (i : Int) 167
          have h := Kd.R_putn (enc := Value.int .u8) (h1 := fun _ => rfl) h0 (i : Int) (rd l0 i)
          simp only [Int.toNat_natCast, List.set_set] at h
          rw [room_put l0 i k _ (by have := HM.out; omega)] at h
          refine ⟨i + 1, by go_num, by omega, ⟨?_, ?_⟩⟩
          · rw [room_byte l0 i hil (List.replicate k 0)]
            exact h
          · exact (HA.out.2.setCell (Nat.le_refl _) _).setCell (Nat.le_refl _) _
      · have hil2 : (l0.length : Int) ≤ (i : Int) := by omega
        go_wp2
        go_roundg k
        case measure => omega
        case rel =>
          refine ⟨i + 1, by go_num, by omega, ⟨?_, HA.out.2.setCell (Nat.le_refl _) _⟩⟩
          have h := Kd.R_putn (enc := Value.int .u8) (h1 := fun _ => rfl) HA.out.1 (i : Int) 167
          simp only [Int.toNat_natCast] at h
          rw [room_put l0 i k _ (by have := HM.out; omega)] at h
          rw [room_mark l0 i (by omega) (by have := HM.out; omega) (List.replicate k 0)]
          exact h

theorem roomS_length (l : List Int) : (roomS l).length = l.length + 9 := by simp [roomS]
theorem roomS_take (l : List Int) : (roomS l).take l.length = l := by simp [roomS]
theorem roomS_mark (l : List Int) (i : Nat) (h : l.length ≤ i) (hi : i < l.length + 9) : rd (roomS l) i = 167 := by
  rw [rd_nat, List.getD_eq_getElem?_getD, roomS, List.getElem?_append_right h, List.getElem?_replicate, if_pos (by omega)]; rfl

set_option maxHeartbeats 2000000 in
/-- kept, where all is as it was. -/
theorem kept_true (A0 : Option Addr) (c0 n0 : Nat) (A1 : Option Addr) (c1 : Nat) (l : List Int) (w : World) (hn0 : n0 = l.length + 9) (h0 : Kd.C (Kd.int .u8) w A0 n0 (roomS l)) (hc0 : n0 ≤ c0) (h1 : Kd.C (Kd.int .u8) w A1 l.length l) (hc1 : l.length ≤ c1) (hl : l.length ≤ 140737488355328) :
    Calls Try.prog 23 #[.slice A0 n0 c0, .slice A1 l.length c1] w fun e w' => e = .returned (.bool true) ∧ Drawn0 w w' := by
  have HN := Aside0.mk hn0
  have H0 := Aside0.mk h0
  have H1 := Aside0.mk h1
  have hn1 : l.length ≤ n0 := by omega
  have hn2 : n0 ≤ 140737488355337 := by omega
  clear hn0 h0 h1
  have hg1 : decide (l.length ≤ n0) = true := by simp; omega
  have hg2 : decide ((l.length : Int) ≤ (n0 : Int)) = true := by simp; omega
  go_enter Try.func23, Try.ntmps23
  go_wp2
  go_loopg [5] (n0 - l.length) (fun k v5 w' => ∃ i : Nat, v5 = .int .i64 i ∧ i + k = n0 ∧ l.length ≤ i ∧ w' = w)
  case atStart => exact ⟨l.length, rfl, by omega, Nat.le_refl _, rfl⟩
  case round =>
    obtain ⟨i, rfl, hik, hli, rfl⟩ := hrel
    cases gk with
    | zero =>
      have h2 : Kd.C (Kd.int .u8) wr A0 l.length l := by
        have h := H0.out
        rw [HN.out, ← roomS_length] at h
        have h' := Kd.C_take (m := l.length) h (by rw [roomS_length]; omega)
        rw [roomS_take] at h'
        exact h'
      have H2 := Aside0.mk h2
      clear h2
      go_wp2_with (go_at_call 22; refine (same_true _ _ _ _ _ _ H2.out (by omega) H1.out hc1).mono ?_; rintro e w' ⟨rfl, ⟨nd, rfl⟩⟩)
      go_ret
      exact ⟨rfl, ⟨_, rfl⟩⟩
    | succ k =>
      obtain ⟨ad, e0, hx⟩ := Kd.at_int H0.out (i : Int) (by omega) (by omega)
      cases e0
      rw [roomS_mark l i hli (by have := HN.out; omega)] at hx
      simp only [Int.toNat_natCast] at hx
      have hin : i < n0 := by omega
      go_wp2
      go_roundg k
      case measure => omega
      case rel => exact ⟨i + 1, by go_num, by omega, by omega, rfl⟩

theorem own_lit_R (W : World) (base : Nat) (xs : List Int) (hb : base ≤ W.heap.size) (hm : xs.length ≤ 9223372036854775807) : (Kd.int .u8).C (W.alloc (.cells (nums .u8 xs).toArray 5)) (some ⟨W.heap.size, 0, none⟩) xs.length xs :=
  Kd.C_of_reads (h1 := fun _ => rfl) (d := (0 : Int)) (readsInt_of.1 (own_reads' (own_lit W base 5 .u8 xs hb hm)))

theorem lit_mark (W : World) (xs : List Int) (fr : Nat × Nat) (hm : xs.length ≤ 9223372036854775807) : (Kd.int .u8).C (W.alloc (.cells (nums .u8 xs).toArray 5 fr)) (some ⟨W.heap.size, 0, none⟩) xs.length xs := by
  refine Kd.C_of_reads (h1 := fun _ => rfl) (d := (0 : Int)) ⟨rfl, hm, fun _ => ⟨_, rfl, fun j hj => ?_⟩⟩
  rw [add_plain, World.cell?_alloc_mark]
  simp [nums, List.getElem?_eq_getElem hj, List.getD_eq_getElem?_getD]
theorem str_a : strOfNums [97, 97, 97, 97, 97, 97, 97] = ⟨#[97, 97, 97, 97, 97, 97, 97]⟩ := by rfl

theorem awake_str {w1 w2 : World} {A2 : Option Addr} {k2 : Nat} (h : Kd.R (Kd.int .u8) 5 w2 w1.heap.size (fun _ => True) (.slice A2 7 k2) [97, 97, 97, 97, 97, 97, 97]) (nd : Nat) :
    (convert 22 9 (.slice A2 7 k2)).run Try.prog ((w2.alloc (.cells (nums .u8 [8, 97, 98, 99, 0, 130]).toArray 5)).drewN nd) =
      .ok (.string ⟨#[97, 97, 97, 97, 97, 97, 97]⟩) ((w2.alloc (.cells (nums .u8 [8, 97, 98, 99, 0, 130]).toArray 5)).drewN nd) := by
  have h1 := Kd.C_string (P := Try.prog) (src := 22) (dst := 9) (c := k2) Try.underlying22 Try.underlying5 Try.underlying9 (Kd.C_drewN (Kd.C_alloc (Kd.R_reads' h).2.2 (.cells (nums .u8 [8, 97, 98, 99, 0, 130]).toArray 5)) nd)
  rw [str_a] at h1
  exact h1

set_option maxHeartbeats 4000000 in
theorem awake_any (w : World) : Calls Try.prog 24 #[] w fun e w' => e = .returned (.bool true) ∧ Below w.heap.size w w' := by
  have kc := fun (w : World) (C : Array Value) (n c : Nat) => Lib.run_convert_bytes_const (P := Try.prog) w 22 5 C n c Try.underlying22 Try.underlying5
  go_enter Try.func24, Try.ntmps24
  go_wp2_with (first
    | (go_at_call 20; refine (pack_any _ _ [97, 98, 99, 97, 98, 99, 97, 98] _ (lit_mark w [97, 98, 99, 97, 98, 99, 97, 98] (8, 9) (by simp)) (by simp) (by simp)).mono ?_; rw [packS_abc]; rintro e w1 ⟨v1, rfl, hR1, hB1⟩; obtain ⟨A1, k1, rfl⟩ := Kd.R_slice hR1; have HR1 := Aside0.mk hR1; have HB1 := Aside0.mk (below_step (below_alloc (Below.refl _ _) _) hB1); clear hR1 hB1)
    | (go_at_call 25; refine (unpack_any _ _ [2, 97, 0, 3] 7 _ (own_lit_R w1 0 [2, 97, 0, 3] (Nat.zero_le _) (by simp)) (by simp) (by simp)).mono ?_; rw [unpackS_a]; rintro e w2 ⟨v2, rfl, hR2, hB2⟩; obtain ⟨A2, k2, rfl⟩ := Kd.R_slice hR2; have HR2 := Aside0.mk hR2; have HB2 := Aside0.mk (below_step (below_alloc (Below.refl _ _) _) hB2); clear hR2 hB2)
    | (go_at_call 22; go_loud (refine (same_true _ _ _ _ [8, 97, 98, 99, 0, 130] _ (Kd.C_alloc (Kd.C_below (Kd.R_reads' HR1.out).2.2 HB2.out) _) (Kd.R_reads' HR1.out).2.1 (own_lit_R w2 0 [8, 97, 98, 99, 0, 130] (Nat.zero_le _) (by simp)) (by simp)).mono ?_); rintro e w3 ⟨rfl, ⟨nd, rfl⟩⟩; have hst := awake_str HR2.out nd))
  go_ret
  exact ⟨rfl, pw_below_drewN (below_alloc (below_step HB1.out HB2.out) _) _⟩
end Go.Proofs.Ytoefligelajfkaa.Press

namespace Go.Proofs.Ytoefligelajfkaa.Press
open Go.RowKit Go.Proofs.YtoefligelajfkaaW.PrintWords Go.Proofs.YtoefligelajfkaaW.PrintLast Go.Proofs.YtoefligelajfkaaW.PrintMore

theorem below_of_none {W W1 : World} (hg : W.grownBy W1 none) : Below W.heap.size W W1 := ⟨hg.os, hg.tape, hg.output, hg.size, fun k hk => hg.block k hk (by simp)⟩

section
variable {ops : Array Oper} {rest : List Oper} {o : Oper} {a : Act} {Q : Exit → Act → World → Prop}
/-- append(v, y) of one byte, and what becomes of v itself: it reads as before. -/
theorem append_split {w0 W : World} (base : Nat) (hgd : o.guard = none) (s x : Operand) (ho : o.op = .call { callee := .builtin .append, args := #[s, x], argTypes := #[22, 22] })
    (v : Value) (xs : List Int) (y : Int) (hs : a.eval s = v) (hx : a.eval x = .slice (some ⟨W.heap.size, 0, none⟩) 1 1) (HO : Kd.R (Kd.int .u8) 5 W base (fun _ => True) v xs) (HB : Below base w0 W) (hbase : base ≤ W.heap.size) (hl : xs.length + 1 ≤ 140737488355328)
    (h : ∀ v1 w1, Kd.R (Kd.int .u8) 5 w1 base (fun _ => True) v1 (xs ++ [y]) → Below base w0 w1 → W.grownBy w1 v.ownBlock → Kd.R (Kd.int .u8) 5 w1 base (fun _ => True) v xs →
      ((∃ A c, v = .slice A xs.length c ∧ v1 = .slice A (xs.length + 1) c) ∨ ∃ k, v1.ownBlock = some k ∧ W.heap.size ≤ k) → wpList Try.prog ops Q rest (a.put o.dst v1) w1) :
    wpList Try.prog ops Q (o :: rest) a (W.alloc (.cells #[.int .u8 y] 5)) := by
  obtain ⟨i0, hi, hzz⟩ := Option.map_eq_some_iff.1 info5
  simp only [Prod.mk.injEq] at hzz
  obtain ⟨hz0, hz1, hz2⟩ := hzz
  have hnews : ∀ j u, ([Value.int .u8 y] : List Value)[j]? = some u → (W.alloc (.cells #[.int .u8 y] 5)).cell? ((⟨W.heap.size, 0, none⟩ : Addr).add j) = some u :=
    World.news_of_block (cs := #[.int .u8 y]) (t := 5) (fr := (0, 0)) (heap_alloc_new W _)
  have grow : ∀ v' w', w'.ownsRow (W.alloc (.cells #[.int .u8 y] 5)).heap.size 5 1 v' (xs.length + 1) (nums .u8 xs ++ [.int .u8 y]) → (W.alloc (.cells #[.int .u8 y] 5)).grownBy w' none → wpList Try.prog ops Q rest (a.put o.dst v') w' := by
    intro v' w' hown hg
    have hg2 : W.grownBy w' none := World.grownBy.trans (World.grownBy_alloc W _ none) hg
    have hsz : (W.alloc (.cells #[.int .u8 y] 5)).heap.size = W.heap.size + 1 := by simp
    rw [hsz] at hown
    have hR : Kd.R (Kd.int .u8) 5 w' base (fun _ => True) v' (xs ++ [y]) :=
      Kd.R_of_own (by rw [List.length_append, List.length_singleton]; have := own_less hown (show base ≤ W.heap.size + 1 by omega); simpa [encs, nums] using this) (fun _ _ => trivial)
    have hf : ∃ k, v'.ownBlock = some k ∧ W.heap.size ≤ k := by
      rcases hown.2 with ⟨_, h0⟩ | ⟨g, cap, cur, hv, hb, _⟩
      · omega
      · exact ⟨g, by rw [hv]; rfl, by omega⟩
    refine h v' w' hR (HB.trans ((below_of_none hg2).mono hbase)) ⟨hg2.os, hg2.tape, hg2.output, hg2.size, fun k hk _ => hg2.block k hk (by simp)⟩ (Kd.R_below HO (below_of_none hg2)) (.inr hf)
  have hown := Kd.own_of_R HO
  rcases hown.2 with ⟨rfl, h0⟩ | ⟨g, cap, cur, rfl, hb, hh, hnc, hcm, hcs, htake⟩
  · have hx0 : xs = [] := List.length_eq_zero_iff.1 h0
    subst hx0
    refine wpList_append_grows _ hgd s x 22 ho 5 i0 (.int .u8 0) 1 1 Try.underlying22 hi hz0 hz1 hz2 rfl (by omega) none 0 0 [] hs (fun _ => ⟨rfl, rfl⟩) rfl (fun _ e => by cases e) ⟨W.heap.size, 0, none⟩ 1 1 [.int .u8 y] hx rfl hnews (by simp [Value.oneCell']) (by omega) (by unfold maxLen; omega) (by omega) ?_
    intro v' w' h1 h2
    exact grow v' w' h1 h2
  · have hblk : (W.alloc (.cells #[.int .u8 y] 5)).heap[g]? = some (.cells cur 5 (0, 0)) := blk_alloc hh _
    have hcsz : cur.size = cap := by omega
    have htk : cur.toList.take xs.length = nums .u8 xs := by rw [Nat.mul_one] at htake; exact htake
    have holds : ∀ j u, (nums .u8 xs)[j]? = some u → (W.alloc (.cells #[.int .u8 y] 5)).cell? ⟨g, 0 + j, none⟩ = some u := by
      intro j u hu
      rw [Nat.zero_add, blk_cell hblk, ← Array.getElem?_toList]
      rw [← htk, List.getElem?_take] at hu
      split at hu
      · exact hu
      · cases hu
    refine wpList_append_arg _ hgd s x 22 ho 5 i0 (.int .u8 0) 1 1 Try.underlying22 hi hz0 hz1 hz2 rfl (by omega) g 0 xs.length cap (nums .u8 xs) hs (by rw [nums_length, Nat.mul_one]) holds ⟨W.heap.size, 0, none⟩ 1 1 [.int .u8 y] hx rfl hnews (by simp [Value.oneCell'])
      (fun hr j hj => ⟨by rw [blk_cell hblk]; simp at hj ⊢; omega, blk_frozen hblk _⟩) (by unfold maxLen; omega) (by omega) ?_ ?_
    · intro hr
      rw [Nat.mul_one, Nat.zero_add]
      obtain ⟨cur', h3, h4, h5⟩ := setCells_row [.int .u8 y] xs.length (W.alloc (.cells #[.int .u8 y] 5)) cur hblk (by simp; omega)
      obtain ⟨s1, s2, s3, s4⟩ := setCells_same g [.int .u8 y] xs.length (W.alloc (.cells #[.int .u8 y] 5))
      have hg : (W.alloc (.cells #[.int .u8 y] 5)).grownBy ((W.alloc (.cells #[.int .u8 y] 5)).setCells g xs.length [.int .u8 y]) (some g) := ⟨s1, s2, s3, by rw [s4]; exact Nat.le_refl _, fun k _ hk => setCells_far _ _ k (fun he => hk (by rw [he]))⟩
      have hg2 : W.grownBy ((W.alloc (.cells #[.int .u8 y] 5)).setCells g xs.length [.int .u8 y]) (some g) := World.grownBy.trans (World.grownBy_alloc W _ _) hg
      have hR : Kd.R (Kd.int .u8) 5 ((W.alloc (.cells #[.int .u8 y] 5)).setCells g xs.length [.int .u8 y]) base (fun _ => True) (.slice (some ⟨g, 0, none⟩) (xs.length + 1) cap) (xs ++ [y]) := by
        refine Kd.R_of_own (enc := Value.int .u8) (h1 := fun _ => rfl) ?_ (fun _ _ => trivial)
        rw [List.length_append, List.length_singleton]
        refine ⟨by simp [encs], .inr ⟨g, cap, cur', rfl, hb, h3, by omega, hcm, by rw [h4, hcs], ?_⟩⟩
        rw [h5, Nat.mul_one, htk, List.take_append_of_le_length (by simp [nums])]
        rw [List.take_of_length_le (by simp [nums])]
        simp [encs, nums]
      refine h _ _ hR (HB.grown hg2 hbase (fun k hk => by cases hk; exact hb)) hg2 ?_ (.inl ⟨_, _, rfl, rfl⟩)
      have h6 := Kd.R_take (m := xs.length) hR (by simp)
      rw [List.take_left' rfl] at h6
      exact h6
    · intro _ v' w' h1 h2
      exact grow v' w' h1 h2
end
end Go.Proofs.Ytoefligelajfkaa.Press

namespace Go.Proofs.Ytoefligelajfkaa.Press
open Go.RowKit Go.Proofs.YtoefligelajfkaaW.PrintWords Go.Proofs.YtoefligelajfkaaW.PrintLast Go.Proofs.YtoefligelajfkaaW.PrintMore

/-- A slice's header. -/
structure SlV where
  A : Option Addr
  n : Nat
  c : Nat
def SlV.v (s : SlV) : Value := .slice s.A s.n s.c
/-- Slices' headers as a kind of scalars. -/
def skd : Kd SlV := Kd.scalar SlV.v (fun _ => rfl)

abbrev Own (W : World) (b : Nat) (v : Value) (y : List Int) : Prop := Kd.R (Kd.int .u8) 5 W b (fun _ => True) v y
abbrev Outer (W : World) (b : Nat) (v : Value) (us : List SlV) : Prop := Kd.R skd 22 W b (fun _ => True) v us

theorem R_off {α : Type} {d : Kd α} {e : Nat} {W W1 : World} {b : Nat} {v : Value} {y : List α} {r : Option Nat} (hE : d.E = []) (h : d.R e W b (fun _ => True) v y) (hg : W.grownBy W1 r) (hne : ∀ k, v.ownBlock = some k → some k ≠ r) : d.R e W1 b (fun _ => True) v y :=
  Kd.R_mono (Kd.R_grown (Kd.R_tight hE h) hg (fun k hk => hne k hk.symm)) (fun _ _ => trivial)

/-- Rows of one's own, no two in one block. -/
def Fam (W : World) (b : Nat) (us : List SlV) (ys : List (List Int)) : Prop :=
  us.length = ys.length ∧ (∀ (j : Nat) (u : SlV) (y : List Int), us[j]? = some u → ys[j]? = some y → Own W b u.v y) ∧
    ∀ (i j : Nat) (u u' : SlV), us[i]? = some u → us[j]? = some u' → i ≠ j → ∀ k, u.v.ownBlock = some k → u'.v.ownBlock ≠ some k

theorem fam_below {W W1 : World} {b : Nat} {us : List SlV} {ys : List (List Int)} (h : Fam W b us ys) (hb : Below W.heap.size W W1) : Fam W1 b us ys :=
  ⟨h.1, fun j u y hu hy => Kd.R_below (h.2.1 j u y hu hy) hb, h.2.2⟩

theorem fam_get {W : World} {b : Nat} {us : List SlV} {ys : List (List Int)} (h : Fam W b us ys) {j : Nat} (hj : j < us.length) : ∃ u y, us[j]? = some u ∧ ys[j]? = some y ∧ Own W b u.v y :=
  ⟨us[j], ys[j]'(by rw [← h.1]; exact hj), List.getElem?_eq_getElem hj, List.getElem?_eq_getElem _, h.2.1 _ _ _ (List.getElem?_eq_getElem hj) (List.getElem?_eq_getElem _)⟩

/-- One of the rows changes in its place. -/
theorem fam_put {W W1 : World} {b : Nat} {us : List SlV} {ys : List (List Int)} (h : Fam W b us ys) {j : Nat} {u : SlV} {y : List Int} (hu : us[j]? = some u) (hg : W.grownBy W1 u.v.ownBlock) (hy : Own W1 b u.v y) : Fam W1 b us (ys.set j y) := by
  refine ⟨by rw [List.length_set]; exact h.1, ?_, h.2.2⟩
  intro i u' y' hu' hy'
  by_cases hij : i = j
  · subst hij
    rw [hu] at hu'
    cases hu'
    have hl : i < ys.length := by rw [← h.1]; exact (List.getElem?_eq_some_iff.1 hu).1
    rw [List.getElem?_set_self hl] at hy'
    cases hy'
    exact hy
  · rw [List.getElem?_set_ne (by omega)] at hy'
    exact R_off rfl (h.2.1 i u' y' hu' hy') hg (fun k hk e => h.2.2 i j u' u hu' hu hij k hk e.symm)

/-- The rows as they were (v), and as they have grown (u). -/
def Fam2 (W : World) (b : Nat) (vs us : List SlV) (xs ys : List (List Int)) : Prop :=
  vs.length = us.length ∧ us.length = xs.length ∧ us.length = ys.length ∧
  (∀ (j : Nat) (v : SlV) (x : List Int), vs[j]? = some v → xs[j]? = some x → Own W b v.v x) ∧
  (∀ (j : Nat) (u : SlV) (y : List Int), us[j]? = some u → ys[j]? = some y → Own W b u.v y) ∧
  ∀ (i j : Nat) (u : SlV), us[i]? = some u → i ≠ j → ∀ k, u.v.ownBlock = some k → (∀ u' : SlV, us[j]? = some u' → u'.v.ownBlock ≠ some k) ∧ ∀ v : SlV, vs[j]? = some v → v.v.ownBlock ≠ some k

theorem fam2_start {W : World} {b : Nat} {us : List SlV} {ys : List (List Int)} (h : Fam W b us ys) : Fam2 W b us us ys ys :=
  ⟨rfl, h.1, h.1, h.2.1, h.2.1, fun i j u hu hij k hk => ⟨fun u' hu' => h.2.2 i j u u' hu hu' hij k hk, fun u' hu' => h.2.2 i j u u' hu hu' hij k hk⟩⟩

theorem fam2_below {W W1 : World} {b : Nat} {vs us : List SlV} {xs ys : List (List Int)} (h : Fam2 W b vs us xs ys) (hb : Below W.heap.size W W1) : Fam2 W1 b vs us xs ys :=
  ⟨h.1, h.2.1, h.2.2.1, fun j v x hv hx => Kd.R_below (h.2.2.2.1 j v x hv hx) hb, fun j u y hu hy => Kd.R_below (h.2.2.2.2.1 j u y hu hy) hb, h.2.2.2.2.2⟩

/-- Something else grows. -/
theorem fam2_off {W W1 : World} {b : Nat} {vs us : List SlV} {xs ys : List (List Int)} {r : Option Nat} (h : Fam2 W b vs us xs ys) (hg : W.grownBy W1 r) (hr : ∀ k, r = some k → ∃ cells, W.heap[k]? = some (.cells cells 22 (0, 0))) : Fam2 W1 b vs us xs ys := by
  have hne : ∀ (v : Value) y, Own W b v y → ∀ k, v.ownBlock = some k → some k ≠ r := by
    intro v y hv k hk e
    obtain ⟨cells, hc⟩ := hr k e.symm
    exact Kd.R_ne hv hc (by decide) hk.symm
  exact ⟨h.1, h.2.1, h.2.2.1, fun j v x hv hx => R_off rfl (h.2.2.2.1 j v x hv hx) hg (hne _ _ (h.2.2.2.1 j v x hv hx)), fun j u y hu hy => R_off rfl (h.2.2.2.2.1 j u y hu hy) hg (hne _ _ (h.2.2.2.2.1 j u y hu hy)), h.2.2.2.2.2⟩

/-- One of them grows: in its place or in new memory. -/
theorem fam2_grow {W W1 : World} {b : Nat} {vs us : List SlV} {xs ys : List (List Int)} (h : Fam2 W b vs us xs ys) {j : Nat} {v u u1 : SlV} {x y1 : List Int} (hv : vs[j]? = some v) (hx : xs[j]? = some x) (hu : us[j]? = some u) (hg : W.grownBy W1 u.v.ownBlock)
    (hv1 : Own W1 b v.v x) (hu1 : Own W1 b u1.v y1) (hat : u1.v.ownBlock = u.v.ownBlock ∨ ∃ k, u1.v.ownBlock = some k ∧ W.heap.size ≤ k) : Fam2 W1 b vs (us.set j u1) xs (ys.set j y1) := by
  obtain ⟨h1, h2, h3, h4, h5, h6⟩ := h
  have hj : j < us.length := (List.getElem?_eq_some_iff.1 hu).1
  refine ⟨by rw [List.length_set]; exact h1, by rw [List.length_set]; exact h2, by rw [List.length_set, List.length_set]; exact h3, ?_, ?_, ?_⟩
  · intro i v' x' hv' hx'
    by_cases hij : i = j
    · subst hij
      rw [hv] at hv'; cases hv'
      rw [hx] at hx'; cases hx'
      exact hv1
    · refine R_off rfl (h4 i v' x' hv' hx') hg (fun k hk e => ?_)
      exact (h6 j i u hu (fun e => hij e.symm) k e.symm).2 v' hv' hk
  · intro i u' y' hu' hy'
    by_cases hij : i = j
    · subst hij
      rw [List.getElem?_set_self hj] at hu'; cases hu'
      rw [List.getElem?_set_self (by omega)] at hy'; cases hy'
      exact hu1
    · rw [List.getElem?_set_ne (by omega)] at hu' hy'
      refine R_off rfl (h5 i u' y' hu' hy') hg (fun k hk e => ?_)
      exact (h6 j i u hu (fun e => hij e.symm) k e.symm).1 u' hu' hk
  · have hlt : ∀ (i : Nat) (u' : SlV) (k : Nat), us[i]? = some u' → u'.v.ownBlock = some k → k < W.heap.size := by
      intro i u' k hu' hk
      have hi : i < us.length := (List.getElem?_eq_some_iff.1 hu').1
      exact Kd.R_lt (h5 i u' _ hu' (List.getElem?_eq_getElem (by omega))) k hk
    have hltv : ∀ (i : Nat) (u' : SlV) (k : Nat), vs[i]? = some u' → u'.v.ownBlock = some k → k < W.heap.size := by
      intro i u' k hu' hk
      have hi : i < vs.length := (List.getElem?_eq_some_iff.1 hu').1
      exact Kd.R_lt (h4 i u' _ hu' (List.getElem?_eq_getElem (by omega))) k hk
    intro i i' u' hu' hii k hk
    by_cases hij : i = j
    · subst hij
      rw [List.getElem?_set_self hj] at hu'; cases hu'
      rcases hat with hat | ⟨k', hk', hlk⟩
      · rw [hat] at hk
        refine ⟨fun u'' hu'' => ?_, (h6 i i' u hu hii k hk).2⟩
        rw [List.getElem?_set_ne hii] at hu''
        exact (h6 i i' u hu hii k hk).1 u'' hu''
      · rw [hk] at hk'; cases hk'
        refine ⟨fun u'' hu'' e => ?_, fun v'' hv'' e => ?_⟩
        · rw [List.getElem?_set_ne hii] at hu''
          have := hlt i' u'' k hu'' e
          omega
        · have := hltv i' v'' k hv'' e
          omega
    · rw [List.getElem?_set_ne (by omega)] at hu'
      refine ⟨fun u'' hu'' => ?_, (h6 i i' u' hu' hii k hk).2⟩
      by_cases hi'j : i' = j
      · subst hi'j
        rw [List.getElem?_set_self hj] at hu''; cases hu''
        rcases hat with hat | ⟨k', hk', hlk⟩
        · rw [hat]; exact (h6 i i' u' hu' hii k hk).1 u hu
        · intro e
          rw [e] at hk'; cases hk'
          have := hlt i u' k hu' hk
          omega
      · rw [List.getElem?_set_ne (by omega)] at hu''
        exact (h6 i i' u' hu' hii k hk).1 u'' hu''
end Go.Proofs.Ytoefligelajfkaa.Press

namespace Go.Proofs.Ytoefligelajfkaa.Sep
open Go.RowKit Go.Proofs.YtoefligelajfkaaW.PrintWords Go.Proofs.YtoefligelajfkaaW.PrintLast Go.Proofs.YtoefligelajfkaaW.PrintMore Go.Proofs.Ytoefligelajfkaa.Press

/-- What is told of some blocks alone. -/
structure Pr where
  p : (Nat → Prop) → World → Prop
  loc : ∀ {F F' : Nat → Prop} {W W' : World}, p F W → (∀ g, F g → g < W.heap.size → F' g ∧ W'.heap[g]? = W.heap[g]?) → p F' W'

theorem own_loc {W W' : World} {b e sz n : Nat} {v : Value} {xs : List Value} (h : W.ownsRow b e sz v n xs) (hm : ∀ g, v.ownBlock = some g → g < W.heap.size → W'.heap[g]? = W.heap[g]?) : W'.ownsRow b e sz v n xs :=
  own_move h (fun k hk => hm k hk (own_lt h k hk))

def empP : Pr := ⟨fun _ _ => True, fun _ _ => trivial⟩
/-- A row of one's own. -/
def rowP (b e sz : Nat) (u : SlV) (xs : List Value) : Pr where
  p F W := W.ownsRow b e sz u.v u.n xs ∧ ∀ g, u.v.ownBlock = some g → F g
  loc h hm := ⟨own_loc h.1 (fun g hg hl => (hm g (h.2 g hg) hl).2), fun g hg => (hm g (h.2 g hg) (own_lt h.1 g hg)).1⟩
/-- A block that is known whole. -/
def blkP (b kb t : Nat) (cs : Array Value) : Pr where
  p F W := W.heap[kb]? = some (.cells cs t (0, 0)) ∧ b ≤ kb ∧ F kb
  loc h hm := by
    have := hm kb h.2.2 (blk_lt h.1)
    exact ⟨this.2.trans h.1, h.2.1, this.1⟩
/-- n times these cells. -/
def reps (n : Nat) (p : List Value) : List Value := (List.replicate n p).flatten
theorem reps_length (n : Nat) (p : List Value) : (reps n p).length = n * p.length := by
  simp [reps]
theorem reps_succ (n : Nat) (p : List Value) : reps (n + 1) p = reps n p ++ p := by
  simp [reps, List.replicate_succ']
/-- A row that was written over (l, n times p), and what has grown from it (g, r times q more). -/
structure Ent (b e sz : Nat) (l g : SlV) (p q : List Value) (n r : Nat) (F : Nat → Prop) (W : World) : Prop where
  ln : l.n = n
  gn : g.n = n + r
  lo : W.ownsRow b e sz l.v n (reps n p)
  go : W.ownsRow b e sz g.v (n + r) (reps n p ++ reps r q)
  lF : ∀ k, l.v.ownBlock = some k → F k
  gF : ∀ k, g.v.ownBlock = some k → F k
  rel : (∀ k, g.v.ownBlock = some k → l.v.ownBlock ≠ some k) ∨ (l.A = g.A ∧ l.c = g.c)
def entP (b e sz : Nat) (l g : SlV) (p q : List Value) (R : Nat) : Pr where
  p F W := ∃ n r, r ≤ R ∧ n ≤ 1000000 ∧ Ent b e sz l g p q n r F W
  loc := fun ⟨n, r, hr, hn, h⟩ hm => ⟨n, r, hr, hn, h.ln, h.gn, own_loc h.lo (fun k hk hl => (hm k (h.lF k hk) hl).2), own_loc h.go (fun k hk hl => (hm k (h.gF k hk) hl).2),
    fun k hk => (hm k (h.lF k hk) (own_lt h.lo k hk)).1, fun k hk => (hm k (h.gF k hk) (own_lt h.go k hk)).1, h.rel⟩

theorem Ent.take {W : World} {b e sz n r : Nat} {A : Option Addr} {c : Nat} {p q : List Value} (hp : p.length = sz) (h : W.ownsRow b e sz (.slice A (n + r) c) (n + r) (reps n p ++ reps r q)) : W.ownsRow b e sz (.slice A n c) n (reps n p) := by
  have h1 := own_take (m := n) h (by omega)
  rw [List.take_append_of_le_length (by rw [reps_length, hp]; exact Nat.le_refl _), List.take_of_length_le (by rw [reps_length, hp]; exact Nat.le_refl _)] at h1
  exact h1

/-- It grows by one. -/
theorem Ent.grow {W W1 : World} {b e sz n r : Nat} {l g : SlV} {p q : List Value} {F F' : Nat → Prop} {v1 : Value} (hp : p.length = sz) (h : Ent b e sz l g p q n r F W) (hF : ∀ k, k < W.heap.size → F k → F' k) (hF2 : ∀ k, W.heap.size ≤ k → F' k)
    (h1 : W1.ownsRow b e sz v1 (n + r + 1) ((reps n p ++ reps r q) ++ q)) (hg : W.grownBy W1 g.v.ownBlock) (ho : W1.ownsRow b e sz g.v (n + r) (reps n p ++ reps r q))
    (hat : (∃ A c, g.v = .slice A (n + r) c ∧ v1 = .slice A (n + r + 1) c) ∨ ∃ k, v1.ownBlock = some k ∧ W.heap.size ≤ k) : ∃ g1 : SlV, v1 = g1.v ∧ Ent b e sz l g1 p q n (r + 1) F' W1 := by
  obtain ⟨A1, c1, rfl⟩ := own_slice h1
  refine ⟨⟨A1, n + r + 1, c1⟩, rfl, ?_⟩
  have hgo : W1.ownsRow b e sz (SlV.v ⟨A1, n + r + 1, c1⟩) (n + (r + 1)) (reps n p ++ reps (r + 1) q) := by
    rw [reps_succ, ← List.append_assoc]
    exact h1
  have hlF : ∀ k, l.v.ownBlock = some k → F' k := fun k hk => hF k (own_lt h.lo k hk) (h.lF k hk)
  have hlo : W1.ownsRow b e sz l.v n (reps n p) := by
    rcases h.rel with hr | ⟨e1, e2⟩
    · exact own_move h.lo (fun k hk => hg.block k (own_lt h.lo k hk) (fun e => hr k e.symm hk))
    · obtain ⟨gA, gn, gc⟩ := g
      obtain ⟨lA, ln, lc⟩ := l
      have e3 : ln = n := h.ln
      have e4 : gn = n + r := h.gn
      simp only at e1 e2
      subst e1 e2 e3 e4
      exact Ent.take hp ho
  refine ⟨h.ln, rfl, hlo, hgo, hlF, ?_, ?_⟩
  · intro k hk
    rcases hat with ⟨A, c, e1, e2⟩ | ⟨k', hk', hl⟩
    · injection e2 with e3 e4 e5
      subst e3 e5
      have hk2 : g.v.ownBlock = some k := by
        rw [e1]
        cases A1 with
        | none => simp [SlV.v, Value.ownBlock] at hk
        | some a => simpa [SlV.v, Value.ownBlock] using hk
      exact hF k (own_lt h.go k hk2) (h.gF k hk2)
    · have hk3 : (Value.slice A1 (n + r + 1) c1).ownBlock = some k := hk
      rw [hk'] at hk3
      cases hk3
      exact hF2 k hl
  · rcases hat with ⟨A, c, e1, e2⟩ | ⟨k', hk', hl⟩
    · injection e2 with e3 e4 e5
      subst e3 e5
      obtain ⟨gA, gn, gc⟩ := g
      injection e1 with e6 e7 e8
      subst e6 e8
      rcases h.rel with hr | hr
      · refine .inl (fun k hk => hr k ?_)
        cases gA with
        | none => simp [SlV.v, Value.ownBlock] at hk
        | some a => simpa [SlV.v, Value.ownBlock] using hk
      · exact .inr hr
    · left
      intro k hk e
      have hk3 : (Value.slice A1 (n + r + 1) c1).ownBlock = some k := hk
      rw [hk'] at hk3
      injection hk3 with e5
      have := own_lt h.lo k e
      omega

/-- A store of blocks by colours: to each colour what is told of its blocks. -/
structure Store {C : Type} (b : Nat) (w0 W : World) (c : Nat → C) (S : C → Pr) : Prop where
  bel : Below b w0 W
  all : ∀ K, (S K).p (fun g => c g = K) W

section
variable {C : Type} {b : Nat} {w0 W W1 : World} {c c' : Nat → C} {S : C → Pr}
/-- One colour's part changes. -/
theorem Store.mod [DecidableEq C] (h : Store b w0 W c S) (K0 : C) (T : Pr) (hB : Below b w0 W1) (hc : ∀ g, g < W.heap.size → c g ≠ K0 → c' g = c g) (hm : ∀ g, g < W.heap.size → c g ≠ K0 → W1.heap[g]? = W.heap[g]?) (hT : T.p (fun g => c' g = K0) W1) :
    Store b w0 W1 c' (fun K => if K = K0 then T else S K) := by
  refine ⟨hB, fun K => ?_⟩
  by_cases hK : K = K0
  · subst hK
    simp only [if_true]
    exact hT
  · simp only [if_neg hK]
    refine (S K).loc (h.all K) (fun g hg hl => ?_)
    replace hg : c g = K := hg
    have h1 : c g ≠ K0 := by rw [hg]; exact hK
    exact ⟨by rw [hc g hl h1]; exact hg, hm g hl h1⟩
theorem Store.below (h : Store b w0 W c S) (hb0 : b ≤ w0.heap.size) (hb : Below W.heap.size W W1) : Store b w0 W1 c S :=
  ⟨h.bel.trans (hb.mono (Nat.le_trans hb0 h.bel.size)), fun K => (S K).loc (h.all K) (fun g hg hl => ⟨hg, hb.block g hl⟩)⟩
/-- Blocks go over from one colour to another that had none. -/
theorem Store.move [DecidableEq C] (h : Store b w0 W c S) (K1 K2 : C) (hne : K1 ≠ K2) (T : Pr) (hT : T.p (fun g => c g = K1) W) : Store b w0 W (fun g => if c g = K1 then K2 else c g) (fun K => if K = K1 then empP else if K = K2 then T else S K) := by
  refine ⟨h.bel, fun K => ?_⟩
  by_cases hK1 : K = K1
  · subst hK1
    simp only [if_true]
    exact trivial
  · simp only [if_neg hK1]
    by_cases hK2 : K = K2
    · subst hK2
      simp only [if_true]
      exact T.loc hT (fun g hg hl => ⟨by replace hg : c g = K1 := hg; simp [hg], rfl⟩)
    · simp only [if_neg hK2]
      refine (S K).loc (h.all K) (fun g hg hl => ⟨?_, rfl⟩)
      replace hg : c g = K := hg
      rw [if_neg (by rw [hg]; exact hK1)]
      exact hg
/-- Something is made: new blocks have what colour one will. -/
theorem Store.fresh (h : Store b w0 W c S) (hb0 : b ≤ w0.heap.size) (hb : Below W.heap.size W W1) (d : Nat → C) : Store b w0 W1 (fun g => if g < W.heap.size then c g else d g) S :=
  ⟨h.bel.trans (hb.mono (Nat.le_trans hb0 h.bel.size)), fun K => (S K).loc (h.all K) (fun g hg hl => ⟨by rw [if_pos hl]; exact hg, hb.block g hl⟩)⟩
/-- And is told. -/
theorem Store.set [DecidableEq C] (h : Store b w0 W c S) (K0 : C) (T : Pr) (hT : T.p (fun g => c g = K0) W) : Store b w0 W c (fun K => if K = K0 then T else S K) :=
  h.mod K0 T h.bel (fun _ _ _ => rfl) (fun _ _ _ => rfl) hT
end
end Go.Proofs.Ytoefligelajfkaa.Sep

namespace Go.Proofs.Ytoefligelajfkaa.Press
open Go.RowKit Go.Proofs.YtoefligelajfkaaW.PrintWords Go.Proofs.YtoefligelajfkaaW.PrintLast Go.Proofs.YtoefligelajfkaaW.PrintMore
section
variable {P : Program} {ops : Array Oper} {rest : List Oper} {o : Oper} {a : Act} {Q : Exit → Act → World → Prop}
/-- append(v, y) of one element of any size, and what becomes of v itself: it reads as before. -/
theorem append_split_cells {w0 W : World} (base : Nat) (hgd : o.guard = none) (s x : Operand) (t e : TypeId) (z : Value) (size bytes : Nat)
    (ho : o.op = .call { callee := .builtin .append, args := #[s, x], argTypes := #[t, t] })
    (ht : P.underlying t = some (.slice e)) (hinfo : (P.info? e).map (fun i => (i.zero, i.size, i.bytes)) = some (some z, size, bytes)) (hz : z.cells.size = size) (hs0 : 0 < size) (hb0 : 0 < bytes)
    (v : Value) (n : Nat) (xs ys : List Value) (hs : a.eval s = v) (hx : a.eval x = .slice (some ⟨W.heap.size, 0, none⟩) 1 1) (hys : ys.length = size) (h1 : ∀ u ∈ ys, u.oneCell' = true)
    (HO : W.ownsRow base e size v n xs) (HB : Below base w0 W) (hbase : base ≤ W.heap.size) (hl : (n + 1) * bytes ≤ 140737488355328)
    (h : ∀ v1 w1, w1.ownsRow base e size v1 (n + 1) (xs ++ ys) → Below base w0 w1 → W.grownBy w1 v.ownBlock → w1.ownsRow base e size v n xs →
      ((∃ A c, v = .slice A n c ∧ v1 = .slice A (n + 1) c) ∨ ∃ k, v1.ownBlock = some k ∧ W.heap.size ≤ k) → wpList P ops Q rest (a.put o.dst v1) w1) :
    wpList P ops Q (o :: rest) a (W.alloc (.cells ys.toArray e)) := by
  obtain ⟨i0, hi, hzz⟩ := Option.map_eq_some_iff.1 hinfo
  simp only [Prod.mk.injEq] at hzz
  obtain ⟨hz0, hz1, hz2⟩ := hzz
  have hlen : n + 1 ≤ 140737488355328 := Nat.le_trans (Nat.le_mul_of_pos_right _ hb0) hl
  have hnews : ∀ j u, ys[j]? = some u → (W.alloc (.cells ys.toArray e)).cell? ((⟨W.heap.size, 0, none⟩ : Addr).add j) = some u := by
    simpa using World.news_of_block (cs := ys.toArray) (t := e) (fr := (0, 0)) (heap_alloc_new W (.cells ys.toArray e))
  have grow : ∀ v' w', w'.ownsRow (W.alloc (.cells ys.toArray e)).heap.size e size v' (n + 1) (xs ++ ys) → (W.alloc (.cells ys.toArray e)).grownBy w' none → wpList P ops Q rest (a.put o.dst v') w' := by
    intro v' w' hown hg
    have hg2 : W.grownBy w' none := World.grownBy.trans (World.grownBy_alloc W _ none) hg
    have hsz : (W.alloc (.cells ys.toArray e)).heap.size = W.heap.size + 1 := by simp
    rw [hsz] at hown
    have hf : ∃ k, v'.ownBlock = some k ∧ W.heap.size ≤ k := by
      rcases hown.2 with ⟨_, h0⟩ | ⟨g, cap, cur, hv, hb, _⟩
      · omega
      · exact ⟨g, by rw [hv]; rfl, by omega⟩
    refine h v' w' (own_less hown (by omega)) (HB.trans ((below_of_none hg2).mono hbase)) ⟨hg2.os, hg2.tape, hg2.output, hg2.size, fun k hk _ => hg2.block k hk (by simp)⟩ (own_move HO (fun k hk => hg2.block k ?_ (by simp))) (.inr hf)
    obtain ⟨cells, hc⟩ := own_typed HO k hk
    exact blk_lt hc
  rcases HO.2 with ⟨rfl, h0⟩ | ⟨g, cap, cur, rfl, hb, hh, hnc, hcm, hcs, htake⟩
  · subst h0
    have hx0 : xs = [] := List.length_eq_zero_iff.1 (by have := HO.1; omega)
    subst hx0
    refine wpList_append_grows _ hgd s x t ho e i0 z size bytes ht hi hz0 hz1 hz2 hz hs0 none 0 0 [] hs (fun _ => ⟨rfl, rfl⟩) (by simp) (fun _ e => by cases e) ⟨W.heap.size, 0, none⟩ 1 1 ys hx (by rw [hys]; omega) hnews h1 (by omega) (by unfold maxLen; omega) hl ?_
    intro v' w' h1 h2
    exact grow v' w' h1 h2
  · have hblk : (W.alloc (.cells ys.toArray e)).heap[g]? = some (.cells cur e (0, 0)) := blk_alloc hh _
    have hnsz : n * size ≤ cur.size := by rw [hcs]; exact Nat.mul_le_mul_right _ hnc
    have hxl : xs.length = n * size := HO.1
    have holds : ∀ j u, xs[j]? = some u → (W.alloc (.cells ys.toArray e)).cell? ⟨g, 0 + j, none⟩ = some u := by
      intro j u hu
      rw [Nat.zero_add, blk_cell hblk, ← Array.getElem?_toList]
      rw [← htake, List.getElem?_take] at hu
      split at hu
      · exact hu
      · cases hu
    have hfit : n + 1 ≤ cap → n * size + size ≤ cur.size := by
      intro hr
      rw [hcs, ← Nat.succ_mul]
      exact Nat.mul_le_mul_right _ hr
    refine wpList_append_arg _ hgd s x t ho e i0 z size bytes ht hi hz0 hz1 hz2 hz hs0 g 0 n cap xs hs hxl holds ⟨W.heap.size, 0, none⟩ 1 1 ys hx (by rw [hys]; omega) hnews h1
      (fun hr j hj => ⟨by rw [blk_cell hblk]; have := hfit hr; rw [hys] at hj; simp; omega, blk_frozen hblk _⟩) (by unfold maxLen; omega) hl ?_ ?_
    · intro hr
      have hf := hfit hr
      rw [Nat.zero_add]
      obtain ⟨cur', h3, h4, h5⟩ := setCells_row ys (n * size) (W.alloc (.cells ys.toArray e)) cur hblk (by rw [hys]; exact hf)
      obtain ⟨s1, s2, s3, s4⟩ := setCells_same g ys (n * size) (W.alloc (.cells ys.toArray e))
      have hg : (W.alloc (.cells ys.toArray e)).grownBy ((W.alloc (.cells ys.toArray e)).setCells g (n * size) ys) (some g) := ⟨s1, s2, s3, by rw [s4]; exact Nat.le_refl _, fun k _ hk => setCells_far _ _ k (fun he => hk (by rw [he]))⟩
      have hg2 : W.grownBy ((W.alloc (.cells ys.toArray e)).setCells g (n * size) ys) (some g) := World.grownBy.trans (World.grownBy_alloc W _ _) hg
      have hcl : cur.toList.length = cur.size := by simp
      have hR : ((W.alloc (.cells ys.toArray e)).setCells g (n * size) ys).ownsRow base e size (.slice (some ⟨g, 0, none⟩) (n + 1) cap) (n + 1) (xs ++ ys) := by
        refine ⟨by rw [List.length_append, hxl, hys, Nat.succ_mul], .inr ⟨g, cap, cur', rfl, hb, h3, hr, hcm, by rw [h4, hcs], ?_⟩⟩
        rw [h5, htake, Nat.succ_mul, List.take_append_of_le_length (by rw [List.length_append, hxl, hys]; exact Nat.le_refl _)]
        exact List.take_of_length_le (by rw [List.length_append, hxl, hys]; exact Nat.le_refl _)
      have hO : ((W.alloc (.cells ys.toArray e)).setCells g (n * size) ys).ownsRow base e size (.slice (some ⟨g, 0, none⟩) n cap) n xs := by
        refine ⟨HO.1, .inr ⟨g, cap, cur', rfl, hb, h3, by omega, hcm, by rw [h4, hcs], ?_⟩⟩
        rw [h5, htake, List.append_assoc, List.take_append_of_le_length (by omega)]
        exact List.take_of_length_le (by omega)
      exact h _ _ hR (HB.grown hg2 hbase (fun k hk => by cases hk; exact hb)) hg2 hO (.inl ⟨_, _, rfl, rfl⟩)
    · intro _ v' w' h1 h2
      exact grow v' w' h1 h2
end
end Go.Proofs.Ytoefligelajfkaa.Press

namespace Go.Proofs.Ytoefligelajfkaa.Block
open Go.RowKit Go.Proofs.YtoefligelajfkaaW.PrintWords Go.Proofs.YtoefligelajfkaaW.PrintLast Go.Proofs.YtoefligelajfkaaW.PrintMore Go.Proofs.Ytoefligelajfkaa.Press

/-- Cells that hang on nothing but the element: a kind without inner rows. -/
def flat {α : Type} (sz : Nat) (enc : α → List Value) (hl : ∀ x, (enc x).length = sz) (h1 : ∀ x, ∀ u ∈ enc x, u.oneCell' = true) : Kd α where
  sz := sz
  E := []
  K := fun _ x cs => cs = enc x
  M := fun _ _ _ x cs => cs = enc x
  K_len := fun h => by rw [h]; exact hl _
  K_one := fun h u hu => by rw [h] at hu; exact h1 _ u hu
  K_below := fun _ h => h
  K_of_M := fun h => h
  M_mono := fun _ h => h
  M_bound := fun h => h
  M_move := fun _ h => h
  M_lower := fun _ h => h

/-- An entry of the Book's rows. -/
structure BRow where
  l : SlV
  g : SlV
  mark : Int
def kBRow : Kd BRow := flat 3 (fun x => [x.l.v, x.g.v, .int .u8 x.mark]) (fun _ => rfl) (fun _ u hu => by
  simp only [List.mem_cons, List.not_mem_nil, or_false] at hu
  rcases hu with rfl | rfl | rfl <;> rfl)
/-- An entry of the Book's lists. -/
structure BList where
  l : SlV
  g : SlV
  mark : Int
def kBList : Kd BList := flat 3 (fun x => [x.l.v, x.g.v, .int .i64 x.mark]) (fun _ => rfl) (fun _ u hu => by
  simp only [List.mem_cons, List.not_mem_nil, or_false] at hu
  rcases hu with rfl | rfl | rfl <;> rfl)

theorem at_flat {α : Type} {sz : Nat} {enc : α → List Value} {hl : ∀ x, (enc x).length = sz} {h1 : ∀ x, ∀ u ∈ enc x, u.oneCell' = true} {w : World} {A : Option Addr} {n : Nat} {xs : List α} (h : Kd.C (flat sz enc hl h1) w A n xs) (i : Nat) (p : α) (hp : xs[i]? = some p) :
    ∃ ad, A = some ad ∧ ∀ j u, (enc p)[j]? = some u → w.cell? (ad.add (i * sz + j)) = some u := by
  have hn : xs.length = n := h.1
  have hi : i < xs.length := (List.getElem?_eq_some_iff.1 hp).1
  obtain ⟨ad, c, e, _, hK, hc⟩ := Kd.C_get h p (i : Int) (by omega) (by omega)
  simp only [Int.toNat_natCast] at hK hc
  have e2 : xs.getD i p = p := by rw [List.getD_eq_getElem?_getD, hp]; rfl
  rw [e2] at hK
  replace hK : c = enc p := hK
  subst hK
  exact ⟨ad, e, hc⟩
end Go.Proofs.Ytoefligelajfkaa.Block

namespace Go.Proofs.Ytoefligelajfkaa.Own
open Go.RowKit Go.Proofs.YtoefligelajfkaaW.PrintWords Go.Proofs.YtoefligelajfkaaW.PrintLast Go.Proofs.YtoefligelajfkaaW.PrintMore Go.Proofs.Ytoefligelajfkaa.Press Go.Proofs.Ytoefligelajfkaa.Sep Go.Proofs.Ytoefligelajfkaa.Block

/-- The parts of BlockOwn's memory. -/
inductive Col where
  | book | rows | lists | row (k : Nat) | lst (k : Nat)
  | left (i : Nat) | want (i : Nat) | lefts | wants | tmp (k : Nat) | box | box2
  deriving DecidableEq
def Col.out : Col → Bool
  | .book | .rows | .lists | .row _ | .lst _ => false
  | _ => true

def encE (k : IntKind) (x : BRow) : List Value := [x.l.v, x.g.v, .int k x.mark]
def upd (X : Col → Pr) (K0 : Col) (T : Pr) : Col → Pr := fun K => if K = K0 then T else X K
theorem upd_same (X : Col → Pr) (K0 : Col) (T : Pr) : upd X K0 T K0 = T := if_pos rfl
theorem upd_ne (X : Col → Pr) {K0 K : Col} (T : Pr) (h : K ≠ K0) : upd X K0 T K = X K := if_neg h
theorem upd_upd (X : Col → Pr) (K0 : Col) (T T' : Pr) : upd (upd X K0 T) K0 T' = upd X K0 T' := by
  funext K; unfold upd; split <;> rfl
theorem upd_back (X : Col → Pr) {K0 : Col} {T : Pr} (h : X K0 = T) : upd X K0 T = X := by
  funext K; unfold upd; split
  · rename_i e; rw [e, h]
  · rfl
theorem upd_comm (X : Col → Pr) {K0 K1 : Col} (T T' : Pr) (h : K0 ≠ K1) : upd (upd X K0 T) K1 T' = upd (upd X K1 T') K0 T := by
  funext K; unfold upd
  by_cases h0 : K = K0
  · subst h0; simp [h]
  · simp [h0]

def pB (m : Int) : List Value := [.int .u8 m]
def pL (m : Int) : List Value := [.int .i64 m, .int .i64 0, .int .i64 0, .int .i64 0]
/-- What the Book has; X: what is beside it. -/
def stS (b kb R : Nat) (vr vl : SlV) (rs ls : List BRow) (X : Col → Pr) : Col → Pr
  | .book => blkP b kb 74 #[vr.v, vl.v]
  | .rows => rowP b 88 3 vr (rs.flatMap (encE .u8))
  | .lists => rowP b 90 3 vl (ls.flatMap (encE .i64))
  | .row k => match rs[k]? with
    | some r => entP b 5 1 r.l r.g (pB r.mark) (pB (r.mark + 1)) R
    | none => empP
  | .lst k => match ls[k]? with
    | some r => entP b 58 4 r.l r.g (pL r.mark) (pL (r.mark + 1)) R
    | none => empP
  | K => X K

theorem stS_out {b kb R : Nat} {vr vl : SlV} {rs ls : List BRow} {X : Col → Pr} {K : Col} (h : K.out = true) : stS b kb R vr vl rs ls X K = X K := by
  cases K <;> first | rfl | (simp [Col.out] at h)
theorem stS_upd {b kb R : Nat} {vr vl : SlV} {rs ls : List BRow} {X : Col → Pr} {K0 : Col} (h : K0.out = true) (T : Pr) : (fun K => if K = K0 then T else stS b kb R vr vl rs ls X K) = stS b kb R vr vl rs ls (upd X K0 T) := by
  funext K
  by_cases hK : K = K0
  · subst hK
    rw [if_pos rfl, stS_out h, upd_same]
  · rw [if_neg hK]
    cases K <;> first | rfl | (simp only [stS]; rw [upd_ne _ _ hK])
theorem stS_book {b kb R : Nat} {vr vl vr' vl' : SlV} {rs ls : List BRow} {X : Col → Pr} : (fun K => if K = .book then blkP b kb 74 #[vr'.v, vl'.v] else stS b kb R vr vl rs ls X K) = fun K => match K with | .book => blkP b kb 74 #[vr'.v, vl'.v] | K => stS b kb R vr vl rs ls X K := by
  funext K
  cases K <;> simp [stS]

theorem flatMap_length {k : IntKind} (rs : List BRow) : (rs.flatMap (encE k)).length = rs.length * 3 := by
  induction rs with
  | nil => rfl
  | cons x r ih => rw [List.flatMap_cons, List.length_append, ih]; simp [encE]; omega
theorem row_len {b e : Nat} {u : SlV} {k : IntKind} {rs : List BRow} {F : Nat → Prop} {W : World} (h : (rowP b e 3 u (rs.flatMap (encE k))).p F W) : u.n = rs.length := by
  have h1 := h.1.1
  rw [flatMap_length] at h1
  omega
theorem flatMap_at {k : IntKind} : ∀ (rs : List BRow) (i : Nat) (x : BRow), rs[i]? = some x → ∀ j u, (encE k x)[j]? = some u → (rs.flatMap (encE k))[i * 3 + j]? = some u
  | [], i, x, h => by simp at h
  | y :: r, 0, x, h => by
    simp at h
    subst h
    intro j u hj
    rw [List.flatMap_cons, Nat.zero_mul, Nat.zero_add, List.getElem?_append_left (List.getElem?_eq_some_iff.1 hj).1]
    exact hj
  | y :: r, i + 1, x, h => by
    simp only [List.getElem?_cons_succ] at h
    intro j u hj
    rw [List.flatMap_cons, show (i + 1) * 3 + j = 3 + (i * 3 + j) from by omega, List.getElem?_append_right (by simp [encE])]
    rw [show 3 + (i * 3 + j) - (encE k y).length = i * 3 + j from by simp [encE]]
    exact flatMap_at r i x h j u hj
/-- A row's cells. -/
theorem own_cell {W : World} {b e sz n : Nat} {v : Value} {xs : List Value} (h : W.ownsRow b e sz v n xs) (hn : 0 < n) : ∃ g c, v = .slice (some ⟨g, 0, none⟩) n c ∧ n ≤ c ∧ (∀ i u, xs[i]? = some u → W.cell? ⟨g, i, none⟩ = some u) ∧ ∀ i, W.frozen? ⟨g, i, none⟩ = false := by
  rcases h.2 with ⟨rfl, h0⟩ | ⟨g, cap, cur, rfl, hb, hh, hnc, hcm, hcs, htake⟩
  · omega
  · refine ⟨g, cap, rfl, hnc, fun i u hu => ?_, fun i => blk_frozen hh i⟩
    rw [blk_cell hh, ← Array.getElem?_toList]
    rw [← htake, List.getElem?_take] at hu
    split at hu
    · exact hu
    · cases hu
theorem own_cap {W : World} {b e sz n c : Nat} {A : Option Addr} {m : Nat} {xs : List Value} (h : W.ownsRow b e sz (.slice A m c) n xs) : m = n ∧ n ≤ c ∧ c ≤ maxLen := by
  rcases h.2 with ⟨e1, h0⟩ | ⟨g, cap, cur, e1, hb, hh, hnc, hcm, hcs, htake⟩
  · injection e1 with e1 e2 e3
    subst e2 e3 h0
    exact ⟨rfl, Nat.le_refl _, by unfold maxLen; omega⟩
  · injection e1 with e1 e2 e3
    subst e2 e3
    exact ⟨rfl, hnc, hcm⟩
/-- A store into one's own row. -/
theorem own_put {W : World} {b e n c g : Nat} {xs : List Value} (h : W.ownsRow b e 1 (.slice (some ⟨g, 0, none⟩) n c) n xs) (i : Nat) (u : Value) : (W.setCell ⟨g, i, none⟩ u).ownsRow b e 1 (.slice (some ⟨g, 0, none⟩) n c) n (xs.set i u) := by
  rcases h.2 with ⟨e1, h0⟩ | ⟨g', cap, cur, e1, hb, hh, hnc, hcm, hcs, htake⟩
  · cases e1
  · cases e1
    refine ⟨by rw [List.length_set]; exact h.1, .inr ⟨g, c, _, rfl, hb, blk_set hh i u, hnc, hcm, by simp [hcs], ?_⟩⟩
    rw [← htake, Array.toList_setIfInBounds, List.take_set]
end Go.Proofs.Ytoefligelajfkaa.Own

namespace Go.Proofs.Ytoefligelajfkaa.Own
open Go.RowKit Go.Proofs.YtoefligelajfkaaW.PrintWords Go.Proofs.YtoefligelajfkaaW.PrintLast Go.Proofs.YtoefligelajfkaaW.PrintMore Go.Proofs.Ytoefligelajfkaa.Press Go.Proofs.Ytoefligelajfkaa.Sep Go.Proofs.Ytoefligelajfkaa.Block

theorem info88 : (Try.prog.info? 88).map (fun i => (i.zero, i.size, i.bytes)) = some (some (.agg #[.slice none 0 0, .slice none 0 0, .int .u8 0]), 3, 56) := by kernel_rfl
theorem info90 : (Try.prog.info? 90).map (fun i => (i.zero, i.size, i.bytes)) = some (some (.agg #[.slice none 0 0, .slice none 0 0, .int .i64 0]), 3, 56) := by kernel_rfl

section
variable {b kb R : Nat} {vr vl : SlV} {rs ls : List BRow} {X : Col → Pr} {c : Nat → Col} {w0 W W1 : World}
theorem st_book (h : Store b w0 W c (stS b kb R vr vl rs ls X)) : W.heap[kb]? = some (.cells #[vr.v, vl.v] 74 (0, 0)) ∧ b ≤ kb ∧ c kb = .book := h.all .book
theorem st_rows (h : Store b w0 W c (stS b kb R vr vl rs ls X)) : W.ownsRow b 88 3 vr.v vr.n (rs.flatMap (encE .u8)) ∧ (∀ g, vr.v.ownBlock = some g → c g = .rows) ∧ vr.n = rs.length := by
  have h1 := h.all .rows
  exact ⟨h1.1, h1.2, row_len h1⟩
theorem st_lists (h : Store b w0 W c (stS b kb R vr vl rs ls X)) : W.ownsRow b 90 3 vl.v vl.n (ls.flatMap (encE .i64)) ∧ (∀ g, vl.v.ownBlock = some g → c g = .lists) ∧ vl.n = ls.length := by
  have h1 := h.all .lists
  exact ⟨h1.1, h1.2, row_len h1⟩
theorem st_at (h : Store b w0 W c (stS b kb R vr vl rs ls X)) {K : Col} (hK : K.out = true) {T : Pr} (hT : X K = T) : T.p (fun g => c g = K) W := by
  have h1 := h.all K
  rw [stS_out hK, hT] at h1
  exact h1
theorem st_set (h : Store b w0 W c (stS b kb R vr vl rs ls X)) {K : Col} (hK : K.out = true) {T : Pr} (hT : T.p (fun g => c g = K) W) : Store b w0 W c (stS b kb R vr vl rs ls (upd X K T)) := by
  have h1 := h.set K T hT
  rw [stS_upd hK] at h1
  exact h1
/-- A new block, known whole. -/
theorem st_alloc (h : Store b w0 W c (stS b kb R vr vl rs ls X)) (hb0 : b ≤ w0.heap.size) {K : Col} (hK : K.out = true) (cs : Array Value) (t : TypeId) :
    ∃ c', Store b w0 (W.alloc (.cells cs t)) c' (stS b kb R vr vl rs ls (upd X K (blkP b W.heap.size t cs))) := by
  have hb := below_alloc (Below.refl W.heap.size W) (.cells cs t)
  have h1 := (h.fresh hb0 hb (fun _ => K)).set K (blkP b W.heap.size t cs) ⟨heap_alloc_new W _, Nat.le_trans hb0 h.bel.size, by simp⟩
  rw [stS_upd hK] at h1
  exact ⟨_, h1⟩
/-- A store into a row beside the Book. -/
theorem st_put (h : Store b w0 W c (stS b kb R vr vl rs ls X)) {K : Col} (hK : K.out = true) {e g n k : Nat} {xs : List Value} (hT : X K = rowP b e 1 ⟨some ⟨g, 0, none⟩, n, k⟩ xs) (i : Nat) (u : Value) :
    Store b w0 (W.setCell ⟨g, i, none⟩ u) c (stS b kb R vr vl rs ls (upd X K (rowP b e 1 ⟨some ⟨g, 0, none⟩, n, k⟩ (xs.set i u)))) := by
  have h1 := st_at h hK hT
  have hg : c g = K := h1.2 g rfl
  have h2 := h.mod K (rowP b e 1 ⟨some ⟨g, 0, none⟩, n, k⟩ (xs.set i u)) (h.bel.setCell (own_base h1.1 g rfl) u) (c' := c) (fun _ _ _ => rfl)
    (fun j _ hj => Below.heap_setCell W _ u j (fun e => hj (by rw [e]; exact hg))) ⟨own_put h1.1 i u, h1.2⟩
  rw [stS_upd hK] at h2
  exact h2
/-- The rows' header has grown by an entry. -/
theorem st_rowsApp (h : Store b w0 W c (stS b kb R vr vl rs ls X)) {v1 : Value} {r : BRow} (hv : W1.ownsRow b 88 3 v1 (vr.n + 1) (rs.flatMap (encE .u8) ++ encE .u8 r)) (hB : Below b w0 W1) (hg : W.grownBy W1 vr.v.ownBlock)
    (hat : (∃ A k, vr.v = .slice A vr.n k ∧ v1 = .slice A (vr.n + 1) k) ∨ ∃ k, v1.ownBlock = some k ∧ W.heap.size ≤ k) :
    ∃ A1 k1, v1 = .slice A1 (vr.n + 1) k1 ∧ W1.heap[kb]? = some (.cells #[vr.v, vl.v] 74 (0, 0)) ∧ W1.frozen? ⟨kb, 0, none⟩ = false ∧ ∃ c', Store b w0 (W1.setCell ⟨kb, 0, none⟩ v1) c' (fun (K : Col) => match K with
      | .book => blkP b kb 74 #[SlV.v ⟨A1, vr.n + 1, k1⟩, vl.v]
      | .rows => rowP b 88 3 ⟨A1, vr.n + 1, k1⟩ ((rs ++ [r]).flatMap (encE .u8))
      | K => stS b kb R vr vl rs ls X K) := by
  obtain ⟨hbk, hbb, hbc⟩ := st_book h
  obtain ⟨hro, hrc, hrn⟩ := st_rows h
  obtain ⟨A1, k1, rfl⟩ := own_slice hv
  have hne : some kb ≠ vr.v.ownBlock := fun e => by have := hrc kb e.symm; rw [hbc] at this; cases this
  have hbk1 : W1.heap[kb]? = some (.cells #[vr.v, vl.v] 74 (0, 0)) := (hg.block kb (blk_lt hbk) hne).trans hbk
  refine ⟨A1, k1, rfl, hbk1, blk_frozen hbk1 _, ?_⟩
  have h1 := h.mod .rows (W1 := W1) (rowP b 88 3 ⟨A1, vr.n + 1, k1⟩ ((rs ++ [r]).flatMap (encE .u8))) hB (c' := fun g => if g < W.heap.size then c g else .rows) (fun g hl _ => by simp [hl])
    (fun g hl hgc => hg.block g hl (fun e => hgc (hrc g e.symm))) ⟨by rw [List.flatMap_append, List.flatMap_singleton]; exact hv, ?_⟩
  · have h2 := h1.mod .book (W1 := W1.setCell ⟨kb, 0, none⟩ (.slice A1 (vr.n + 1) k1)) (blkP b kb 74 #[.slice A1 (vr.n + 1) k1, vl.v]) (hB.setCell hbb _) (c' := fun g => if g < W.heap.size then c g else .rows) (fun _ _ _ => rfl)
      (fun j _ hj => Below.heap_setCell W1 _ _ j (fun e => hj (by rw [e]; simp [blk_lt hbk, hbc]))) ⟨blk_set hbk1 0 _, hbb, by simp [blk_lt hbk, hbc]⟩
    refine ⟨fun g => if g < W.heap.size then c g else .rows, h2.bel, fun K => ?_⟩
    have h3 := h2.all K
    cases K <;> exact h3
  · intro g hgk
    rcases hat with ⟨A, k, e1, e2⟩ | ⟨k, hk, hl⟩
    · injection e2 with e3 e4 e5
      subst e3 e5
      have hk2 : vr.v.ownBlock = some g := by
        rw [e1]
        cases A1 with
        | none => simp [SlV.v, Value.ownBlock] at hgk
        | some a => simpa [SlV.v, Value.ownBlock] using hgk
      have := own_lt hro g hk2
      simp [this, hrc g hk2]
    · replace hgk : (Value.slice A1 (vr.n + 1) k1).ownBlock = some g := hgk
      rw [hk] at hgk
      injection hgk with e5
      simp [show ¬ g < W.heap.size from by omega]
/-- And the entry's row goes over to the Book. -/
theorem st_rowsDone {vr1 u : SlV} {m : Int} (h : Store b w0 W c (fun (K : Col) => match K with
      | .book => blkP b kb 74 #[vr1.v, vl.v]
      | .rows => rowP b 88 3 vr1 ((rs ++ [(⟨u, u, m⟩ : BRow)]).flatMap (encE .u8))
      | K => stS b kb R vr vl rs ls X K)) {K1 : Col} (hK : K1.out = true) (hT : X K1 = rowP b 5 1 u (reps u.n (pB m))) (hu : u.n ≤ 1000000) :
    ∃ c', Store b w0 W c' (stS b kb R vr1 vl (rs ++ [⟨u, u, m⟩]) ls (upd X K1 empP)) := by
  have hne : K1 ≠ .row rs.length := fun e => by rw [e] at hK; cases hK
  have h0 : (rowP b 5 1 u (reps u.n (pB m))).p (fun g => c g = K1) W := by
    have := h.all K1
    cases K1 <;> first | (simp [Col.out] at hK; done) | (rw [← hT]; exact this)
  have h1 := h.move K1 (.row rs.length) hne (entP b 5 1 u u (pB m) (pB (m + 1)) R) ⟨u.n, 0, Nat.zero_le _, hu, rfl, rfl, h0.1, by simpa [reps] using h0.1, h0.2, h0.2, .inr ⟨rfl, rfl⟩⟩
  refine ⟨fun g => if c g = K1 then .row rs.length else c g, h1.bel, fun K => ?_⟩
  have h2 := h1.all K
  by_cases e1 : K = K1
  · subst e1
    rw [stS_out hK, upd_same]
    exact trivial
  · rw [if_neg e1] at h2
    by_cases e2 : K = .row rs.length
    · subst e2
      rw [if_pos rfl] at h2
      simp only [stS, List.getElem?_concat_length]
      exact h2
    · rw [if_neg e2] at h2
      cases K with
      | row k =>
        have hk : k ≠ rs.length := fun e => e2 (by rw [e])
        simp only [stS] at h2 ⊢
        by_cases hkl : k < rs.length
        · rw [List.getElem?_append_left hkl]
          exact h2
        · rw [List.getElem?_eq_none (by simp; omega)]
          exact trivial
      | _ => first | exact h2 | (simp only [stS] at h2 ⊢; first | exact h2 | (rw [upd_ne _ _ e1]; exact h2))
end

set_option maxHeartbeats 4000000 in
theorem take_any (b kb R : Nat) (vr vl u : SlV) (rs ls : List BRow) (X : Col → Pr) (c : Nat → Col) (w0 w : World) (ys : List Value) (K1 : Col) (hK : K1.out = true) (hK2 : K1 ≠ .box) (hb0 : b ≤ w0.heap.size)
    (H : Store b w0 w c (stS b kb R vr vl rs ls X)) (hX : X .box = empP) (hT : X K1 = rowP b 5 1 u ys) (hrs : rs.length ≤ 100000000) (hu : u.n ≤ 1000000) :
    Calls Try.prog 46 #[.pointer (some ⟨kb, 0, none⟩), u.v] w fun e w' => e = .returned (.tuple #[]) ∧ ∃ c' vr', Store b w0 w' c' (stS b kb R vr' vl (rs ++ [⟨u, u, 1 + 2 * ((rs.length : Int) % 100)⟩]) ls (upd X K1 empP)) := by
  obtain ⟨A0, n0, k0⟩ := u
  have hown := st_at H hK hT
  obtain ⟨hbk, hbb, hbc⟩ := st_book H
  obtain ⟨hro, hrc, hrn⟩ := st_rows H
  obtain ⟨Ar, nr, kr⟩ := vr
  obtain ⟨Al, nl, kl⟩ := vl
  replace hrn : nr = rs.length := hrn
  subst hrn
  have hc0 : w.cell? ⟨kb, 0, none⟩ = some (.slice Ar rs.length kr) := by rw [blk_cell hbk]; rfl
  obtain ⟨m, hm⟩ : ∃ m : Int, m = 1 + 2 * ((rs.length : Int) % 100) := ⟨_, rfl⟩
  obtain ⟨c1, H1⟩ := st_alloc H hb0 (K := .box) rfl #[.slice A0 n0 k0, .slice A0 n0 k0, .int .u8 m] 88
  have hyl : ys.length = n0 := by have := hown.1.1; simpa using this
  have H0 : Aside0 (∃ c', Store b w0 (w.alloc (.cells #[.slice A0 n0 k0, .slice A0 n0 k0, .int .u8 m] 88)) c' (stS b kb R ⟨Ar, rs.length, kr⟩ ⟨Al, nl, kl⟩ rs ls (upd (upd X .box (blkP b w.heap.size 88 #[.slice A0 n0 k0, .slice A0 n0 k0, .int .u8 m])) K1 (rowP b 5 1 ⟨A0, n0, k0⟩ (reps 0 (pB m) ++ ys.drop 0))))) :=
    ⟨c1, by rw [upd_back _ (by rw [upd_ne _ _ hK2, hT]; simp [reps])]; exact H1⟩
  have HYL := Aside0.mk hyl
  clear H H1 hbk hbc hro hrc hown hyl
  unfold SlV.v
  go_enter Try.func46, Try.ntmps46
  go_wp2
  rw [← hm]
  have HM := Aside0.mk hm
  clear hm hc0
  go_loopg [5] n0 (fun k v5 w' => ∃ i : Nat, v5 = .int .i64 i ∧ i + k = n0 ∧ Aside0 (∃ c', Store b w0 w' c' (stS b kb R ⟨Ar, rs.length, kr⟩ ⟨Al, nl, kl⟩ rs ls (upd (upd X .box (blkP b w.heap.size 88 #[.slice A0 n0 k0, .slice A0 n0 k0, .int .u8 m])) K1 (rowP b 5 1 ⟨A0, n0, k0⟩ (reps i (pB m) ++ ys.drop i))))))
  case atStart => exact ⟨0, rfl, by omega, H0⟩
  case round =>
    clear H0
    obtain ⟨i, rfl, hik, HA⟩ := hrel
    have hx2 : wr.cell? ⟨w.heap.size, 2, none⟩ = some (.int .u8 m) := by
      obtain ⟨c', h⟩ := HA.out
      have h1 := st_at h (K := .box) rfl (by rw [upd_ne _ _ hK2.symm, upd_same])
      rw [blk_cell h1.1]; rfl
    cases gk with
    | zero =>
      obtain rfl : i = n0 := by omega
      obtain ⟨c2, hS0⟩ := HA.out
      have hS := hS0.below hb0 (below_drew (Below.refl _ _))
      obtain ⟨hbk, hbb, hbc⟩ := st_book hS0
      have hro := st_rows hS
      have hc0 : wr.cell? ⟨kb, 0, none⟩ = some (.slice Ar rs.length kr) := by rw [blk_cell hbk]; rfl
      have hc0a : ∀ o, (wr.alloc o).cell? ⟨kb, 0, none⟩ = some (.slice Ar rs.length kr) := fun o => by rw [blk_cell (blk_alloc hbk o)]; rfl
      have hx0 : wr.cell? ⟨w.heap.size, 0, none⟩ = some (.slice A0 i k0) := by
        have h1 := st_at hS0 (K := .box) rfl (by rw [upd_ne _ _ hK2.symm, upd_same])
        rw [blk_cell h1.1]; rfl
      have hx1 : wr.cell? ⟨w.heap.size, 1, none⟩ = some (.slice A0 i k0) := by
        have h1 := st_at hS0 (K := .box) rfl (by rw [upd_ne _ _ hK2.symm, upd_same])
        rw [blk_cell h1.1]; rfl
      have HS := Aside0.mk (And.intro hS hro)
      clear hS hS0 hro hbk hbc HA
      go_wp2
      go_region_law (refine step_append_row (w0 := w0) b (by rfl) (.tmp 33) (.tmp 35) 71 88 _ 3 56 (by rfl) Try.underlying71 info88 (by rfl) (by decide) (by decide) (.slice Ar rs.length kr) rs.length (rs.flatMap (encE .u8)) (encE .u8 ⟨⟨A0, i, k0⟩, ⟨A0, i, k0⟩, m⟩) (by rfl) (by rfl) (by rfl) (fun u hu => by simp only [encE, List.mem_cons, List.not_mem_nil, or_false] at hu; rcases hu with rfl | rfl | rfl <;> rfl) HS.out.2.1 HS.out.1.bel (Nat.le_trans hb0 HS.out.1.bel.size) (by omega) ?_; intro v1 w1 hv1 hB1 hg1 _ hat1; obtain ⟨Ar1, kr1, rfl, hbk1, hfz1, hst1⟩ := st_rowsApp HS.out.1 hv1 hB1 hg1 hat1; have hc1 : w1.cell? ⟨kb, 0, none⟩ = some (.slice Ar rs.length kr) := (by rw [blk_cell hbk1]; rfl); have HST := Aside0.mk hst1; clear hv1 hB1 hg1 hat1 hbk1 hst1)
      all_goals go_end0
      all_goals
        refine ⟨rfl, ?_⟩
        obtain ⟨c3, h3⟩ := HST.out
        obtain ⟨c4, h4⟩ := st_rowsDone h3 hK (by rw [upd_same, List.drop_of_length_le (by have := HYL.out; omega), List.append_nil]) (by show i ≤ 1000000; exact hu)
        have h5 := st_set h4 (K := .box) rfl (T := empP) trivial
        rw [upd_upd, upd_comm _ _ _ hK2, upd_upd, upd_back _ hX, HM.out] at h5
        exact ⟨_, _, h5⟩
    | succ k =>
      have hi : i < n0 := by omega
      have hi2 : (i : Int) < (n0 : Int) := by omega
      have hu1 : ∃ g, A0 = some ⟨g, 0, none⟩ ∧ (∃ z, wr.cell? ⟨g, i, none⟩ = some z) ∧ wr.frozen? ⟨g, i, none⟩ = false ∧ ∃ c', Store b w0 (wr.setCell ⟨g, i, none⟩ (.int .u8 m)) c' (stS b kb R ⟨Ar, rs.length, kr⟩ ⟨Al, nl, kl⟩ rs ls (upd (upd X .box (blkP b w.heap.size 88 #[.slice A0 n0 k0, .slice A0 n0 k0, .int .u8 m])) K1 (rowP b 5 1 ⟨A0, n0, k0⟩ (reps (i + 1) (pB m) ++ ys.drop (i + 1))))) := by
        obtain ⟨c', h⟩ := HA.out
        have h1 := st_at h hK (upd_same _ _ _)
        obtain ⟨g, c2, e, h2, h3, h4⟩ := own_cell h1.1 (by show 0 < n0; omega)
        cases e
        have hl := HYL.out
        have e1 : reps i (pB m) ++ ys.drop i = reps i (pB m) ++ (ys[i]'(by omega) :: ys.drop (i + 1)) := by rw [List.drop_eq_getElem_cons]
        have hri : (reps i (pB m)).length = i := by rw [reps_length]; simp [pB]
        refine ⟨g, rfl, ⟨_, h3 i (ys[i]'(by omega)) ?_⟩, h4 i, c', ?_⟩
        · rw [e1, List.getElem?_append_right (by omega), hri, Nat.sub_self]; rfl
        · have h5 := st_put h hK (upd_same _ _ _) i (.int .u8 m)
          rw [upd_upd, e1, List.set_append_right _ _ (by omega), hri, Nat.sub_self, List.set_cons_zero] at h5
          rw [reps_succ, List.append_assoc]
          exact h5
      obtain ⟨g, rfl, ⟨z, hz⟩, hf, HS⟩ := hu1
      have HS' := Aside0.mk HS
      clear HS
      go_wp2
      go_roundg k
      case measure => omega
      case rel => exact ⟨i + 1, by go_num, by omega, HS'⟩
end Go.Proofs.Ytoefligelajfkaa.Own

namespace Go.Proofs.Ytoefligelajfkaa.Own
open Go.RowKit Go.Proofs.YtoefligelajfkaaW.PrintWords Go.Proofs.YtoefligelajfkaaW.PrintLast Go.Proofs.YtoefligelajfkaaW.PrintMore Go.Proofs.Ytoefligelajfkaa.Press Go.Proofs.Ytoefligelajfkaa.Sep Go.Proofs.Ytoefligelajfkaa.Block

section
variable {b kb R : Nat} {vr vl : SlV} {rs ls : List BRow} {X : Col → Pr} {c : Nat → Col} {w0 W W1 : World}
/-- The lists' header has grown by an entry. -/
theorem st_listsApp (h : Store b w0 W c (stS b kb R vr vl rs ls X)) {v1 : Value} {r : BRow} (hv : W1.ownsRow b 90 3 v1 (vl.n + 1) (ls.flatMap (encE .i64) ++ encE .i64 r)) (hB : Below b w0 W1) (hg : W.grownBy W1 vl.v.ownBlock)
    (hat : (∃ A k, vl.v = .slice A vl.n k ∧ v1 = .slice A (vl.n + 1) k) ∨ ∃ k, v1.ownBlock = some k ∧ W.heap.size ≤ k) :
    ∃ A1 k1, v1 = .slice A1 (vl.n + 1) k1 ∧ W1.heap[kb]? = some (.cells #[vr.v, vl.v] 74 (0, 0)) ∧ W1.frozen? ⟨kb, 1, none⟩ = false ∧ ∃ c', Store b w0 (W1.setCell ⟨kb, 1, none⟩ v1) c' (fun (K : Col) => match K with
      | .book => blkP b kb 74 #[vr.v, SlV.v ⟨A1, vl.n + 1, k1⟩]
      | .lists => rowP b 90 3 ⟨A1, vl.n + 1, k1⟩ ((ls ++ [r]).flatMap (encE .i64))
      | K => stS b kb R vr vl rs ls X K) := by
  obtain ⟨hbk, hbb, hbc⟩ := st_book h
  obtain ⟨hro, hrc, hrn⟩ := st_lists h
  obtain ⟨A1, k1, rfl⟩ := own_slice hv
  have hne : some kb ≠ vl.v.ownBlock := fun e => by have := hrc kb e.symm; rw [hbc] at this; cases this
  have hbk1 : W1.heap[kb]? = some (.cells #[vr.v, vl.v] 74 (0, 0)) := (hg.block kb (blk_lt hbk) hne).trans hbk
  refine ⟨A1, k1, rfl, hbk1, blk_frozen hbk1 _, ?_⟩
  have h1 := h.mod .lists (W1 := W1) (rowP b 90 3 ⟨A1, vl.n + 1, k1⟩ ((ls ++ [r]).flatMap (encE .i64))) hB (c' := fun g => if g < W.heap.size then c g else .lists) (fun g hl _ => by simp [hl])
    (fun g hl hgc => hg.block g hl (fun e => hgc (hrc g e.symm))) ⟨by rw [List.flatMap_append, List.flatMap_singleton]; exact hv, ?_⟩
  · have h2 := h1.mod .book (W1 := W1.setCell ⟨kb, 1, none⟩ (.slice A1 (vl.n + 1) k1)) (blkP b kb 74 #[vr.v, .slice A1 (vl.n + 1) k1]) (hB.setCell hbb _) (c' := fun g => if g < W.heap.size then c g else .lists) (fun _ _ _ => rfl)
      (fun j _ hj => Below.heap_setCell W1 _ _ j (fun e => hj (by rw [e]; simp [blk_lt hbk, hbc]))) ⟨blk_set hbk1 1 _, hbb, by simp [blk_lt hbk, hbc]⟩
    refine ⟨fun g => if g < W.heap.size then c g else .lists, h2.bel, fun K => ?_⟩
    have h3 := h2.all K
    cases K <;> exact h3
  · intro g hgk
    rcases hat with ⟨A, k, e1, e2⟩ | ⟨k, hk, hl⟩
    · injection e2 with e3 e4 e5
      subst e3 e5
      have hk2 : vl.v.ownBlock = some g := by
        rw [e1]
        cases A1 with
        | none => simp [SlV.v, Value.ownBlock] at hgk
        | some a => simpa [SlV.v, Value.ownBlock] using hgk
      have := own_lt hro g hk2
      simp [this, hrc g hk2]
    · replace hgk : (Value.slice A1 (vl.n + 1) k1).ownBlock = some g := hgk
      rw [hk] at hgk
      injection hgk with e5
      simp [show ¬ g < W.heap.size from by omega]
/-- And the entry's row goes over to the Book. -/
theorem st_listsDone {vl1 u : SlV} {m : Int} (h : Store b w0 W c (fun (K : Col) => match K with
      | .book => blkP b kb 74 #[vr.v, vl1.v]
      | .lists => rowP b 90 3 vl1 ((ls ++ [(⟨u, u, m⟩ : BRow)]).flatMap (encE .i64))
      | K => stS b kb R vr vl rs ls X K)) {K1 : Col} (hK : K1.out = true) (hT : X K1 = rowP b 58 4 u (reps u.n (pL m))) (hu : u.n ≤ 1000000) :
    ∃ c', Store b w0 W c' (stS b kb R vr vl1 rs (ls ++ [⟨u, u, m⟩]) (upd X K1 empP)) := by
  have hne : K1 ≠ .lst ls.length := fun e => by rw [e] at hK; cases hK
  have h0 : (rowP b 58 4 u (reps u.n (pL m))).p (fun g => c g = K1) W := by
    have := h.all K1
    cases K1 <;> first | (simp [Col.out] at hK; done) | (rw [← hT]; exact this)
  have h1 := h.move K1 (.lst ls.length) hne (entP b 58 4 u u (pL m) (pL (m + 1)) R) ⟨u.n, 0, Nat.zero_le _, hu, rfl, rfl, h0.1, by simpa [reps] using h0.1, h0.2, h0.2, .inr ⟨rfl, rfl⟩⟩
  refine ⟨fun g => if c g = K1 then .lst ls.length else c g, h1.bel, fun K => ?_⟩
  have h2 := h1.all K
  by_cases e1 : K = K1
  · subst e1
    rw [stS_out hK, upd_same]
    exact trivial
  · rw [if_neg e1] at h2
    by_cases e2 : K = .lst ls.length
    · subst e2
      rw [if_pos rfl] at h2
      simp only [stS, List.getElem?_concat_length]
      exact h2
    · rw [if_neg e2] at h2
      cases K with
      | lst k =>
        have hk : k ≠ ls.length := fun e => e2 (by rw [e])
        simp only [stS] at h2 ⊢
        by_cases hkl : k < ls.length
        · rw [List.getElem?_append_left hkl]
          exact h2
        · rw [List.getElem?_eq_none (by simp; omega)]
          exact trivial
      | _ => first | exact h2 | (simp only [stS] at h2 ⊢; first | exact h2 | (rw [upd_ne _ _ e1]; exact h2))
end

theorem reps4_length (n : Nat) (m : Int) : (reps n (pL m)).length = n * 4 := by rw [reps_length]; rfl
/-- The four cells of an element are written over. -/
theorem own_put4 {W : World} {b e n c g i : Nat} {m : Int} {ys : List Value} (h : W.ownsRow b e 4 (.slice (some ⟨g, 0, none⟩) n c) n (reps i (pL m) ++ ys)) (hi : i < n) :
    ((((W.setCell ⟨g, i * 4, none⟩ (.int .i64 m)).setCell ⟨g, i * 4 + 1, none⟩ (.int .i64 0)).setCell ⟨g, i * 4 + 2, none⟩ (.int .i64 0)).setCell ⟨g, i * 4 + 3, none⟩ (.int .i64 0)).ownsRow b e 4 (.slice (some ⟨g, 0, none⟩) n c) n (reps (i + 1) (pL m) ++ ys.drop 4) := by
  rcases h.2 with ⟨e1, h0⟩ | ⟨g', cap, cur, e1, hb, hh, hnc, hcm, hcs, htake⟩
  · cases e1
  · cases e1
    have hl := h.1
    rw [List.length_append, reps4_length] at hl
    obtain ⟨y0, y1, y2, y3, t, rfl⟩ : ∃ y0 y1 y2 y3 t, ys = y0 :: y1 :: y2 :: y3 :: t := by
      match ys, hl with
      | y0 :: y1 :: y2 :: y3 :: t, _ => exact ⟨y0, y1, y2, y3, t, rfl⟩
      | [], h => simp at h; omega
      | [_], h => simp at h; omega
      | [_, _], h => simp at h; omega
      | [_, _, _], h => simp at h; omega
    refine ⟨?_, .inr ⟨g, c, _, rfl, hb, blk_set (blk_set (blk_set (blk_set hh _ _) _ _) _ _) _ _, hnc, hcm, by simp [hcs], ?_⟩⟩
    · rw [List.length_append, reps4_length]; simp at hl ⊢; omega
    · simp only [Array.toList_setIfInBounds, List.take_set, htake]
      have hr := reps4_length i m
      rw [List.set_append_right _ _ (by omega), List.set_append_right _ _ (by omega), List.set_append_right _ _ (by omega), List.set_append_right _ _ (by omega), hr, reps_succ, List.append_assoc]
      congr 1
      simp [pL]
theorem st_put4 {b kb R : Nat} {vr vl : SlV} {rs ls : List BRow} {X : Col → Pr} {c : Nat → Col} {w0 W : World} (h : Store b w0 W c (stS b kb R vr vl rs ls X)) {K : Col} (hK : K.out = true) {e g n k i : Nat} {m : Int} {ys : List Value} (hT : X K = rowP b e 4 ⟨some ⟨g, 0, none⟩, n, k⟩ (reps i (pL m) ++ ys)) (hi : i < n) :
    Store b w0 ((((W.setCell ⟨g, i * 4, none⟩ (.int .i64 m)).setCell ⟨g, i * 4 + 1, none⟩ (.int .i64 0)).setCell ⟨g, i * 4 + 2, none⟩ (.int .i64 0)).setCell ⟨g, i * 4 + 3, none⟩ (.int .i64 0)) c (stS b kb R vr vl rs ls (upd X K (rowP b e 4 ⟨some ⟨g, 0, none⟩, n, k⟩ (reps (i + 1) (pL m) ++ ys.drop 4)))) := by
  have h1 := st_at h hK hT
  have hg : c g = K := h1.2 g rfl
  have hbg := own_base h1.1 g rfl
  have h2 := h.mod K (rowP b e 4 ⟨some ⟨g, 0, none⟩, n, k⟩ (reps (i + 1) (pL m) ++ ys.drop 4)) ((((h.bel.setCell hbg _).setCell hbg _).setCell hbg _).setCell hbg _) (c' := c) (fun _ _ _ => rfl)
    (fun j _ hj => by
      have hne : j ≠ g := fun e => hj (by rw [e]; exact hg)
      rw [Below.heap_setCell _ _ _ j hne, Below.heap_setCell _ _ _ j hne, Below.heap_setCell _ _ _ j hne, Below.heap_setCell _ _ _ j hne]) ⟨own_put4 h1.1 hi, h1.2⟩
  rw [stS_upd hK] at h2
  exact h2

set_option maxHeartbeats 4000000 in
theorem list_any (b kb R : Nat) (vr vl u : SlV) (rs ls : List BRow) (X : Col → Pr) (c : Nat → Col) (w0 w : World) (ys : List Value) (K1 : Col) (hK : K1.out = true) (hK2 : K1 ≠ .box) (hb0 : b ≤ w0.heap.size)
    (H : Store b w0 w c (stS b kb R vr vl rs ls X)) (hX : X .box = empP) (hT : X K1 = rowP b 58 4 u ys) (hls : ls.length ≤ 100000000) (hu : u.n ≤ 1000000) :
    Calls Try.prog 47 #[.pointer (some ⟨kb, 0, none⟩), u.v] w fun e w' => e = .returned (.tuple #[]) ∧ ∃ c' vl', Store b w0 w' c' (stS b kb R vr vl' rs (ls ++ [⟨u, u, 1000 + 2 * (ls.length : Int)⟩]) (upd X K1 empP)) := by
  obtain ⟨A0, n0, k0⟩ := u
  have hown := st_at H hK hT
  obtain ⟨hbk, hbb, hbc⟩ := st_book H
  obtain ⟨hro, hrc, hrn⟩ := st_lists H
  obtain ⟨Ar, nr, kr⟩ := vr
  obtain ⟨Al, nl, kl⟩ := vl
  replace hrn : nl = ls.length := hrn
  subst hrn
  have hc0 : w.cell? ⟨kb, 1, none⟩ = some (.slice Al ls.length kl) := by rw [blk_cell hbk]; rfl
  obtain ⟨m, hm⟩ : ∃ m : Int, m = 1000 + 2 * (ls.length : Int) := ⟨_, rfl⟩
  obtain ⟨c1, H1⟩ := st_alloc H hb0 (K := .box) rfl #[.slice A0 n0 k0, .slice A0 n0 k0, .int .i64 m] 90
  have hyl : ys.length = n0 * 4 := hown.1.1
  have H0 : Aside0 (∃ c', Store b w0 (w.alloc (.cells #[.slice A0 n0 k0, .slice A0 n0 k0, .int .i64 m] 90)) c' (stS b kb R ⟨Ar, nr, kr⟩ ⟨Al, ls.length, kl⟩ rs ls (upd (upd X .box (blkP b w.heap.size 90 #[.slice A0 n0 k0, .slice A0 n0 k0, .int .i64 m])) K1 (rowP b 58 4 ⟨A0, n0, k0⟩ (reps 0 (pL m) ++ ys.drop (0 * 4)))))) :=
    ⟨c1, by rw [upd_back _ (by rw [upd_ne _ _ hK2, hT]; simp [reps])]; exact H1⟩
  have HYL := Aside0.mk hyl
  clear H H1 hbk hbc hro hrc hown hyl
  unfold SlV.v
  go_enter Try.func47, Try.ntmps47
  go_wp2
  rw [← hm]
  have HM := Aside0.mk hm
  clear hm hc0
  go_loopg [5] n0 (fun k v5 w' => ∃ i : Nat, v5 = .int .i64 i ∧ i + k = n0 ∧ Aside0 (∃ c', Store b w0 w' c' (stS b kb R ⟨Ar, nr, kr⟩ ⟨Al, ls.length, kl⟩ rs ls (upd (upd X .box (blkP b w.heap.size 90 #[.slice A0 n0 k0, .slice A0 n0 k0, .int .i64 m])) K1 (rowP b 58 4 ⟨A0, n0, k0⟩ (reps i (pL m) ++ ys.drop (i * 4)))))))
  case atStart => exact ⟨0, rfl, by omega, H0⟩
  case round =>
    clear H0
    obtain ⟨i, rfl, hik, HA⟩ := hrel
    have hx2 : wr.cell? ⟨w.heap.size, 2, none⟩ = some (.int .i64 m) := by
      obtain ⟨c', h⟩ := HA.out
      have h1 := st_at h (K := .box) rfl (by rw [upd_ne _ _ hK2.symm, upd_same])
      rw [blk_cell h1.1]; rfl
    cases gk with
    | zero =>
      obtain rfl : i = n0 := by omega
      obtain ⟨c2, hS0⟩ := HA.out
      have hS := hS0.below hb0 (below_drew (Below.refl _ _))
      obtain ⟨hbk, hbb, hbc⟩ := st_book hS0
      have hro := st_lists hS
      have hc0 : wr.cell? ⟨kb, 1, none⟩ = some (.slice Al ls.length kl) := by rw [blk_cell hbk]; rfl
      have hc0a : ∀ o, (wr.alloc o).cell? ⟨kb, 1, none⟩ = some (.slice Al ls.length kl) := fun o => by rw [blk_cell (blk_alloc hbk o)]; rfl
      have hx0 : wr.cell? ⟨w.heap.size, 0, none⟩ = some (.slice A0 i k0) := by
        have h1 := st_at hS0 (K := .box) rfl (by rw [upd_ne _ _ hK2.symm, upd_same])
        rw [blk_cell h1.1]; rfl
      have hx1 : wr.cell? ⟨w.heap.size, 1, none⟩ = some (.slice A0 i k0) := by
        have h1 := st_at hS0 (K := .box) rfl (by rw [upd_ne _ _ hK2.symm, upd_same])
        rw [blk_cell h1.1]; rfl
      have HS := Aside0.mk (And.intro hS hro)
      clear hS hS0 hro hbk hbc HA
      go_wp2
      go_region_law (refine step_append_row (w0 := w0) b (by rfl) (.tmp 32) (.tmp 34) 72 90 _ 3 56 (by rfl) Try.underlying72 info90 (by rfl) (by decide) (by decide) (.slice Al ls.length kl) ls.length (ls.flatMap (encE .i64)) (encE .i64 ⟨⟨A0, i, k0⟩, ⟨A0, i, k0⟩, m⟩) (by rfl) (by rfl) (by rfl) (fun u hu => by simp only [encE, List.mem_cons, List.not_mem_nil, or_false] at hu; rcases hu with rfl | rfl | rfl <;> rfl) HS.out.2.1 HS.out.1.bel (Nat.le_trans hb0 HS.out.1.bel.size) (by omega) ?_; intro v1 w1 hv1 hB1 hg1 _ hat1; obtain ⟨Ar1, kr1, rfl, hbk1, hfz1, hst1⟩ := st_listsApp HS.out.1 hv1 hB1 hg1 hat1; have hc1 : w1.cell? ⟨kb, 1, none⟩ = some (.slice Al ls.length kl) := (by rw [blk_cell hbk1]; rfl); have HST := Aside0.mk hst1; clear hv1 hB1 hg1 hat1 hbk1 hst1)
      all_goals go_end0
      all_goals
        refine ⟨rfl, ?_⟩
        obtain ⟨c3, h3⟩ := HST.out
        obtain ⟨c4, h4⟩ := st_listsDone h3 hK (by rw [upd_same, List.drop_of_length_le (by have := HYL.out; omega), List.append_nil]) (by show i ≤ 1000000; exact hu)
        have h5 := st_set h4 (K := .box) rfl (T := empP) trivial
        rw [upd_upd, upd_comm _ _ _ hK2, upd_upd, upd_back _ hX, HM.out] at h5
        exact ⟨_, _, h5⟩
    | succ k =>
      have hi : i < n0 := by omega
      have hi2 : (i : Int) < (n0 : Int) := by omega
      have hu1 : ∃ g, A0 = some ⟨g, 0, none⟩ ∧ (∃ z, wr.cell? ⟨g, i * 4, none⟩ = some z) ∧ (∃ z, wr.cell? ⟨g, i * 4 + 1, none⟩ = some z) ∧ (∃ z, wr.cell? ⟨g, i * 4 + 2, none⟩ = some z) ∧ (∃ z, wr.cell? ⟨g, i * 4 + 3, none⟩ = some z) ∧ (∀ j, wr.frozen? ⟨g, j, none⟩ = false) ∧ ∃ c', Store b w0 ((((wr.setCell ⟨g, i * 4, none⟩ (.int .i64 m)).setCell ⟨g, i * 4 + 1, none⟩ (.int .i64 0)).setCell ⟨g, i * 4 + 2, none⟩ (.int .i64 0)).setCell ⟨g, i * 4 + 3, none⟩ (.int .i64 0)) c' (stS b kb R ⟨Ar, nr, kr⟩ ⟨Al, ls.length, kl⟩ rs ls (upd (upd X .box (blkP b w.heap.size 90 #[.slice A0 n0 k0, .slice A0 n0 k0, .int .i64 m])) K1 (rowP b 58 4 ⟨A0, n0, k0⟩ (reps (i + 1) (pL m) ++ ys.drop ((i + 1) * 4))))) := by
        obtain ⟨c', h⟩ := HA.out
        have h1 := st_at h hK (upd_same _ _ _)
        obtain ⟨g, c2, e, h2, h3, h4⟩ := own_cell h1.1 (by show 0 < n0; omega)
        cases e
        have hl := h1.1.1
        have hcell : ∀ j, j < 4 → ∃ z, wr.cell? ⟨g, i * 4 + j, none⟩ = some z := fun j hj => ⟨_, h3 (i * 4 + j) _ (List.getElem?_eq_getElem (by rw [hl]; show i * 4 + j < n0 * 4; omega))⟩
        refine ⟨g, rfl, hcell 0 (by omega), hcell 1 (by omega), hcell 2 (by omega), hcell 3 (by omega), h4, c', ?_⟩
        have h5 := st_put4 h hK (upd_same _ _ _) hi
        rw [upd_upd, List.drop_drop, show i * 4 + 4 = (i + 1) * 4 from by omega] at h5
        exact h5
      obtain ⟨g, rfl, ⟨z0, hz0⟩, ⟨z1, hz1⟩, ⟨z2, hz2⟩, ⟨z3, hz3⟩, hf, HS⟩ := hu1
      have HS' := Aside0.mk HS
      clear HS
      go_wp2
      go_roundg k
      case measure => omega
      case rel => exact ⟨i + 1, by go_num, by omega, HS'⟩
end Go.Proofs.Ytoefligelajfkaa.Own

namespace Go.Proofs.Ytoefligelajfkaa.Block

/-- One bit of the sum. -/
def f1 (r : Nat) : Nat := if r % 2 = 1 then (r / 2) ^^^ 3988292384 else r / 2
def f4 (r : Nat) : Nat := f1 (f1 (f1 (f1 r)))
/-- The register behind so many bytes. -/
def sumR : List Int → Nat → Nat
  | [], r => r
  | x :: t, r => sumR t (f4 (f4 (r ^^^ x.toNat)))
def sumS (l : List Int) : Nat := 4294967295 - sumR l 4294967295

theorem f1_xor (a b : Nat) : f1 (a ^^^ b) = f1 a ^^^ f1 b := by
  unfold f1
  have h := @Nat.xor_mod_two_eq_one a b
  have h2 : (a ^^^ b) / 2 = a / 2 ^^^ b / 2 := Nat.xor_div_two
  rw [h2]
  generalize a / 2 = x
  generalize b / 2 = y
  generalize (3988292384 : Nat) = p
  by_cases ha : a % 2 = 1 <;> by_cases hb : b % 2 = 1
  · rw [if_neg (by rw [h]; simp [ha, hb]), if_pos ha, if_pos hb]
    rw [Nat.xor_assoc, ← Nat.xor_assoc p, Nat.xor_comm p y, Nat.xor_assoc y, Nat.xor_self, Nat.xor_zero]
  · rw [if_pos (by rw [h]; simp [ha, hb]), if_pos ha, if_neg hb, Nat.xor_assoc, Nat.xor_comm y p, Nat.xor_assoc]
  · rw [if_pos (by rw [h]; simp [ha, hb]), if_neg ha, if_pos hb, Nat.xor_assoc]
  · rw [if_neg (by rw [h]; simp [ha, hb]), if_neg ha, if_neg hb]
theorem f4_xor (a b : Nat) : f4 (a ^^^ b) = f4 a ^^^ f4 b := by simp [f4, f1_xor]
theorem f1_even (q : Nat) : f1 (2 * q) = q := by
  unfold f1
  rw [if_neg (by omega)]; omega
theorem f4_16 (q : Nat) : f4 (16 * q) = q := by
  unfold f4
  rw [show 16 * q = 2 * (2 * (2 * (2 * q))) by omega, f1_even, f1_even, f1_even, f1_even]
theorem split16 (r : Nat) : r = (16 * (r / 16)) ^^^ (r % 16) := by
  have h1 : r % 16 < 2 ^ 4 := by omega
  have := Nat.two_pow_add_eq_or_of_lt h1 (r / 16)
  have h3 : 16 * (r / 16) ||| r % 16 = (16 * (r / 16)) ^^^ (r % 16) := by
    apply Nat.eq_of_testBit_eq
    intro i
    rw [Nat.testBit_or, Nat.testBit_xor]
    by_cases hi : i < 4
    · have : (16 * (r / 16)).testBit i = false := by
        have e : 16 * (r / 16) = 2 ^ 4 * (r / 16) := rfl
        rw [e, Nat.testBit_two_pow_mul]; simp; omega
      rw [this]; simp
    · have : (r % 16).testBit i = false := Nat.testBit_lt_two_pow (Nat.lt_of_lt_of_le h1 (Nat.pow_le_pow_right (by omega) (by omega)))
      rw [this]; simp
  have h5 : 16 * (r / 16) ||| r % 16 = 16 * (r / 16) + r % 16 := this.symm
  rw [← h3, h5]
  omega
/-- Four bits at once, out of the table. -/
theorem f4_table (r : Nat) : f4 r = r / 16 ^^^ f4 (r % 16) := by
  conv => lhs; rw [split16 r]
  rw [f4_xor, f4_16]
theorem f1_lt {r : Nat} (h : r < 4294967296) : f1 r < 4294967296 := by
  unfold f1
  split
  · exact Nat.xor_lt_two_pow (n := 32) (by omega) (by omega)
  · omega
theorem f4_lt {r : Nat} (h : r < 4294967296) : f4 r < 4294967296 := f1_lt (f1_lt (f1_lt (f1_lt h)))
theorem sumR_lt : ∀ (l : List Int) (r : Nat), (∀ x ∈ l, 0 ≤ x ∧ x ≤ 255) → r < 4294967296 → sumR l r < 4294967296 := by
  intro l
  induction l with
  | nil => intro r _ h; exact h
  | cons x t ih =>
    intro r hb h
    have := hb x (by simp)
    exact ih _ (fun y hy => hb y (by simp [hy])) (f4_lt (f4_lt (Nat.xor_lt_two_pow (n := 32) h (by omega))))
theorem xor_mask {r : Nat} (h : r < 4294967296) : r ^^^ 4294967295 = 4294967295 - r := by
  have h1 : (BitVec.ofNat 32 r ^^^ BitVec.allOnes 32).toNat = (~~~ (BitVec.ofNat 32 r)).toNat := by rw [BitVec.xor_allOnes]
  rw [BitVec.toNat_xor, BitVec.toNat_not, BitVec.toNat_ofNat, BitVec.toNat_allOnes, Nat.mod_eq_of_lt h] at h1
  exact h1

/-- Two registers that differ go on to differ. -/
theorem f1_inj {a b : Nat} (ha : a < 4294967296) (hb : b < 4294967296) (h : f1 a = f1 b) : a = b := by
  have e : f1 (a ^^^ b) = 0 := by rw [f1_xor, h, Nat.xor_self]
  have hx : a ^^^ b < 4294967296 := Nat.xor_lt_two_pow (n := 32) ha hb
  have h0 : a ^^^ b = 0 := by
    generalize a ^^^ b = x at e hx
    unfold f1 at e
    split at e
    · exfalso
      have e1 : x / 2 = 3988292384 := by
        have := congrArg (· ^^^ 3988292384) e
        simp only [Nat.xor_assoc, Nat.xor_self, Nat.xor_zero, Nat.zero_xor] at this
        exact this
      omega
    · omega
  have := congrArg (· ^^^ b) h0
  simp only [Nat.xor_assoc, Nat.xor_self, Nat.xor_zero, Nat.zero_xor] at this
  exact this
theorem f4_inj {a b : Nat} (ha : a < 4294967296) (hb : b < 4294967296) (h : f4 a = f4 b) : a = b :=
  f1_inj ha hb (f1_inj (f1_lt ha) (f1_lt hb) (f1_inj (f1_lt (f1_lt ha)) (f1_lt (f1_lt hb)) (f1_inj (f1_lt (f1_lt (f1_lt ha))) (f1_lt (f1_lt (f1_lt hb))) h)))

end Go.Proofs.Ytoefligelajfkaa.Block
