import Derived.Test.YtoefligelajfkaaFind
import Derived.Test.YtoefligelajfkaaPackSpec
import Derived.Carry
namespace Go.Proofs.Ytoefligelajfkaa.Press
open Go.RowKit Go.Proofs.YtoefligelajfkaaW.PrintWords Go.Proofs.YtoefligelajfkaaW.PrintLast Go.Proofs.YtoefligelajfkaaW.PrintMore

/-- What the map tells when all places ahead of 'at' have been put in. -/
noncomputable def GAt (l : List Int) (at_ : Nat) (v : Value) : List Int := open Classical in ((List.range at_).filter fun q => decide (q + 3 ≤ l.length) && decide (keyAt l q = v)).map fun q : Nat => (q : Int)

theorem keyAt_eq (l : List Int) (q p : Nat) : keyAt l q = keyAt l p ↔ gramEq l q p = true := by
  simp [keyAt, key3, gramEq, and_assoc]
theorem GAt_at (l : List Int) (at_ p : Nat) : GAt l at_ (keyAt l p) = places l at_ p := by
  unfold GAt places
  congr 1
  apply List.filter_congr
  intro q _
  congr 1
  rw [Bool.eq_iff_iff]
  simp [keyAt_eq]
theorem GAt_zero (l : List Int) : GAt l 0 = fun _ => [] := by
  funext v; simp [GAt]
theorem GAt_skip (l : List Int) (at_ : Nat) (h : ¬ at_ + 3 ≤ l.length) : GAt l (at_ + 1) = GAt l at_ := by
  funext v
  unfold GAt
  rw [List.range_succ, List.filter_append]
  simp [h]
theorem GAt_step (l : List Int) (at_ : Nat) (h : at_ + 3 ≤ l.length) : GAt l (at_ + 1) = upd (GAt l at_) (keyAt l at_) (GAt l at_ (keyAt l at_) ++ [(at_ : Int)]) := by
  funext v
  by_cases hv : v = keyAt l at_
  · subst hv
    rw [upd_same]
    unfold GAt
    rw [List.range_succ, List.filter_append]
    simp [h]
  · rw [upd_other _ _ hv]
    unfold GAt
    rw [List.range_succ, List.filter_append]
    have : ¬ keyAt l at_ = v := fun e => hv e.symm
    simp [this]

theorem info3 : (Try.prog.info? 3).map (fun i => (i.zero, i.size, i.bytes)) = some (some (.int .i64 0), 1, 8) := by kernel_rfl

structure PInv (w : World) (l0 : List Int) (rs : List Int) (wr : World) (k : Nat) (vo : Value) (out : List Int) (flag items at_ : Nat) : Prop where
  at_le : at_ ≤ l0.length
  fuel : l0.length ≤ at_ + k
  items_le : items ≤ at_
  olen : out.length ≤ 3 * items
  fl : items % 8 ≠ 0 → FlagOk out flag (items % 8)
  run : packR l0 k out flag items at_ = rs
  own : Kd.R (Kd.int .u8) 5 wr w.heap.size (fun _ => True) vo out
  grp : Grp Try.prog 81 wr w.heap.size w.heap.size (GAt l0 at_)
  bel : Below w.heap.size w wr

/-- Behind the flag's byte. -/
structure PMid (w : World) (l0 : List Int) (wr : World) (vo : Value) (out : List Int) (flag items at_ : Nat) : Prop where
  fl : FlagOk out flag (items % 8)
  olen : out.length ≤ 3 * items + 1
  own : Kd.R (Kd.int .u8) 5 wr w.heap.size (fun _ => True) vo out
  grp : Grp Try.prog 81 wr w.heap.size w.heap.size (GAt l0 at_)
  bel : Below w.heap.size w wr

/-- Behind an item. -/
structure PEnd (w : World) (l0 rs : List Int) (wr : World) (k : Nat) (vo : Value) (out : List Int) (flag items at_ n : Nat) : Prop where
  n_pos : 1 ≤ n
  n_le : at_ + n ≤ l0.length
  fl : FlagOk out flag (items % 8 + 1)
  olen : out.length ≤ 3 * (items + 1)
  run : packR l0 k out flag (items + 1) (at_ + n) = rs
  own : Kd.R (Kd.int .u8) 5 wr w.heap.size (fun _ => True) vo out
  grp : Grp Try.prog 81 wr w.heap.size w.heap.size (GAt l0 at_)
  bel : Below w.heap.size w wr

theorem reads_two (W : World) (base : Nat) (x y : Int) (hb : base ≤ W.heap.size) :
    ReadsRow ((Kd.int .u8).K (W.alloc (.cells #[.int .u8 x, .int .u8 y] 5))) 1 (W.alloc (.cells #[.int .u8 x, .int .u8 y] 5)) (some ⟨W.heap.size, 0, none⟩) 2 [x, y] :=
  Kd.C_of_reads (h1 := fun _ => rfl) (d := (0 : Int)) (readsInt_of.1 (own_reads' (own_lit W base 5 .u8 [x, y] hb (by simp))))

theorem or_flag (fb : Int) (b : Nat) (hb : b < 8) (h0 : 0 ≤ fb) (h1 : fb < 2 ^ b) : bits .or .u8 fb (2 ^ b % 256) = fb + 2 ^ b := by
  obtain ⟨n, rfl⟩ := Int.eq_ofNat_of_zero_le h0
  have hn : n < 2 ^ b := by exact_mod_cast h1
  have h8 : (2 : Nat) ^ b < 256 := Nat.pow_lt_pow_right (by omega) hb
  have e : ((2 : Int) ^ b % 256) = ((2 ^ b : Nat) : Int) := by
    have : ((2 : Int) ^ b) = ((2 ^ b : Nat) : Int) := by simp
    rw [this]
    generalize (2 : Nat) ^ b = q at h8
    omega
  have e2 := Nat.two_pow_add_eq_or_of_lt hn 1
  rw [Nat.mul_one] at e2
  rw [e, u8_or_nat n (2 ^ b) (by omega) h8, Nat.or_comm, ← e2]
  simp [Int.add_comm]
theorem i64_join6 (x y : Int) (h0 : 0 ≤ x) (h1 : x ≤ 1023) (h2 : 0 ≤ y) (h3 : y ≤ 63) : bits .or .i64 (x * 64) y = x * 64 + y :=
  bits_join .i64 17 (by decide) (fun n a b => IntWalk.i64_in n (by omega)) 6 (x * 64) y (by omega) (by omega) (by omega) (by omega) (by omega) (by omega)

theorem R_kept {k : IntKind} {e base : Nat} {w w1 : World} {v : Value} {xs : List Int} {row : Option Nat} (h : (Kd.int k).R e w base (fun _ => True) v xs) (hg : w.grownBy w1 row) (hne : v.ownBlock = none ∨ v.ownBlock ≠ row) : (Kd.int k).R e w1 base (fun _ => True) v xs :=
  Kd.R_of_own ((Kd.own_of_R h).kept hg hne) (fun _ _ => trivial)
theorem R_ne_map {k : IntKind} {e base b : Nat} {w : World} {v : Value} {xs : List Int} {es : Array MapEntry} {clock : Nat} (h : (Kd.int k).R e w base (fun _ => True) v xs) (hb : w.heap[b]? = some (.map es clock)) : v.ownBlock = none ∨ v.ownBlock ≠ some b := by
  refine .inr fun he => ?_
  obtain ⟨cells, hc⟩ := Kd.R_typed h b he
  rw [hb] at hc; cases hc

section
variable {P : Program} {ops : Array Oper} {rest : List Oper} {o : Oper} {a : Act} {Q : Exit → Act → World → Prop} {W w1 : World}
theorem wpList_mapEntry (hgd : o.guard = none) (m x : Operand) (t : TypeId) (hop : o.op = Op.mapEntry t m x) (key r : Value) (b : Nat) (hm : a.eval m = .map (some b)) (hx : a.eval x = key)
    (hrun : (Instr.mapEntry t (.map (some b)) key).run P W = .ok r w1) (hK : wpList P ops Q rest (a.put o.dst r) w1) : wpList P ops Q (o :: rest) a W := by
  refine wpList_plain hgd fun K hK' => ?_
  unfold Oper.wp
  simp [execOp, hop, hm, hx, hrun, Result.andThen]
  exact hK' _ _ hK
theorem wpList_entryStore (hgd : o.guard = none) (m x y : Operand) (t : TypeId) (hop : o.op = Op.entryStore t m x y) (s v : Value) (b : Nat) (hm : a.eval m = .map (some b)) (hx : a.eval x = s) (hy : a.eval y = v)
    (hrun : (Instr.entryStore t (.map (some b)) s v).run P W = .ok () w1) (hK : wpList P ops Q rest (a.put o.dst undef) w1) : wpList P ops Q (o :: rest) a W := by
  refine wpList_plain hgd fun K hK' => ?_
  unfold Oper.wp
  simp [execOp, hop, hm, hx, hy, hrun, Result.andThen]
  exact hK' _ _ hK
end

theorem box_reads {wA w7 : World} {base b : Nat} {x : Int} (hb : b < wA.heap.size) (hbase : base ≤ wA.heap.size) (hg : (wA.alloc (.cells #[.int .i64 x] 3)).grownBy w7 (some b)) : (Kd.int .i64).C w7 (some ⟨wA.heap.size, 0, none⟩) 1 [x] := by
  have h := own_lit wA base 3 .i64 [x] hbase (by simp)
  have h' := h.kept hg (.inr (by simp [Value.ownBlock]; omega))
  exact Kd.C_of_reads (h1 := fun _ => rfl) (d := (0 : Int)) (readsInt_of.1 (own_reads' h'))

/-- What is known behind 'g[k]' is looked up for the append. -/
structure PEntry (w : World) (l0 out2 : List Int) (u5 : Value) (a2 : Nat) (w5 : World) (v6 : Value) (st : Nat) (w7 : World) : Prop where
  val : Kd.R (Kd.int .i64) 3 w7 w.heap.size (fun _ => True) v6 (GAt l0 a2 (keyAt l0 a2))
  box : (Kd.int .i64).C w7 (some ⟨w5.heap.size + 1, 0, none⟩) 1 [(a2 : Int)]
  bel : Below w.heap.size w w7
  row : Kd.R (Kd.int .u8) 5 w7 w.heap.size (fun _ => True) u5 out2
  ne3 : u5.ownBlock = none ∨ u5.ownBlock ≠ v6.ownBlock
  neb : u5.ownBlock = none ∨ u5.ownBlock ≠ some w.heap.size
  back : ∀ (w2 : World) (v' : Value) (zs : List Int), w7.grownBy w2 v6.ownBlock → (Kd.int .i64).R 3 w2 w.heap.size (fun _ => True) v' zs → (v'.ownBlock = v6.ownBlock ∨ ∃ q, v'.ownBlock = some q ∧ w7.heap.size ≤ q) →
        ∃ w3, (Instr.entryStore 78 (.map (some w.heap.size)) (.int .i64 st) v').run Try.prog w2 = .ok () w3 ∧ Grp Try.prog 81 w3 w.heap.size w.heap.size (upd (GAt l0 a2) (keyAt l0 a2) zs) ∧ w2.grownBy w3 (some w.heap.size)

theorem pack_entry {w w5 : World} {l0 out2 : List Int} {u5 : Value} {a2 : Nat} (hby : ∀ x ∈ l0, 0 ≤ x ∧ x ≤ 255) (hG : Grp Try.prog 81 w5 w.heap.size w.heap.size (GAt l0 a2)) (hR : Kd.R (Kd.int .u8) 5 w5 w.heap.size (fun _ => True) u5 out2)
    (hB : Below w.heap.size w w5) (x0 x1 x2 : Int) (hk : keyAt l0 a2 = .agg #[.int .u8 x0, .int .u8 x1, .int .u8 x2]) :
    ∃ (v6 : Value) (st : Nat) (w7 : World), (Instr.mapEntry 78 (.map (some w.heap.size)) (.agg #[.int .u8 x0, .int .u8 x1, .int .u8 x2])).run Try.prog ((w5.alloc (.cells #[.int .u8 x0, .int .u8 x1, .int .u8 x2] 81)).alloc (.cells #[.int .i64 (a2 : Int)] 3)) = .ok (.tuple #[v6, .int .i64 st]) w7 ∧
      PEntry w l0 out2 u5 a2 w5 v6 st w7 := by
  obtain ⟨kl, hkl⟩ := keyOf_at hby a2
  have hG6 := hG.below (below_alloc (below_alloc (Below.refl _ _) (.cells #[.int .u8 x0, .int .u8 x1, .int .u8 x2] 81)) (.cells #[.int .i64 (a2 : Int)] 3))
  have hR6 := Kd.R_alloc (Kd.R_alloc hR (.cells #[.int .u8 x0, .int .u8 x1, .int .u8 x2] 81)) (.cells #[.int .i64 (a2 : Int)] 3)
  obtain ⟨v6, st, w7, hme, hv7, hg7, hsz7, hback⟩ := hG6.entry K81 Try.underlying78 zero83 hkl
  have hlt := hG.lt
  have hneb : u5.ownBlock = none ∨ u5.ownBlock ≠ some w.heap.size := by
    obtain ⟨es, clock, hb, _⟩ := hG
    exact R_ne_map hR hb
  have hR7 := R_kept hR6 hg7 hneb
  have hsz : (w5.alloc (.cells #[.int .u8 x0, .int .u8 x1, .int .u8 x2] 81)).heap.size = w5.heap.size + 1 := by simp
  have hbox := box_reads (base := 0) (by rw [hsz]; omega) (Nat.zero_le _) hg7
  rw [hsz] at hbox
  rw [hk] at hme
  exact ⟨v6, st, w7, hme, hv7, hbox, (below_alloc (below_alloc hB _) _).grown hg7 (by simp; have := hB.size; omega) (fun k hk => by cases hk; exact Nat.le_refl _), hR7, own_type_ne (Kd.own_of_R hR7) (Kd.own_of_R hv7) (by decide), hneb, hback⟩

set_option maxHeartbeats 4000000 in
set_option maxRecDepth 100000 in
theorem pack_walk (A0 : Option Addr) (c0 : Nat) (l0 : List Int) (w : World) (hr0 : Kd.C (Kd.int .u8) w A0 l0.length l0) (hby : ∀ x ∈ l0, 0 ≤ x ∧ x ≤ 255) (hl : l0.length ≤ 4096) :
    Calls Try.prog 20 #[.slice A0 l0.length c0] w fun e w' => ∃ v, e = .returned (.tuple #[v, .int .i64 0]) ∧
      Kd.R (Kd.int .u8) 5 w' w.heap.size (fun _ => True) v (packR l0 l0.length [] 0 0 0) ∧ Below w.heap.size w w' := by
  obtain ⟨i0, hi, hz0, hz1, hz2⟩ := info_parts info5
  have HI := Aside0.mk (⟨hi, hz0, hz1, hz2⟩ : Try.prog.info? 5 = some i0 ∧ i0.zero = some (.int .u8 0) ∧ i0.size = 1 ∧ i0.bytes = 1)
  clear hi hz0 hz1 hz2
  obtain ⟨rs, hrs⟩ : ∃ rs, packR l0 l0.length [] 0 0 0 = rs := ⟨_, rfl⟩
  rw [hrs]
  have HRS := Aside0.mk hrs
  clear hrs
  have HR0 := Aside0.mk hr0
  clear hr0
  have hl1 : (l0.length : Int) ≤ 4096 := by omega
  have hl2 : decide ((4096 : Int) < (l0.length : Int)) = false := by simp; omega
  have hl3 : decide (4096 < l0.length) = false := by simp; omega
  have hmm := @run_makeMap Try.prog
  go_enter Try.func20, Try.ntmps20
  go_wp2_with (at_make; refine wpList_make_own _ rfl _ _ 22 rfl w.heap.size 5 i0 (.int .u8 0) 1 Try.underlying22 HI.out.1 HI.out.2.1 HI.out.2.2.1 .i64 .i64 _ (l0.length + (l0.length + 7) / 8) rfl rfl (by omega) (by rw [HI.out.2.2.2]; omega) (by simp only [maxLen]; omega) (by simp) ?_)
  intro w1 hown hgrow
  have HS : PInv w l0 rs w1 l0.length (.slice (some ⟨w.heap.size + 1, 0, none⟩) 0 (l0.length + (l0.length + 7) / 8)) [] 0 0 0 := by
    refine ⟨Nat.zero_le _, by omega, Nat.le_refl _, by simp, fun h => absurd rfl h, HRS.out, Kd.R_of_own (by simp [encs]; simpa using hown) (fun _ _ => trivial), ?_, ?_⟩
    · rw [GAt_zero]
      refine Grp.step (Grp.made Try.prog 81 w w.heap.size) fun j hj _ => ?_
      exact hgrow.block j hj (by simp)
    · exact ((Below.refl _ _).alloc (Nat.le_refl _) _).grown hgrow (by simp) (by simp)
  clear hown hgrow
  go_wp2
  go_loopg [5, 6, 7, 8] (l0.length) (fun k v5 v6 v7 v8 w' => ∃ (out : List Int) (flag items at_ : Nat), v6 = .int .i64 flag ∧ v7 = .int .i64 items ∧ v8 = .int .i64 at_ ∧ PInv w l0 rs w' k v5 out flag items at_)
  case atStart => exact ⟨[], 0, 0, 0, rfl, rfl, rfl, HS⟩
  case round =>
    clear HS
    obtain ⟨out, flag, items, at_, rfl, rfl, rfl, HI0⟩ := hrel
    obtain ⟨Ao, co, eo⟩ := Kd.R_slice HI0.own
    subst eo
    by_cases hat : at_ < l0.length
    · have hat1 : (at_ : Int) < (l0.length : Int) := by omega
      have hit : items ≤ 4096 := by have := HI0.items_le; omega
      have hol : out.length ≤ 12288 := by have := HI0.olen; omega
      cases gk with
      | zero => exact absurd HI0.fuel (by omega)
      | succ k =>
      go_upto_if 33 with (fail)
      go_cut [5, 6] (fun v5 v6 wc => ∃ flag1 : Nat, v6 = .int .i64 flag1 ∧ flag1 = (if items % 8 = 0 then out.length else flag) ∧ PMid w l0 wc v5 (if items % 8 = 0 then out ++ [0] else out) flag1 items at_)
      case first =>
        by_cases h8 : items % 8 = 0
        · have h81 : ((items : Int) % 8 == 0) = true := by simp; omega
          have H8 := Aside0.mk h8
          clear h8
          go_wp2_with (at_builtin; refine Kd.R_append (Kd.int .u8) (w0 := w) w.heap.size rfl (.tmp 36) (.tmp 37) 22 5 (.int .u8 0) 1 rfl Try.underlying22 info5 rfl (by decide) (by omega) (.slice Ao out.length co) out 0 [.int .u8 0] (fun _ => True) (fun _ => False) rfl rfl rfl (fun _ hk => hk.elim) (fun _ _ => trivial) HI0.own HI0.bel HI0.bel.size (by omega) ?_; intro v1 w2 ho hb hg hat')
          go_meet
          case rel =>
            refine ⟨out.length, rfl, by rw [if_pos H8.out], ?_⟩
            rw [if_pos H8.out]
            refine ⟨by rw [H8.out]; exact FlagOk.new out, by have := HI0.olen; simp; omega, ho, ?_, hb⟩
            exact HI0.grp.grown (v := .slice Ao out.length co) (e' := 5) (Kd.own_of_R HI0.own) (by decide) hg
        · have h81 : ((items : Int) % 8 == 0) = false := by simp; omega
          have H8 := Aside0.mk h8
          clear h8
          go_wp2
          go_meet
          case rel =>
            refine ⟨flag, rfl, by rw [if_neg H8.out], ?_⟩
            rw [if_neg H8.out]
            exact ⟨HI0.fl H8.out, by have := HI0.olen; omega, HI0.own, HI0.grp, HI0.bel⟩
      case rest =>
        obtain ⟨flag1, rfl, hfl1, HM⟩ := hcut
        obtain ⟨out1, ho1⟩ : ∃ o, o = (if items % 8 = 0 then out ++ [0] else out) := ⟨_, rfl⟩
        have hrun := HI0.run
        rw [packR, if_pos hat, ← hfl1, ← ho1] at hrun
        rw [← ho1] at HM
        have hb := fnd_bounds l0 at_
        have hfe : findS (GAt l0 at_ (keyAt l0 at_)) l0 at_ = fnd l0 at_ := by rw [GAt_at]; rfl
        obtain ⟨nn, bk, hnb⟩ : ∃ nn bk, fnd l0 at_ = (nn, bk) := ⟨_, _, rfl⟩
        rw [hnb] at hb hrun hfe
        have HFE := Aside0.mk hfe
        have HRUN := Aside0.mk hrun
        clear hfe hrun hfl1 ho1 hnb
        go_upto_if 47 with (go_at_call 50; refine (find_any _ _ _ _ _ _ _ _ HM.grp (Kd.C_below HR0.out HM.bel) hby hl (by omega) ?_ ?_).mono ?_; (· rw [GAt_at]; exact fun x hx => places_mem hx); (· rw [GAt_at]; have := places_length l0 at_ at_; omega); rw [HFE.out]; rintro e w3 ⟨rfl, hb3⟩)
        have HM3 : PMid w l0 w3 u5 out1 flag1 items at_ := ⟨HM.fl, HM.olen, Kd.R_below HM.own hb3, HM.grp.below hb3, below_step HM.bel hb3⟩
        clear HM hb3
        go_cut [5, 9] (fun v5 v9 wc => ∃ (out2 : List Int) (n1 : Nat), v9 = .int .i64 n1 ∧ PEnd w l0 rs wc k v5 out2 flag1 items at_ n1)
        case first =>
          obtain ⟨Ao1, co1, eo1⟩ := Kd.R_slice HM3.own
          subst eo1
          have hol1 : out1.length ≤ 12289 := by have := HM3.olen; omega
          by_cases hn0 : nn = 0
          · have hn01 : ((nn : Int) == 0) = true := by simp [hn0]
            have HN0 := Aside0.mk hn0
            clear hn0
            obtain ⟨ad, e0, hx⟩ := Kd.at_int (Kd.C_below HR0.out HM3.bel) (at_ : Int) (by omega) (by omega)
            cases e0
            simp only [Int.toNat_natCast] at hx
            go_wp2_with (at_builtin; refine Kd.R_append (Kd.int .u8) (w0 := w) w.heap.size rfl (.tmp 48) (.tmp 53) 22 5 (.int .u8 0) 1 rfl Try.underlying22 info5 rfl (by decide) (by omega) (.slice Ao1 out1.length co1) out1 (rd l0 at_) [.int .u8 (rd l0 at_)] (fun _ => True) (fun _ => False) rfl rfl rfl (fun _ hk => hk.elim) (fun _ _ => trivial) HM3.own HM3.bel HM3.bel.size (by omega) ?_; intro v1 w4 ho hb4 hg4 hat')
            go_meet
            case rel =>
              have hr := HRUN.out
              rw [if_pos HN0.out] at hr
              exact ⟨out1 ++ [rd l0 at_], 1, rfl, by omega, by omega, (HM3.fl.append _).up, by have := HM3.olen; simp; omega, by rw [rd_nat]; exact hr, ho, HM3.grp.grown (Kd.own_of_R HM3.own) (by decide) hg4, hb4⟩
          · have hn01 : ((nn : Int) == 0) = false := by simp [hn0]
            have hbb := hb.resolve_left hn0
            have HN0 := Aside0.mk hn0
            clear hn0 hb
            have hbb' := hbb
            obtain ⟨hb1, hb2, hb3, hb4, hb5, hb6⟩ := hbb'
            obtain ⟨v, hv⟩ : ∃ v : Nat, v = (bk - 1) * 64 + (nn - 3) := ⟨_, rfl⟩
            have hv1 : bits .or .i64 (((bk : Int) - 1) * 64) ((nn : Int) - 3) = (v : Int) := by
              rw [i64_join6 _ _ (by omega) (by omega) (by omega) (by omega)]; omega
            have hv2 : v ≤ 65535 := by omega
            have HV := Aside0.mk hv
            clear hv hbb
            go_wp2_with (at_builtin; go_loud (refine Kd.R_append_rows (Kd.int .u8) (w0 := w) w.heap.size rfl (.tmp 61) (.tmp 67) 22 5 (.int .u8 0) 1 rfl Try.underlying22 info5 rfl (by decide) (by omega) (.slice Ao1 out1.length co1) out1 [(v : Int) / 256, (v : Int) % 256] (some ⟨w3.heap.size, 0, none⟩) 2 2 (fun _ => True) (fun _ => False) rfl rfl (Kd.R_alloc HM3.own _) (reads_two w3 w.heap.size _ _ HM3.bel.size) (fun _ _ h => h) (fun _ hk => hk.elim) (fun _ _ => trivial) (below_alloc HM3.bel _) (by simp; have := HM3.bel.size; omega) (by omega) ?_); intro v1 w4 ho hb7 hg4 hat')
            obtain ⟨out3, ho3⟩ : ∃ o, o = out1 ++ [(v : Int) / 256, (v : Int) % 256] := ⟨_, rfl⟩
            rw [← ho3] at ho
            have hfk : FlagOk out3 flag1 (items % 8) := by rw [ho3]; exact HM3.fl.append _
            have hflt := hfk.lt
            obtain ⟨g, cap, ev1, hgb, hglt, cells, hcells⟩ := Kd.R_form ho (by omega)
            subst ev1
            obtain ⟨hc, hz⟩ := Kd.R_celln (0 : Int) ho (flag1 : Int) (by omega) (by omega)
            simp only [Int.toNat_natCast] at hc hz
            obtain ⟨fb, hfb⟩ : ∃ fb : Int, rdOf 0 out3 (flag1 : Int) = fb := ⟨_, rfl⟩
            rw [hfb] at hc
            have hflt1 : (flag1 : Int) < (out3.length : Int) := by omega
            have HQ := Aside0.mk (⟨ho, hb7, hcells⟩ : Kd.R (Kd.int .u8) 5 w4 w.heap.size (fun _ => True) (.slice (some ⟨g, 0, none⟩) out3.length cap) out3 ∧ Below w.heap.size w w4 ∧ w4.heap[g]? = some (.cells cells 5 (0, 0)))
            have HO3 := Aside0.mk (⟨ho3, hfb⟩ : out3 = out1 ++ [(v : Int) / 256, (v : Int) % 256] ∧ rdOf 0 out3 (flag1 : Int) = fb)
            have HG3 := Aside0.mk ((HM3.grp.below (below_alloc (Below.refl _ _) _)).grown (Kd.own_of_R (Kd.R_alloc HM3.own _)) (by decide) hg4)
            clear ho hb7 hcells ho3 hfb hg4 hat' hfk
            go_region
            go_wp2
            go_meet
            case rel =>
              have hr := HRUN.out
              rw [if_neg HN0.out] at hr
              have hfk : FlagOk out3 flag1 (items % 8) := by rw [HO3.out.1]; exact HM3.fl.append _
              have hfd : fb = out3.getD flag1 0 := by rw [← HO3.out.2]; simp [rdOf]
              have hor : bits .or .u8 fb (2 ^ (items % 8) % 256) = fb + 2 ^ (items % 8) := or_flag fb (items % 8) (by omega) (by rw [hfd]; exact hfk.lo) (by rw [hfd]; exact hfk.hi)
              have hmk : mark out3 flag1 (items % 8) = out3.set flag1 (fb + 2 ^ (items % 8)) := by rw [mark, hfd]
              have hR := Kd.R_drew (Kd.R_putn (enc := Value.int .u8) (h1 := fun _ => rfl) HQ.out.1 (flag1 : Int) (fb + 2 ^ (items % 8)))
              simp only [Int.toNat_natCast] at hR
              have hiv : itemV (nn, bk) = (v : Int) := by rw [itemV, HV.out]
              rw [hor]
              refine ⟨mark out3 flag1 (items % 8), nn, rfl, by omega, by omega, hfk.mark, ?_, ?_, ?_, ?_, ?_⟩
              · rw [mark_length, HO3.out.1]; have := HM3.olen; simp; omega
              · rw [hiv, ← HO3.out.1] at hr; exact hr
              · rw [hmk]; exact hR
              · refine HG3.out.step fun j hj hcc => ?_
                show (w4.setCell _ _).heap[j]? = _
                refine Below.heap_setCell _ _ _ _ ?_
                intro hjg
                have hjg : j = g := hjg
                rcases hcc with hcc | ⟨cells', hcc⟩
                · obtain ⟨es, clock, hes, _⟩ := HG3.out
                  rw [← hcc, hjg, HQ.out.2.2] at hes
                  exact absurd hes (by simp)
                · rw [hjg, HQ.out.2.2] at hcc
                  injection hcc with hcc
                  injection hcc with _ ht
                  exact absurd ht (by decide)
              · exact (HQ.out.2.1.setCell hgb _).drew
        case rest =>
          obtain ⟨out2, n1, rfl, HE⟩ := hcut
          have hfu := HI0.fuel
          have hitl := HI0.items_le
          clear HRUN HFE HI0 HM3 hb
          have hn1 : n1 ≤ 4096 := by have := HE.n_le; omega
          have hn2 : at_ + n1 ≤ l0.length := HE.n_le
          have HE0 := Aside0.mk HE
          clear HE
          go_wp2
          go_loopg [8, 9] n1 (fun j v8 v9 w' => ∃ a2 : Nat, v8 = .int .i64 a2 ∧ v9 = .int .i64 (j : Int) ∧ a2 + j ≤ at_ + n1 ∧ at_ + n1 ≤ a2 + j ∧ Aside0 (Kd.R (Kd.int .u8) 5 w' w.heap.size (fun _ => True) u5 out2 ∧ Grp Try.prog 81 w' w.heap.size w.heap.size (GAt l0 a2) ∧ Below w.heap.size w w'))
          case atStart => exact ⟨at_, rfl, rfl, Nat.le_refl _, Nat.le_refl _, ⟨HE0.out.own, HE0.out.grp, HE0.out.bel⟩⟩
          case round =>
            obtain ⟨a2, rfl, rfl, hal1, hal2, HA⟩ := hrel
            cases gk with
            | zero =>
              go_wp2
              go_roundg k
              case measure => omega
              case rel =>
                have e2 : a2 = at_ + n1 := by omega
                subst e2
                have hE := HE0.out
                refine ⟨out2, flag1, items + 1, at_ + n1, rfl, by go_num, rfl, by omega, by have := hE.n_pos; omega, by have := hE.n_pos; omega, hE.olen, fun h => ?_, hE.run, HA.out.1, HA.out.2.1, HA.out.2.2⟩
                have : (items + 1) % 8 = items % 8 + 1 := by omega
                rw [this]; exact hE.fl
            | succ j =>
              have hal3 : a2 < l0.length := by omega
              have hj1 : (0 : Int) < ((j + 1 : Nat) : Int) := by omega
              by_cases h3 : a2 + 3 ≤ l0.length
              · have h31 : (a2 : Int) + 3 ≤ (l0.length : Int) := by omega
                obtain ⟨x0, hx0⟩ : ∃ x, l0.getD a2 0 = x := ⟨_, rfl⟩
                obtain ⟨x1, hx1⟩ : ∃ x, l0.getD (a2 + 1) 0 = x := ⟨_, rfl⟩
                obtain ⟨x2, hx2⟩ : ∃ x, l0.getD (a2 + 2) 0 = x := ⟨_, rfl⟩
                have HKY : Aside0 (keyAt l0 a2 = .agg #[.int .u8 x0, .int .u8 x1, .int .u8 x2]) := ⟨by rw [← hx0, ← hx1, ← hx2]; rfl⟩
                clear hx0 hx1 hx2
                go_wp2_with (first
                  | (go_at_call 51; refine (gram_at _ _ _ _ _ (Kd.C_below HR0.out HA.out.2.2) h3 (by omega)).mono ?_; rw [HKY.out]; rintro e w5 ⟨rfl, hb5⟩; obtain ⟨v6, st, w7, hme, HX7⟩ := pack_entry hby (HA.out.2.1.below hb5) (Kd.R_below HA.out.1 hb5) (below_step HA.out.2.2 hb5) x0 x1 x2 HKY.out; clear hb5)
                  | (at_builtin; refine Kd.R_append_rows (Kd.int .i64) (w0 := w) w.heap.size rfl (.tmp 92) (.tmp 94) 83 3 (.int .i64 0) 8 rfl Try.underlying83 info3 rfl (by decide) (by omega) v6 (GAt l0 a2 (keyAt l0 a2)) [(a2 : Int)] (some ⟨w5.heap.size + 1, 0, none⟩) 1 1 (fun _ => True) (fun _ => False) rfl rfl HX7.val HX7.box (fun _ _ h => h) (fun _ hk => hk.elim) (fun _ _ => trivial) HX7.bel HX7.bel.size (by rw [GAt_at]; have := places_length l0 a2 a2; omega) ?_; intro v8 w8 ho8 hb8 hg8 hat8; obtain ⟨w9, hes, hG9, hg9⟩ := HX7.back w8 v8 _ hg8 ho8 hat8; have H9 := Aside0.mk (⟨R_kept (R_kept HX7.row hg8 HX7.ne3) hg9 HX7.neb, hG9, hb8.grown hg9 (Nat.le_trans hb8.size (Nat.le_refl _)) (fun k hk => by cases hk; exact Nat.le_refl _)⟩ : Kd.R (Kd.int .u8) 5 w9 w.heap.size (fun _ => True) u5 out2 ∧ Grp Try.prog 81 w9 w.heap.size w.heap.size (upd (GAt l0 a2) (keyAt l0 a2) (GAt l0 a2 (keyAt l0 a2) ++ [(a2 : Int)])) ∧ Below w.heap.size w w9); clear hG9 hg9 ho8 hb8 hg8 hat8))
                go_roundg j
                case measure => omega
                case rel => exact ⟨a2 + 1, by go_num, by go_num, by omega, by omega, ⟨H9.out.1, by rw [GAt_step _ _ h3]; exact H9.out.2.1, H9.out.2.2⟩⟩
              · have h31 : (l0.length : Int) < (a2 : Int) + 3 := by omega
                go_wp2
                go_roundg j
                case measure => omega
                case rel => exact ⟨a2 + 1, by go_num, by go_num, by omega, by omega, ⟨HA.out.1, by rw [GAt_skip _ _ h3]; exact HA.out.2.1, HA.out.2.2⟩⟩
    · have hat0 : at_ = l0.length := by have := HI0.at_le; omega
      have hat1 : (l0.length : Int) ≤ (at_ : Int) := by omega
      have hr := HI0.run
      have : packR l0 gk out flag items at_ = out := by cases gk <;> simp [packR, hat]
      rw [this] at hr
      subst hr
      clear this hat0
      go_wp2
      go_ret2
      exact ⟨_, rfl, HI0.own, HI0.bel⟩

/-- press.Pack of any bytes. -/
theorem pack_any (A0 : Option Addr) (c0 : Nat) (l0 : List Int) (w : World) (hr0 : Kd.C (Kd.int .u8) w A0 l0.length l0) (hby : ∀ x ∈ l0, 0 ≤ x ∧ x ≤ 255) (hl : l0.length ≤ 140737488355328) :
    Calls Try.prog 20 #[.slice A0 l0.length c0] w fun e w' => ∃ v, e = .returned (.tuple #[v, .int .i64 (packS l0).2]) ∧
      Kd.R (Kd.int .u8) 5 w' w.heap.size (fun _ => True) v (packS l0).1 ∧ Below w.heap.size w w' := by
  by_cases h : l0.length > 4096
  · have hs : packS l0 = ([], 2) := by unfold packS; rw [if_pos h]
    rw [hs]
    have h1 : (4096 : Int) < (l0.length : Int) := by omega
    go_enter Try.func20, Try.ntmps20
    go_wp2
    go_ret2
    exact ⟨_, rfl, Kd.R_nil _ _ _ _ _, Below.refl _ _⟩
  · have hs : packS l0 = (packR l0 l0.length [] 0 0 0, 0) := by unfold packS; rw [if_neg h]
    rw [hs]
    exact pack_walk A0 c0 l0 w hr0 hby (by omega)
end Go.Proofs.Ytoefligelajfkaa.Press
