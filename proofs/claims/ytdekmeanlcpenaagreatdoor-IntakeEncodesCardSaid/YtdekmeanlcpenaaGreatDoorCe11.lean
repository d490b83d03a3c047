import Derived.Test.YtdekmeanlcpenaaGreatDoorCe10
import Derived.Test.YtdekmeanlcpenaaGreatDoorCe3
import Derived.Test.YtdekmeanlcpenaaGreatDoorCe7
import Derived.Test.YtdekmeanlcpenaaGreatDoorCe8
import Derived.Test.YtdekmeanlcpenaaGreatDoorCe9
import Derived.Test.YtdekmeanlcpenaaGreatDoorPIntakeEncodesx0
set_option linter.unusedSimpArgs false
set_option linter.unusedVariables false
namespace Go.Proofs.YtdekmeanlcpenaaGreatDoor.Codec
open Go.RowKit Go.Proofs.YtdekmeanlcpenaaGreatDoorW.PrintWords Go.Proofs.YtdekmeanlcpenaaGreatDoorW.PrintLast Go.Proofs.YtdekmeanlcpenaaGreatDoorW.PrintMore Go.Proofs.YtdekmeanlcpenaaGreatDoor.Mid Go.Proofs.YtdekmeanlcpenaaGreatDoor.Block Go.Proofs.YtdekmeanlcpenaaGreatDoor.PIntakeEncodes
set_option maxHeartbeats 4000000
set_option maxRecDepth 100000
set_option linter.unusedVariables false
theorem rfx_any (v : Nat) (hv : v < 4294967296) (w : World) : Calls Tryz.prog 58 #[.int .i64 v, .int .i64 4] w fun e w' => ∃ A c, e = .returned (.slice A 4 c) ∧ Kd.R (Kd.int .u8) 5 w' w.heap.size (fun _ => True) (.slice A (fixW v 4).length c) (fixW v 4) ∧ Below w.heap.size w w' :=
  (freightref1_Fixed.calls 5 v 4 _ w (fixed_f v hv)).mono fun e w' ⟨v0, h1, h2, h3⟩ => by
    obtain ⟨A, c, rfl⟩ := Kd.R_slice h2
    exact ⟨A, c, by rw [h1, fixW_length], h2, h3⟩
theorem rnu_any (v : Nat) (hv : v ≤ 2147483647) (w : World) : Calls Tryz.prog 59 #[.int .i64 v] w fun e w' => ∃ A c, e = .returned (.slice A (numW v).length c) ∧ Kd.R (Kd.int .u8) 5 w' w.heap.size (fun _ => True) (.slice A (numW v).length c) (numW v) ∧ Below w.heap.size w w' :=
  (freightref1_Number.calls 6 v _ w (number_f v hv)).mono fun e w' ⟨v0, h1, h2, h3⟩ => by
    obtain ⟨A, c, rfl⟩ := Kd.R_slice h2
    exact ⟨A, c, h1, h2, h3⟩
theorem rtx_any (A0 : Option Addr) (c0 : Nat) (l : List Int) (n : Nat) (hn : l.length = n) (w : World) (hC : Kd.C (Kd.int .u8) w A0 n l) (hc : n ≤ c0) (hl : n ≤ 1000000) : Calls Tryz.prog 57 #[.slice A0 n c0] w fun e w' => ∃ A c, e = .returned (.slice A (txtW l).length c) ∧ Kd.R (Kd.int .u8) 5 w' w.heap.size (fun _ => True) (.slice A (txtW l).length c) (txtW l) ∧ Below w.heap.size w w' := by
  subst hn
  exact (freightref1_Text.calls 6 A0 c0 l _ w hC hc (text_f l hl)).mono fun e w' ⟨v0, h1, h2, h3⟩ => by
    obtain ⟨A, c, rfl⟩ := Kd.R_slice h2
    exact ⟨A, c, h1, h2, h3⟩
theorem rsu_any (A0 : Option Addr) (c0 : Nat) (l : List Int) (w : World) (hC : Kd.C (Kd.int .u8) w A0 l.length l) (hc : l.length ≤ c0) (hb : Byt l) (hl : l.length ≤ 1000000) : Calls Tryz.prog 60 #[.slice A0 l.length c0] w fun e w' => e = .returned (.int .i64 ((sumS l : Nat) : Int)) ∧ Below w.heap.size w w' :=
  (freightref1_Sum.calls (10 * l.length + 1) A0 c0 l _ w hC hc (sum_f l hb hl)).mono fun e w' h => ⟨h.1, h.2.below⟩
/-- The bytes of a form, so far. -/
structure EI (W w : World) (v : Value) (out : List Int) : Prop where
  r : Kd.R (Kd.int .u8) 5 w W.heap.size (fun _ => True) v out
  bel : Below W.heap.size W w
theorem EI.below {W w w1 : World} {v : Value} {out : List Int} (h : EI W w v out) (hb : Below w.heap.size w w1) : EI W w1 v out := ⟨Kd.R_below h.r hb, below_step h.bel hb⟩
theorem own_tight {w : World} {b : Nat} {v : Value} {xs : List Int} (h : Kd.R (Kd.int .u8) 5 w b (fun _ => True) v xs) : Kd.R (Kd.int .u8) 5 w b (fun k => some k = v.ownBlock) v xs := Kd.R_tight rfl h
/-- Bytes behind bytes; what else is one's own stays. -/
theorem rput_any (W w : World) (A : Option Addr) (c : Nat) (a : List Int) (A1 : Option Addr) (c1 : Nat) (l : List Int) (h : EI W w (.slice A a.length c) a) (b : Nat) (hx : Kd.R (Kd.int .u8) 5 w b (fun _ => True) (.slice A1 l.length c1) l) (hne : ∀ k, (Value.slice A a.length c).ownBlock = some k → k < b) (ha : a.length ≤ 1000000) (hl : l.length ≤ 1000000) :
    Calls Tryz.prog 56 #[.slice A a.length c, .slice A1 l.length c1] w fun e w' => ∃ A2 c2, e = .returned (.slice A2 (a ++ l).length c2) ∧ EI W w' (.slice A2 (a ++ l).length c2) (a ++ l) ∧ Kept w w' (fun k => some k = (Value.slice A a.length c).ownBlock) ∧ (∀ k, (Value.slice A2 (a ++ l).length c2).ownBlock = some k → (Value.slice A a.length c).ownBlock = some k ∨ w.heap.size ≤ k) :=
  (freightref16_put.calls (l.length + 1) (fun k => some k = (Value.slice A a.length c).ownBlock) _ a A1 c1 l _ W w h.bel (own_tight h.r)
    (fun W_ hk => (Kd.R_reads' (Kd.R_kept (own_tight hx) hk (fun k hk1 hk2 => by have h1 := Kd.R_base hx k hk1.symm; have h2 := hne k hk2.symm; omega))).2.2) (Kd.R_reads' hx).2.1 (put_f a l ha hl)).mono fun e w' ⟨v0, h1, h2, h3, h4⟩ => by
    obtain ⟨A2, c2, rfl⟩ := Kd.R_slice h2
    refine ⟨A2, c2, h1, ⟨Kd.R_mono h2 (fun _ _ => trivial), h3⟩, h4, fun k hk => ?_⟩
    rcases h2.1 k hk with h5 | h5
    · exact .inl h5.symm
    · exact .inr h5
/-- A row of one's own that a put leaves as it is. -/
theorem R_put_kept {w w1 : World} {b : Nat} {v u : Value} {xs : List Int} (h : Kd.R (Kd.int .u8) 5 w b (fun _ => True) v xs) (hk : Kept w w1 (fun k => some k = u.ownBlock)) (hne : ∀ k, v.ownBlock = some k → u.ownBlock ≠ some k) : Kd.R (Kd.int .u8) 5 w1 b (fun _ => True) v xs :=
  Kd.R_mono (Kd.R_kept (own_tight h) hk (fun k h1 h2 => hne k h1.symm h2.symm)) (fun _ _ => trivial)
theorem rjournal_any (j : Jn) (A1 : Option Addr) (c1 : Nat) (A2 : Option Addr) (c2 : Nat) (A3 : Option Addr) (c3 : Nat) (w : World) (hJ : JAt w j A1 c1 A2 c2 A3 c3) (l1 : j.res.length ≤ 140737488355328) (l2 : j.need.length ≤ 140737488355328) (l3 : j.tab.length ≤ 140737488355328) :
    Calls Tryz.prog 54 #[.agg (jC j A1 c1 A2 c2 A3 c3).toArray] w fun e w' => RetB e (JnV j) ∧ Below w.heap.size w w' := by
  obtain ⟨W, hW⟩ : ∃ W, W = w.alloc (.cells (jC j A1 c1 A2 c2 A3 c3).toArray 60) := ⟨_, rfl⟩
  have hbk : W.heap[w.heap.size]? = some (.cells (jC j A1 c1 A2 c2 A3 c3).toArray 60 (0, 0)) := hW ▸ heap_alloc_new w _
  have hBW : Below w.heap.size w W := hW ▸ below_alloc (Below.refl _ _) _
  obtain ⟨q, hq⟩ : ∃ q, w.heap.size = q := ⟨_, rfl⟩
  rw [hq] at hbk
  have q0 : W.cell? ⟨q, 0, none⟩ = some (.string j.name) := (blk_cell hbk _).trans rfl
  have q3 : W.cell? ⟨q, 3, none⟩ = some (.slice A1 j.res.length c1) := (blk_cell hbk _).trans rfl
  have HQ := Aside0.mk hq
  have HW := Aside0.mk hW
  have HBW := Aside0.mk hBW
  have HBK := Aside0.mk hbk
  have HJ := Aside0.mk (hJ.below hBW)
  clear hW hBW hbk hJ hq
  go_enter Tryz.func54, Tryz.ntmps54
  go_upto_region 1 with (fail)
  rw [← HW.out, HQ.out]
  go_upto_region 5 with (first
    | (go_at_call 101; refine (named_any j.name _).mono ?_; rintro e w1 ⟨hR, rfl⟩; obtain ⟨b1, rfl, h1⟩ := hR.out; have H1 := Aside0.mk h1; clear hR h1)
    | (have X := H2; go_at_call 28; (with_reducible refine (ref_valid A3 c3 j.tab _ (HJ.out.below HB2.out).r3 HJ.out.l3 l3).mono ?_); rintro e w3 ⟨hR, hb⟩; obtain ⟨b3, rfl, h3⟩ := hR.out; have H3 := Aside0.mk h3; have HB3 := Aside0.mk (below_step HB2.out hb)
       have q4 : w3.cell? ⟨q, 4, none⟩ = some (.slice A2 j.need.length c2) := (blk_cell (blk_below HBK.out HB3.out) _).trans rfl
       clear hR h3 hb)
    | (go_at_call 28; (with_reducible refine (ref_valid A1 c1 j.res _ HJ.out.r1 HJ.out.l1 l1).mono ?_); rintro e w2 ⟨hR, hb⟩; obtain ⟨b2, rfl, h2⟩ := hR.out; have H2 := Aside0.mk h2; have HB2 := Aside0.mk hb
       have q5 : w2.cell? ⟨q, 5, none⟩ = some (.slice A3 j.tab.length c3) := (blk_cell (blk_below HBK.out HB2.out) _).trans rfl
       clear hR h2 hb)
    | (go_at_call 102; refine (rrising_any A2 c2 j.need _ (HJ.out.below HB3.out).r2 (by omega)).mono ?_; rintro e w4 ⟨hR, hb⟩; obtain ⟨b4, rfl, h4⟩ := hR.out; have H4 := Aside0.mk h4; have HB4 := Aside0.mk (below_step HB3.out hb)
       have r4 : w4.cell? ⟨q, 4, none⟩ = some (.slice A2 j.need.length c2) := (blk_cell (blk_below HBK.out HB4.out) _).trans rfl
       have r1 : w4.cell? ⟨q, 1, none⟩ = some (.int .i64 j.ent) := (blk_cell (blk_below HBK.out HB4.out) _).trans rfl
       have r2 : w4.cell? ⟨q, 2, none⟩ = some (.int .i64 j.idx) := (blk_cell (blk_below HBK.out HB4.out) _).trans rfl
       clear hR h4 hb)
    | go_in)
  have HB := Aside0.mk (HBW.out.trans (HB4.out.mono HBW.out.size))
  cases b1 with
  | false =>
    go_wp2
    go_ret
    exact ⟨.no rfl (fun V => by cases H1.out.2 V.name), HB.out⟩
  | true =>
    cases b2 with
    | false =>
      go_wp2
      go_ret
      exact ⟨.no rfl (fun V => by cases H2.out.2 V.res), HB.out⟩
    | true =>
      cases b3 with
      | false =>
        go_wp2
        go_ret
        exact ⟨.no rfl (fun V => by cases H3.out.2 V.tab), HB.out⟩
      | true =>
        cases b4 with
        | false =>
          go_wp2
          go_ret
          exact ⟨.no rfl (fun V => by cases H4.out.2 V.rise), HB.out⟩
        | true =>
          by_cases h7 : j.need.length ≤ 64
          case neg =>
            have H7 := Aside0.mk h7
            have i1 : (64 : Int) < (j.need.length : Int) := by omega
            go_wp2
            go_ret
            exact ⟨.no rfl (fun V => H7.out V.most), HB.out⟩
          case pos =>
            have H7 := Aside0.mk h7
            have i1 : decide ((64 : Int) < (j.need.length : Int)) = false := by simp; omega
            have i2 : decide (64 < j.need.length) = false := by simp; omega
            clear h7
            by_cases e1 : 0 ≤ j.ent
            · have E1 := Aside0.mk e1
              have f1 : decide (0 ≤ j.ent) = true := by simpa using e1
              clear e1
              by_cases e2 : j.ent ≤ 4294967295
              · have E2 := Aside0.mk e2
                have f2 : decide (j.ent ≤ 4294967295) = true := by simpa using e2
                clear e2
                by_cases e3 : 0 ≤ j.idx
                · have E3 := Aside0.mk e3
                  have f3 : decide (0 ≤ j.idx) = true := by simpa using e3
                  clear e3
                  by_cases e4 : j.idx ≤ 4294967295
                  · have E4 := Aside0.mk e4
                    have f4 : decide (j.idx ≤ 4294967295) = true := by simpa using e4
                    clear e4
                    go_wp2
                    go_ret
                    exact ⟨.yes rfl ⟨H1.out.1 trivial, ⟨E1.out, E2.out⟩, ⟨E3.out, E4.out⟩, H2.out.1 trivial, H3.out.1 trivial, H7.out, H4.out.1 trivial⟩, HB.out⟩
                  · have E4 := Aside0.mk e4
                    have f4 : decide (j.idx ≤ 4294967295) = false := by simpa using e4
                    clear e4
                    go_wp2
                    go_ret
                    exact ⟨.no rfl (fun V => by have h1 := V.idx.2; have h2 := E4.out; omega), HB.out⟩
                · have E3 := Aside0.mk e3
                  have f3 : decide (0 ≤ j.idx) = false := by simpa using e3
                  clear e3
                  go_wp2
                  go_ret
                  exact ⟨.no rfl (fun V => by have h1 := V.idx.1; have h2 := E3.out; omega), HB.out⟩
              · have E2 := Aside0.mk e2
                have f2 : decide (j.ent ≤ 4294967295) = false := by simpa using e2
                clear e2
                go_wp2
                go_ret
                exact ⟨.no rfl (fun V => by have h1 := V.ent.2; have h2 := E2.out; omega), HB.out⟩
            · have E1 := Aside0.mk e1
              have f1 : decide (0 ≤ j.ent) = false := by simpa using e1
              clear e1
              go_wp2
              go_ret
              exact ⟨.no rfl (fun V => by have h1 := V.ent.1; have h2 := E1.out; omega), HB.out⟩
end Go.Proofs.YtdekmeanlcpenaaGreatDoor.Codec

namespace Go.Proofs.YtdekmeanlcpenaaGreatDoor.Codec
open Go.RowKit Go.Proofs.YtdekmeanlcpenaaGreatDoorW.PrintWords Go.Proofs.YtdekmeanlcpenaaGreatDoorW.PrintLast Go.Proofs.YtdekmeanlcpenaaGreatDoorW.PrintMore Go.Proofs.YtdekmeanlcpenaaGreatDoor.Mid Go.Proofs.YtdekmeanlcpenaaGreatDoor.Block
attribute [local go_sem ↓ high] load33_eq load29_eq
attribute [local simp] rowOf_drew rowOf_drewN
attribute [local go_sem high] load33_row load29_row rowOf_drew rowOf_drewN
set_option maxHeartbeats 4000000
set_option maxRecDepth 100000
set_option linter.unusedVariables false
theorem ret_true {n : Nat} {args : Array Value} {w : World} {p : Prop} (h : Calls Tryz.prog n args w fun e w' => RetB e p ∧ Below w.heap.size w w') (hp : p) : Calls Tryz.prog n args w fun e w' => e = .returned (.bool true) ∧ Below w.heap.size w w' := h.mono fun _ _ ⟨h1, h2⟩ => ⟨RetB.is_true h1 hp, h2⟩
theorem add_two (p : Addr) (n q : Nat) (hn : n ≠ 0) : (p.add n).add q = ⟨p.block, p.off + n + q, none⟩ := by
  unfold Addr.add
  rw [if_neg hn]
  by_cases h : q = 0
  · subst h; rfl
  · rw [if_neg h]
theorem add_one' (p : Addr) (n : Nat) (hn : n ≠ 0) : p.add n = ⟨p.block, p.off + n, none⟩ := by
  unfold Addr.add
  rw [if_neg hn]
theorem rtab_any (A : Option Addr) (c : Nat) (rs : List Res) (w : World) (hC : resK.C w A rs.length rs) (hc : rs.length ≤ c) (ok : ∀ r ∈ rs, ResOk r) (T : Table rs) :
    Calls Tryz.prog 55 #[.slice A rs.length c] w fun e w' => ∃ A' c', e = .returned (.tuple #[.slice A' (tabW rs).length c', .int .i64 0]) ∧ Kd.R (Kd.int .u8) 5 w' w.heap.size (fun _ => True) (.slice A' (tabW rs).length c') (tabW rs) ∧ Below w.heap.size w w' := by
  have hm := T.most
  have HC := Aside0.mk hC
  have HT := Aside0.mk T
  have HOK := Aside0.mk ok
  clear hC T ok
  go_enter Tryz.func55, Tryz.ntmps55
  go_upto_region 6 with (first
    | (go_at_call 28; refine (ret_true (ref_valid A c rs w HC.out hc (by omega)) HT.out).mono ?_; rintro e w1 ⟨rfl, hb⟩; have HB1 := Aside0.mk hb; clear hb)
    | (go_at_call 59; refine (rnu_any rs.length (by omega) w1).mono ?_; rintro e w2 ⟨A2, c2, rfl, r2, hb⟩
       have H2 : Aside0 (EI w w2 (.slice A2 (numW rs.length).length c2) (numW rs.length)) := ⟨⟨Kd.R_lower r2 HB1.out.size, below_step HB1.out hb⟩⟩
       clear r2 hb)
    | go_in)
  have hn := numW_max (v := rs.length) (by omega)
  go_loopg [5, 6] rs.length (fun k v5 v6 w' => ∃ i : Nat, v6 = .int .i64 i ∧ i + k = rs.length ∧ Aside0 (EI w w' v5 (numW rs.length ++ (rs.take i).flatMap resW)))
  case atStart => exact ⟨0, rfl, by omega, ⟨by rw [List.take_zero, List.flatMap_nil, List.append_nil]; exact H2.out⟩⟩
  case round =>
    obtain ⟨i, rfl, hik, HI⟩ := hrel
    cases gk with
    | zero =>
      have hd : decide (i < rs.length) = false := by simp; omega
      have hi : i = rs.length := by omega
      obtain ⟨A5, c5, e5⟩ := Kd.R_slice HI.out.r
      subst e5
      clear hik
      go_wp2
      go_ret2
      have e : numW rs.length ++ (rs.take i).flatMap resW = tabW rs := by rw [hi, List.take_length]; rfl
      have h := HI.out
      rw [e] at h ⊢
      exact ⟨A5, c5, rfl, h.r, h.bel⟩
    | succ k =>
      have hi : i < rs.length := by omega
      have hi1 : (i : Int) < (rs.length : Int) := by omega
      obtain ⟨out, hout⟩ : ∃ out, numW rs.length ++ (rs.take i).flatMap resW = out := ⟨_, rfl⟩
      rw [hout] at HI
      obtain ⟨ad, r, e0, hr, ho, hat⟩ := res_at HC.out i hi
      subst e0
      have HRO := Aside0.mk ho
      have HAT := Aside0.mk hat
      have HOUT := Aside0.mk hout
      have HR := Aside0.mk hr
      have hol : out.length ≤ 3000 := by
        rw [← hout, List.length_append, flatRes_length (fun s hs => HOK.out s (List.mem_of_mem_take hs)), List.length_take]
        omega
      clear ho hat hout hr
      go_upto_region 9 with (fail)

      go_loopg [5, 7] 32 (fun k5 v5 v7 w' => ∃ q : Nat, v7 = .int .i64 q ∧ q + k5 = 32 ∧ Aside0 (EI w w' v5 (out ++ r.act.take q)))
      case atStart => exact ⟨0, rfl, by omega, ⟨by rw [List.take_zero, List.append_nil]; exact HI.out⟩⟩
      case round =>
        obtain ⟨q, rfl, hqk, HQ⟩ := hrel
        cases gk with
        | zero =>
          have hqe : q = 32 := by omega
          obtain ⟨o3, ho3⟩ : ∃ o3, out ++ r.act = o3 := ⟨_, rfl⟩
          have HQ3 : Aside0 (EI w wr u5 o3) := ⟨by have h := HQ.out; rw [hqe, ← HRO.out.act.len, List.take_length, ho3] at h; exact h⟩
          have hol3 : o3.length ≤ 4000 := by rw [← ho3, List.length_append, HRO.out.act.len]; omega
          have HO3 := Aside0.mk ho3
          have hdq : decide (q < 32) = false := by simp; omega
          subst hqe
          clear HQ ho3
          go_upto_region 13 with (fail)
          go_loopg [5, 8] 32 (fun k5 v5 v8 w' => ∃ q : Nat, v8 = .int .i64 q ∧ q + k5 = 32 ∧ Aside0 (EI w w' v5 (o3 ++ r.root.take q)))
          case atStart => exact ⟨0, rfl, by omega, ⟨by rw [List.take_zero, List.append_nil]; exact HQ3.out⟩⟩
          case round =>
            obtain ⟨q, rfl, hqk, HQ⟩ := hrel
            cases gk with
            | zero =>
              have hqe : q = 32 := by omega
              obtain ⟨o4, ho4⟩ : ∃ o4, o3 ++ r.root = o4 := ⟨_, rfl⟩
              have HQ4 : Aside0 (EI w wr u5 o4) := ⟨by have h := HQ.out; rw [hqe, ← HRO.out.root.len, List.take_length, ho4] at h; exact h⟩
              have hol4 : o4.length ≤ 5000 := by rw [← ho4, List.length_append, HRO.out.root.len]; omega
              have HO4 := Aside0.mk ho4
              have hdq : decide (q < 32) = false := by simp; omega
              have hcc : wr.cell? ⟨(ad.add (i * 65)).block, (ad.add (i * 65)).off + 64, none⟩ = some (.int .i64 r.code) := by rw [← add_one' _ 64 (by decide)]; exact res_code HRO.out (HAT.out.below HQ.out.bel)
              have hcd := HT.out.code r (List.mem_of_getElem? HR.out)
              have hcm : r.code % 256 = r.code := by omega
              obtain ⟨x, hx⟩ : ∃ x, r.code = x := ⟨_, rfl⟩
              rw [hx] at hcc hcm hcd
              have HX := Aside0.mk hx
              have HCD := Aside0.mk hcd
              subst hqe
              clear HQ ho4 hx hcd
              go_wp2_with (first
                | ((with_reducible refine gate_builtin (b := .append) (xs := #[.tmp 50, .tmp 57]) rfl ?_); at_builtin; refine Kd.R_append (Kd.int .u8) (w0 := w) w.heap.size rfl (.tmp 50) (.tmp 57) 47 5 (.int .u8 0) 1 rfl Tryz.underlying47 info5 rfl (by decide) (by omega) u5 o4 x [.int .u8 x] (fun _ => True) (fun _ => False) rfl rfl (show (Kd.int .u8).M _ _ _ x [.int .u8 x] from rfl) (fun _ hk => hk.elim) (fun _ _ => trivial) HQ4.out.r HQ4.out.bel HQ4.out.bel.size (by omega) ?_
                   intro v1 w1' h1 h2 h3 h4
                   have H1' : Aside0 (EI w w1' v1 (o4 ++ [x])) := ⟨⟨h1, h2⟩⟩
                   clear h1 h2 h3 h4)
                | go_in)
              go_roundg k
              case measure => omega
              case rel =>
                refine ⟨i + 1, by go_num, by omega, ⟨?_⟩⟩
                have e : numW rs.length ++ (rs.take (i + 1)).flatMap resW = o4 ++ [x] := by
                  rw [List.take_add_one, HR.out, List.flatMap_append, ← List.append_assoc, HOUT.out, ← HO4.out, ← HO3.out, ← HX.out]
                  simp [resW]
                rw [e]
                exact H1'.out
            | succ k6 =>
              have hq : q < 32 := by omega
              have hq1 : (q : Int) < 32 := by omega
              obtain ⟨x, hx⟩ : ∃ x, r.root[q]? = some x := ⟨_, List.getElem?_eq_getElem (by rw [HRO.out.root.len]; exact hq)⟩
              have hcell : wr.cell? ⟨(ad.add (i * 65)).block, (ad.add (i * 65)).off + 32 + q, none⟩ = some (.int .u8 x) := by rw [← add_two _ 32 q (by decide)]; exact At.u8 (res_root HRO.out (HAT.out.below HQ.out.bel)) hx
              have HX := Aside0.mk hx
              have hol2 : (o3 ++ r.root.take q).length ≤ 5000 := by rw [List.length_append, List.length_take]; omega
              obtain ⟨o2, ho2⟩ : ∃ o2, o3 ++ r.root.take q = o2 := ⟨_, rfl⟩
              rw [ho2] at HQ hol2
              have HO2 := Aside0.mk ho2
              clear hx ho2
              go_wp2_with (first
                | ((with_reducible refine gate_builtin (b := .append) (xs := #[.tmp 40, .tmp 48]) rfl ?_); at_builtin; refine Kd.R_append (Kd.int .u8) (w0 := w) w.heap.size rfl (.tmp 40) (.tmp 48) 47 5 (.int .u8 0) 1 rfl Tryz.underlying47 info5 rfl (by decide) (by omega) u5 o2 x [.int .u8 x] (fun _ => True) (fun _ => False) rfl rfl (show (Kd.int .u8).M _ _ _ x [.int .u8 x] from rfl) (fun _ hk => hk.elim) (fun _ _ => trivial) HQ.out.r HQ.out.bel HQ.out.bel.size (by omega) ?_
                   intro v1 w1' h1 h2 h3 h4
                   have H1' : Aside0 (EI w w1' v1 (o2 ++ [x])) := ⟨⟨h1, h2⟩⟩
                   clear h1 h2 h3 h4)
                | go_in)
              go_roundg k6
              case measure => omega
              case rel => exact ⟨q + 1, by go_num, by omega, ⟨by rw [List.take_add_one, HX.out, ← List.append_assoc, HO2.out]; exact H1'.out⟩⟩
        | succ k6 =>
          have hq : q < 32 := by omega
          have hq1 : (q : Int) < 32 := by omega
          obtain ⟨x, hx⟩ : ∃ x, r.act[q]? = some x := ⟨_, List.getElem?_eq_getElem (by rw [HRO.out.act.len]; exact hq)⟩
          have hcell : wr.cell? ((ad.add (i * 65)).add q) = some (.int .u8 x) := At.u8 (res_act (HAT.out.below HQ.out.bel)) hx
          have HX := Aside0.mk hx
          have hol2 : (out ++ r.act.take q).length ≤ 4000 := by rw [List.length_append, List.length_take]; omega
          obtain ⟨o2, ho2⟩ : ∃ o2, out ++ r.act.take q = o2 := ⟨_, rfl⟩
          rw [ho2] at HQ hol2
          have HO2 := Aside0.mk ho2
          clear hx ho2
          go_wp2_with (first
            | ((with_reducible refine gate_builtin (b := .append) (xs := #[.tmp 26, .tmp 34]) rfl ?_); at_builtin; refine Kd.R_append (Kd.int .u8) (w0 := w) w.heap.size rfl (.tmp 26) (.tmp 34) 47 5 (.int .u8 0) 1 rfl Tryz.underlying47 info5 rfl (by decide) (by omega) u5 o2 x [.int .u8 x] (fun _ => True) (fun _ => False) rfl rfl (show (Kd.int .u8).M _ _ _ x [.int .u8 x] from rfl) (fun _ hk => hk.elim) (fun _ _ => trivial) HQ.out.r HQ.out.bel HQ.out.bel.size (by omega) ?_
               intro v1 w1' h1 h2 h3 h4
               have H1' : Aside0 (EI w w1' v1 (o2 ++ [x])) := ⟨⟨h1, h2⟩⟩
               clear h1 h2 h3 h4)
            | go_in)
          go_roundg k6
          case measure => omega
          case rel => exact ⟨q + 1, by go_num, by omega, ⟨by rw [List.take_add_one, HX.out, ← List.append_assoc, HO2.out]; exact H1'.out⟩⟩
end Go.Proofs.YtdekmeanlcpenaaGreatDoor.Codec

namespace Go.Proofs.YtdekmeanlcpenaaGreatDoor.Codec
open Go.RowKit Go.Proofs.YtdekmeanlcpenaaGreatDoorW.PrintWords Go.Proofs.YtdekmeanlcpenaaGreatDoorW.PrintLast Go.Proofs.YtdekmeanlcpenaaGreatDoorW.PrintMore Go.Proofs.YtdekmeanlcpenaaGreatDoor.Mid Go.Proofs.YtdekmeanlcpenaaGreatDoor.Block
attribute [local go_sem ↓ high] load33_eq load29_eq load60_eq
attribute [local simp] rowOf_drew rowOf_drewN
attribute [local go_sem high] load33_row load29_row load60_row rowOf_drew rowOf_drewN
set_option maxHeartbeats 8000000
set_option maxRecDepth 100000
set_option linter.unusedVariables false
/-- A form so far, beside the two tables' bytes. -/
structure PI (W : World) (rs ts : List Int) (B2 : Option Addr) (d2 : Nat) (B3 : Option Addr) (d3 : Nat) (u : World) (v : Value) (out : List Int) : Prop where
  e : EI W u v out
  r2 : Kd.R (Kd.int .u8) 5 u W.heap.size (fun _ => True) (.slice B2 rs.length d2) rs
  r3 : Kd.R (Kd.int .u8) 5 u W.heap.size (fun _ => True) (.slice B3 ts.length d3) ts
  n2 : ∀ k, (Value.slice B2 rs.length d2).ownBlock = some k → v.ownBlock ≠ some k
  n3 : ∀ k, (Value.slice B3 ts.length d3).ownBlock = some k → v.ownBlock ≠ some k
section
variable {W u u1 : World} {rs ts : List Int} {B2 : Option Addr} {d2 : Nat} {B3 : Option Addr} {d3 : Nat} {v : Value} {out : List Int}
theorem PI.below (h : PI W rs ts B2 d2 B3 d3 u v out) (hb : Below u.heap.size u u1) : PI W rs ts B2 d2 B3 d3 u1 v out := ⟨h.e.below hb, Kd.R_below h.r2 hb, Kd.R_below h.r3 hb, h.n2, h.n3⟩
theorem PI.app {v1 : Value} {x : Int} (h : PI W rs ts B2 d2 B3 d3 u v out) (h1 : Kd.R (Kd.int .u8) 5 u1 W.heap.size (fun _ => True) v1 (out ++ [x])) (h2 : Below W.heap.size W u1) (h3 : u.grownBy u1 v.ownBlock) (h4 : v1.ownBlock = v.ownBlock ∨ ∃ b, v1.ownBlock = some b ∧ u.heap.size ≤ b) : PI W rs ts B2 d2 B3 d3 u1 v1 (out ++ [x]) := by
  have far : ∀ {B : Option Addr} {d : Nat} {l : List Int}, Kd.R (Kd.int .u8) 5 u W.heap.size (fun _ => True) (.slice B l.length d) l → (∀ k, (Value.slice B l.length d).ownBlock = some k → v.ownBlock ≠ some k) → Kd.R (Kd.int .u8) 5 u1 W.heap.size (fun _ => True) (.slice B l.length d) l ∧ ∀ k, (Value.slice B l.length d).ownBlock = some k → v1.ownBlock ≠ some k := by
    intro B d l hr hn
    refine ⟨?_, fun k hk => ?_⟩
    · cases hb : (Value.slice B l.length d).ownBlock with
      | none => exact Kd.R_mono (Kd.R_grown (Kd.R_tight rfl hr) h3 (fun k hk _ => by rw [hb] at hk; cases hk)) (fun _ _ => trivial)
      | some k => exact Kd.R_grown1 hr rfl h3 (by rw [hb]; exact hn k hb)
    · rcases h4 with h4 | ⟨b, h4, h5⟩
      · rw [h4]; exact hn k hk
      · rw [h4]
        intro e
        have h6 := Kd.R_lt hr k hk
        have := Option.some.inj e
        omega
  exact ⟨⟨h1, h2⟩, (far h.r2 h.n2).1, (far h.r3 h.n3).1, (far h.r2 h.n2).2, (far h.r3 h.n3).2⟩
theorem PI.put {A : Option Addr} {c n : Nat} (hn : out.length = n) (h : PI W rs ts B2 d2 B3 d3 u (.slice A out.length c) out) (hb : Below u.heap.size u u1) (A1 : Option Addr) (c1 : Nat) (l : List Int) (m : Nat) (hm : l.length = m) (hx : Kd.R (Kd.int .u8) 5 u1 u.heap.size (fun _ => True) (.slice A1 l.length c1) l) (ho : out.length ≤ 1000000) (hl : l.length ≤ 1000000) :
    Calls Tryz.prog 56 #[.slice A n c, .slice A1 m c1] u1 fun e w' => ∃ A2 c2 o, e = .returned (.slice A2 o.length c2) ∧ Aside0 (o = out ++ l) ∧ PI W rs ts B2 d2 B3 d3 w' (.slice A2 o.length c2) o := by
  subst hm hn
  have hu := h.below hb
  refine (rput_any W u1 A c out A1 c1 l hu.e u.heap.size hx (fun k hk => Kd.R_lt h.e.r k hk) ho hl).mono fun e w' ⟨A2, c2, h1, h2, h3, h4⟩ => ⟨A2, c2, out ++ l, h1, ⟨rfl⟩, h2, R_put_kept hu.r2 h3 hu.n2, R_put_kept hu.r3 h3 hu.n3, fun k hk e => ?_, fun k hk e => ?_⟩
  · rcases h4 k e with h5 | h5
    · exact hu.n2 k hk h5
    · have := Kd.R_lt hu.r2 k hk; omega
  · rcases h4 k e with h5 | h5
    · exact hu.n3 k hk h5
    · have := Kd.R_lt hu.r3 k hk; omega
end
section
variable (j : Jn) (A1 : Option Addr) (c1 : Nat) (A2 : Option Addr) (c2 : Nat) (A3 : Option Addr) (c3 : Nat) (w : World) (hJ : JAt w j A1 c1 A2 c2 A3 c3) (l1 : j.res.length ≤ 140737488355328) (l2 : j.need.length ≤ 140737488355328) (l3 : j.tab.length ≤ 140737488355328)
include hJ l1 l2 l3
theorem renc_no (V : ¬ JnV j) : Calls Tryz.prog 20 #[.agg (jC j A1 c1 A2 c2 A3 c3).toArray] w fun e w' => e = .returned (.tuple #[.slice none 0 0, .int .i64 161]) ∧ Below w.heap.size w w' := by
  obtain ⟨W, hW⟩ : ∃ W, W = w.alloc (.cells (jC j A1 c1 A2 c2 A3 c3).toArray 60) := ⟨_, rfl⟩
  have hbk : W.heap[w.heap.size]? = some (.cells (jC j A1 c1 A2 c2 A3 c3).toArray 60 (0, 0)) := hW ▸ heap_alloc_new w _
  have hBW : Below w.heap.size w W := hW ▸ below_alloc (Below.refl _ _) _
  have hld := jrow hbk
  have HW := Aside0.mk hW
  have HBW := Aside0.mk hBW
  have HJ := Aside0.mk (hJ.below hBW)
  have HV := Aside0.mk V
  clear hW hBW hbk hJ V
  go_enter Tryz.func20, Tryz.ntmps20
  go_upto_region 1 with (fail)
  rw [← HW.out]
  go_wp2_with (first
    | (go_at_call 54; refine (rjournal_any j A1 c1 A2 c2 A3 c3 _ HJ.out l1 l2 l3).mono ?_; rintro e w1 ⟨hR, hb⟩; have he := RetB.is_false hR HV.out; subst he; have HB1 := Aside0.mk hb; clear hb hR)
    | go_in)
  go_ret2
  exact ⟨rfl, HBW.out.trans (HB1.out.mono HBW.out.size)⟩
theorem renc_yes (V : JnV j) : Calls Tryz.prog 20 #[.agg (jC j A1 c1 A2 c2 A3 c3).toArray] w fun e w' => ∃ A k, e = .returned (.tuple #[.slice A (encW j).length k, .int .i64 0]) ∧ Kd.R (Kd.int .u8) 5 w' w.heap.size (fun _ => True) (.slice A (encW j).length k) (encW j) ∧ Below w.heap.size w w' := by
  obtain ⟨W, hW⟩ : ∃ W, W = w.alloc (.cells (jC j A1 c1 A2 c2 A3 c3).toArray 60) := ⟨_, rfl⟩
  have hbk : W.heap[w.heap.size]? = some (.cells (jC j A1 c1 A2 c2 A3 c3).toArray 60 (0, 0)) := hW ▸ heap_alloc_new w _
  have hBW : Below w.heap.size w W := hW ▸ below_alloc (Below.refl _ _) _
  obtain ⟨q, hq⟩ : ∃ q, w.heap.size = q := ⟨_, rfl⟩
  rw [hq] at hbk
  have hld := jrow hbk
  have HQ := Aside0.mk hq
  have HW := Aside0.mk hW
  have HBW := Aside0.mk hBW
  have HBK := Aside0.mk hbk
  have HJ := Aside0.mk (hJ.below hBW)
  have HV := Aside0.mk V
  have CE : ∀ u, Below W.heap.size W u → ∀ (i : Nat) v, (jC j A1 c1 A2 c2 A3 c3)[i]? = some v → u.cell? ⟨q, i, none⟩ = some v := fun u hu i v hv => (blk_cell (blk_below hbk hu) _).trans (by simpa using hv)
  have CE := Aside0.mk CE
  have hr := V.res.most
  have ht := V.tab.most
  clear hW hBW hbk hJ V hq
  go_enter Tryz.func20, Tryz.ntmps20
  go_upto_region 1 with (fail)
  rw [← HW.out, HQ.out]
  go_upto_region 6 with (first
    | (go_at_call 54; refine (rjournal_any j A1 c1 A2 c2 A3 c3 _ HJ.out l1 l2 l3).mono ?_; rintro e w1 ⟨hR, hb⟩; have he := RetB.is_true hR HV.out; subst he; have HB1 := Aside0.mk hb; have q3 := CE.out _ hb 3 _ rfl; clear hb hR)
    | (have X := H2; go_at_call 55; (with_reducible refine (rtab_any A3 c3 j.tab w2 (HJ.out.below H2.out.2).r3 HJ.out.l3 HJ.out.ok.tab HV.out.tab).mono ?_); rintro e w3 ⟨B3, d3, rfl, r3, hb⟩
       have H3 := Aside0.mk (⟨Kd.R_below H2.out.1 hb, r3, below_step H2.out.2 hb, Kd.R_lt H2.out.1⟩ : _ ∧ _ ∧ _ ∧ _)
       clear r3 hb)
    | (go_at_call 55; (with_reducible refine (rtab_any A1 c1 j.res w1 (HJ.out.below HB1.out).r1 HJ.out.l1 HJ.out.ok.res HV.out.res).mono ?_); rintro e w2 ⟨B2, d2, rfl, r2, hb⟩
       have H2 := Aside0.mk (⟨r2, below_step HB1.out hb⟩ : _ ∧ _)
       have q5 := CE.out _ H2.out.2 5 _ rfl
       clear r2 hb)
    | go_in)
  obtain ⟨o6, ho6⟩ : ∃ o6 : List Int, [74] = o6 := ⟨_, rfl⟩
  have P6 : Aside0 (PI W (tabW j.res) (tabW j.tab) B2 d2 B3 d3 (w3.alloc (.cells #[.int .u8 74] 5)) (.slice (some ⟨w3.heap.size, 0, none⟩) o6.length 1) o6) := ⟨by
    have hs := H3.out.2.2.1.size
    have hs2 := H2.out.2.size
    refine ⟨⟨?_, below_alloc H3.out.2.2.1 _⟩, Kd.R_alloc (Kd.R_lower H3.out.1 HB1.out.size) _, Kd.R_alloc (Kd.R_lower H3.out.2.1 hs2) _, fun k hk e => ?_, fun k hk e => ?_⟩
    · rw [← ho6]
      exact Kd.R_of_own (own_lit w3 W.heap.size 5 .u8 [74] hs (by decide)) (fun _ _ => trivial)
    · have h1 := Kd.R_lt H3.out.1 k hk
      have h2 : w3.heap.size = k := Option.some.inj e
      omega
    · have h1 := Kd.R_lt H3.out.2.1 k hk
      have h2 : w3.heap.size = k := Option.some.inj e
      omega⟩
  have HO6 := Aside0.mk ho6
  have ho6l : o6.length = 1 := by rw [← ho6]; rfl
  have LO6 := Aside0.mk ho6l
  have hcv : ∀ u, (convert 9 47 (.string j.name)).run Tryz.prog u = .ok (.slice (some ⟨u.heap.size, 0, none⟩) j.name.size (grownCap u j.name.size 0 5)) (Lib.bytesWorld u 5 j.name) := fun u => print_bytes (u := .string) 9 47 5 (by kernel_rfl) Tryz.underlying47 Tryz.underlying5 j.name u
  obtain ⟨en, hen⟩ : ∃ en : Nat, j.ent = (en : Int) := ⟨j.ent.toNat, by have := HV.out.ent; omega⟩
  obtain ⟨ix, hix⟩ : ∃ ix : Nat, j.idx = (ix : Int) := ⟨j.idx.toNat, by have := HV.out.idx; omega⟩
  have HE : Aside0 (en < 4294967296 ∧ ix < 4294967296 ∧ j.ent.toNat = en ∧ j.idx.toNat = ix) := ⟨by have := HV.out.ent; omega, by have := HV.out.idx; omega, by omega, by omega⟩
  have D1 : Aside0 (∀ u, Below W.heap.size W u → u.cell? ⟨q, 1, none⟩ = some (.int .i64 en)) := ⟨fun u hu => CE.out u hu 1 _ (by rw [← hen]; rfl)⟩
  have D2 : Aside0 (∀ u, Below W.heap.size W u → u.cell? ⟨q, 2, none⟩ = some (.int .i64 ix)) := ⟨fun u hu => CE.out u hu 2 _ (by rw [← hix]; rfl)⟩
  have hn1 := HV.out.name.most
  have hn2 := HV.out.most
  have HT : Aside0 ((tabW j.res).length ≤ 2081 ∧ (tabW j.tab).length ≤ 2081) := ⟨tab_le HV.out.res HJ.out.ok.res, tab_le HV.out.tab HJ.out.ok.tab⟩
  have HTN : Aside0 ((txtW (sBytes j.name)).length ≤ 117 ∧ (txtW (tabW j.res)).length ≤ 2086 ∧ (txtW (tabW j.tab)).length ≤ 2086 ∧ (numW j.need.length).length ≤ 5) := ⟨txt_le (by rw [sBytes_length]; exact hn1) (by omega), txt_le HT.out.1 (by omega), txt_le HT.out.2 (by omega), numW_max (by omega)⟩
  have ce0 := CE.out _ P6.out.e.bel 0 _ rfl
  clear hen hix ho6
  go_upto_region 7 with (fail)
  obtain ⟨u6, hu6⟩ : ∃ u6, w3.alloc (.cells #[.int .u8 74] 5) = u6 := ⟨_, rfl⟩
  have S6 : Aside0 (w3.heap.size < u6.heap.size) := ⟨by rw [← hu6]; simp⟩
  rw [hu6] at P6 ce0 ⊢
  have L6 : Aside0 (o6.length ≤ 1) := ⟨by omega⟩
  clear hu6 ho6l
  go_upto_region 13 with (first
    | (have X := F11; go_at_call 56; (with_reducible refine (PI.put rfl P10.out F11.out.2 B11 e11 (numW j.need.length) _ rfl F11.out.1 (by have := L10.out; omega) (by have := HTN.out; omega)).mono ?_); rintro e u11 ⟨C11, f11, o11, rfl, h1, h2⟩
       have O11 := h1
       have P11 := Aside0.mk h2
       have L11 : Aside0 (o11.length ≤ 2230) := ⟨by rw [O11.out, List.length_append]; have h1 := L10.out; have h2 := HTN.out; omega⟩
       clear h1 h2)
    | (have X := P10; go_at_call 59; (with_reducible refine (rnu_any j.need.length (by omega) u10).mono ?_); rintro e v11 ⟨B11, e11, rfl, r1, hb⟩
       have F11 := Aside0.mk (And.intro r1 hb)
       clear r1 hb)
    | (have X := F10; go_at_call 56; (with_reducible refine (PI.put rfl P9.out F10.out.2 B10 e10 (txtW (tabW j.res)) _ rfl F10.out.1 (by have := L9.out; omega) (by have := HTN.out; omega)).mono ?_); rintro e u10 ⟨C10, f10, o10, rfl, h1, h2⟩
       have O10 := h1
       have P10 := Aside0.mk h2
       have L10 : Aside0 (o10.length ≤ 2220) := ⟨by rw [O10.out, List.length_append]; have h1 := L9.out; have h2 := HTN.out; omega⟩
       have ce4 := CE.out _ P10.out.e.bel 4 _ rfl
       clear h1 h2)
    | (have X := P9; go_at_call 57; (with_reducible refine (rtx_any B2 d2 (tabW j.res) _ rfl u9 (Kd.R_reads' P9.out.r2).2.2 (Kd.R_reads' P9.out.r2).2.1 (by have := HT.out.1; omega)).mono ?_); rintro e v10 ⟨B10, e10, rfl, r1, hb⟩
       have F10 := Aside0.mk (And.intro r1 hb)
       clear r1 hb)
    | (have X := F9; go_at_call 56; (with_reducible refine (PI.put rfl P8.out F9.out.2 B9 e9 (fixW ix 4) 4 (fixW_length _ _) F9.out.1 (by have := L8.out; omega) (by have := HTN.out; rw [fixW_length]; omega)).mono ?_); rintro e u9 ⟨C9, f9, o9, rfl, h1, h2⟩
       have O9 := h1
       have P9 := Aside0.mk h2
       have L9 : Aside0 (o9.length ≤ 128) := ⟨by rw [O9.out, List.length_append]; have h1 := L8.out; have h2 := HTN.out; rw [fixW_length]; omega⟩
       clear h1 h2)
    | (have X := P8; go_at_call 58; (with_reducible refine (rfx_any ix HE.out.2.1 u8).mono ?_); rintro e v9 ⟨B9, e9, rfl, r1, hb⟩
       have F9 := Aside0.mk (And.intro r1 hb)
       clear r1 hb)
    | (have X := F8; go_at_call 56; (with_reducible refine (PI.put rfl P7.out F8.out.2 B8 e8 (fixW en 4) 4 (fixW_length _ _) F8.out.1 (by have := L7.out; omega) (by have := HTN.out; rw [fixW_length]; omega)).mono ?_); rintro e u8 ⟨C8, f8, o8, rfl, h1, h2⟩
       have O8 := h1
       have P8 := Aside0.mk h2
       have L8 : Aside0 (o8.length ≤ 124) := ⟨by rw [O8.out, List.length_append]; have h1 := L7.out; have h2 := HTN.out; rw [fixW_length]; omega⟩
       have ce2 := D2.out _ P8.out.e.bel
       clear h1 h2)
    | (have X := P7; go_at_call 58; (with_reducible refine (rfx_any en HE.out.1 u7).mono ?_); rintro e v8 ⟨B8, e8, rfl, r1, hb⟩
       have F8 := Aside0.mk (And.intro r1 hb)
       clear r1 hb)
    | (have X := F7; go_at_call 56; (with_reducible refine (PI.put LO6.out P6.out F7.out.2 B7 e7 (txtW (sBytes j.name)) _ rfl F7.out.1 (by have := L6.out; omega) (by have := HTN.out; omega)).mono ?_); rintro e u7 ⟨C7, f7, o7, rfl, h1, h2⟩
       have O7 := h1
       have P7 := Aside0.mk h2
       have L7 : Aside0 (o7.length ≤ 120) := ⟨by rw [O7.out, List.length_append]; have h1 := L6.out; have h2 := HTN.out; omega⟩
       have ce1 := D1.out _ P7.out.e.bel
       clear h1 h2)
    | (have X := P6; go_at_call 57; (with_reducible refine (rtx_any (some ⟨u6.heap.size, 0, none⟩) (grownCap u6 j.name.size 0 5) (sBytes j.name) j.name.size (sBytes_length _) (Lib.bytesWorld u6 5 j.name) (C_str u6 j.name (by omega)) (grownCap_ge _ _ _ _) (by omega)).mono ?_); rintro e v7 ⟨B7, e7, rfl, r1, hb⟩
       have F7 : Aside0 (Kd.R (Kd.int .u8) 5 v7 u6.heap.size (fun _ => True) (.slice B7 (txtW (sBytes j.name)).length e7) (txtW (sBytes j.name)) ∧ Below u6.heap.size u6 v7) := ⟨Kd.R_lower r1 (bytes_below (Below.refl _ _) (Nat.le_refl _) 5 j.name).size, below_step (bytes_below (Below.refl _ _) (Nat.le_refl _) 5 j.name) hb⟩
       clear r1 hb)
    | go_in)
  have L11' := L11.out
  have hil : ∀ i, ((j.need.take i).flatten).length ≤ 2048 := fun i => by
    rw [ids_length (fun x hx => HJ.out.ok.need x (List.mem_of_mem_take hx)), List.length_take]
    omega
  have HIL := Aside0.mk hil
  clear hil
  go_loopg [9, 10] j.need.length (fun k v9 v10 w' => ∃ (i : Nat) (A : Option Addr) (c : Nat) (o : List Int), v9 = .slice A o.length c ∧ v10 = .int .i64 i ∧ i + k = j.need.length ∧ Aside0 (PI W (tabW j.res) (tabW j.tab) B2 d2 B3 d3 w' (.slice A o.length c) o ∧ o = o11 ++ (j.need.take i).flatten))
  case atStart => exact ⟨0, _, _, o11, rfl, rfl, by omega, ⟨P11.out, by rw [List.take_zero, List.flatten_nil, List.append_nil]⟩⟩
  case round =>
    obtain ⟨i, A, c, o, rfl, rfl, hik, HI⟩ := hrel
    have ce4' := CE.out _ HI.out.1.e.bel 4 _ rfl
    cases gk with
    | zero =>
      have hd : decide (i < j.need.length) = false := by simp; omega
      have hi : i = j.need.length := by omega
      have hoe : o = o11 ++ j.need.flatten := by rw [HI.out.2, hi, List.take_length]
      have HOE := Aside0.mk hoe
      have LO : Aside0 (o.length ≤ 4300) := ⟨by rw [HI.out.2, List.length_append]; have := HIL.out i; omega⟩
      clear hik hoe
      have HBD : Aside0 (∀ z, z = o ++ txtW (tabW j.tab) → z = bodyW j) := ⟨fun z hz => by
        rw [hz, HOE.out, O11.out, O10.out, O9.out, O8.out, O7.out, ← HO6.out, bodyW, HE.out.2.2.1, HE.out.2.2.2]
        simp only [List.append_assoc]
        rfl⟩
      have HBL : Aside0 ((bodyW j).length ≤ 8000 ∧ Byt (bodyW j)) := ⟨body_le HV.out HJ.out.ok, body_byt HV.out HJ.out.ok⟩
      go_wp2_with (first
        | (have X := F20; go_at_call 56; (with_reducible refine (PI.put rfl P19.out.1 F20.out.2 B20 e20 (fixW (sumS o19) 4) 4 (fixW_length _ _) F20.out.1 (by have := P19.out.2; have := HBL.out.1; omega) (by rw [fixW_length]; omega)).mono ?_); rintro e u20 ⟨C20, f20, o20, rfl, h1, h2⟩
           have P20 := Aside0.mk h2
           have O20 := h1
           clear h1 h2)
        | (have X := S19; go_at_call 58; (with_reducible refine (rfx_any (sumS o19) (sumS_lt _) u19s).mono ?_); rintro e v20 ⟨B20, e20, rfl, r1, hb⟩
           have F20 : Aside0 (Kd.R (Kd.int .u8) 5 v20 u19.heap.size (fun _ => True) (.slice B20 (fixW (sumS o19) 4).length e20) (fixW (sumS o19) 4) ∧ Below u19.heap.size u19 v20) := ⟨Kd.R_lower r1 S19.out.size, below_step S19.out hb⟩
           clear r1 hb)
        | (have X := P19; go_at_call 60; (with_reducible refine (rsu_any C19 f19 o19 u19 (Kd.R_reads' P19.out.1.e.r).2.2 (Kd.R_reads' P19.out.1.e.r).2.1 (by rw [BD19.out]; exact HBL.out.2) (by have := P19.out.2; have := HBL.out.1; omega)).mono ?_); rintro e u19s ⟨rfl, hb⟩
           have S19 := Aside0.mk hb
           clear hb)
        | (have X := F19; go_at_call 56; (with_reducible refine (PI.put rfl HI.out.1 F19.out.2 B19 e19 (txtW (tabW j.tab)) _ rfl F19.out.1 (by have := LO.out; omega) (by have := HTN.out; omega)).mono ?_); rintro e u19 ⟨C19, f19, o19, rfl, h1, h2⟩
           have BD19 : Aside0 (o19 = bodyW j) := ⟨HBD.out o19 h1.out⟩
           have P19 := Aside0.mk (And.intro h2 (show o19.length = (bodyW j).length by rw [BD19.out]))
           clear h1 h2)
        | (go_at_call 57; (with_reducible refine (rtx_any B3 d3 (tabW j.tab) _ rfl wr (Kd.R_reads' HI.out.1.r3).2.2 (Kd.R_reads' HI.out.1.r3).2.1 (by have := HT.out.2; omega)).mono ?_); rintro e v19 ⟨B19, e19, rfl, r1, hb⟩
           have F19 := Aside0.mk (And.intro r1 hb)
           clear r1 hb)
        | go_in)
      go_ret2
      have he : o20 = encW j := by rw [O20.out, BD19.out, encW]
      subst he
      exact ⟨C20, f20, rfl, Kd.R_lower P20.out.e.r HBW.out.size, HBW.out.trans (P20.out.e.bel.mono HBW.out.size)⟩
    | succ k =>
      have hi : i < j.need.length := by omega
      have hi1 : (i : Int) < (j.need.length : Int) := by omega
      obtain ⟨ad, x, e0, hx, ho, hat⟩ := id_at HJ.out.r2 i hi
      have HXO := Aside0.mk ho
      have HAT := Aside0.mk hat
      have HX := Aside0.mk hx
      subst e0
      have LO : o.length ≤ 4300 := by rw [HI.out.2, List.length_append]; have := HIL.out i; omega
      clear ho hat hx
      go_upto_region 16 with (fail)
      go_loopg [9, 11] 32 (fun k5 v9 v11 w' => ∃ (s : Nat) (A : Option Addr) (c : Nat) (o' : List Int), v9 = .slice A o'.length c ∧ v11 = .int .i64 s ∧ s + k5 = 32 ∧ Aside0 (PI W (tabW j.res) (tabW j.tab) B2 d2 B3 d3 w' (.slice A o'.length c) o' ∧ o' = o ++ x.take s))
      case atStart => exact ⟨0, _, _, o, rfl, rfl, by omega, ⟨HI.out.1, by rw [List.take_zero, List.append_nil]⟩⟩
      case round =>
        obtain ⟨s, A', c', o', rfl, rfl, hsk, HS⟩ := hrel
        cases gk with
        | zero =>
          have hse : s = 32 := by omega
          have hds : decide (s < 32) = false := by simp; omega
          subst hse
          go_wp2
          go_roundg k
          case measure => omega
          case rel => exact ⟨i + 1, _, _, o', rfl, by go_num, by omega, ⟨HS.out.1, by rw [HS.out.2, List.take_of_length_le (by rw [HXO.out.len]; exact Nat.le_refl _), HI.out.2, List.take_add_one, HX.out, List.flatten_append, List.append_assoc]; simp⟩⟩
        | succ k6 =>
          have hs : s < 32 := by omega
          have hs1 : (s : Int) < 32 := by omega
          obtain ⟨y, hy⟩ : ∃ y, x[s]? = some y := ⟨_, List.getElem?_eq_getElem (by rw [HXO.out.len]; exact hs)⟩
          have hcell : wr.cell? ((ad.add (i * 32)).add s) = some (.int .u8 y) := At.u8 (HAT.out.below HS.out.1.e.bel) hy
          have HY := Aside0.mk hy
          have LO2 : o'.length ≤ 4400 := by rw [HS.out.2, List.length_append, List.length_take]; omega
          have ce5 := CE.out _ HS.out.1.e.bel 4 _ rfl
          clear hy
          go_wp2_with (first
            | ((with_reducible refine gate_builtin (b := .append) (xs := #[.tmp 66, .tmp 74]) rfl ?_); at_builtin; refine Kd.R_append (Kd.int .u8) (w0 := W) W.heap.size rfl (.tmp 66) (.tmp 74) 47 5 (.int .u8 0) 1 rfl Tryz.underlying47 info5 rfl (by decide) (by omega) (.slice A' o'.length c') o' y [.int .u8 y] (fun _ => True) (fun _ => False) rfl rfl (show (Kd.int .u8).M _ _ _ y [.int .u8 y] from rfl) (fun _ hk => hk.elim) (fun _ _ => trivial) HS.out.1.e.r HS.out.1.e.bel HS.out.1.e.bel.size (by omega) ?_
               intro v1 w1' h1 h2 h3 h4
               obtain ⟨A9, c9, rfl⟩ := Kd.R_slice h1
               have H1' := Aside0.mk (HS.out.1.app h1 h2 h3 h4)
               clear h1 h2 h3 h4)
            | go_in)
          go_roundg k6
          case measure => omega
          case rel => exact ⟨s + 1, A9, c9, o' ++ [y], by simp, by go_num, by omega, ⟨H1'.out, by rw [HS.out.2, List.take_add_one, HY.out, ← List.append_assoc]; rfl⟩⟩
end
end Go.Proofs.YtdekmeanlcpenaaGreatDoor.Codec

namespace Go.Proofs.YtdekmeanlcpenaaGreatDoor.SlEq
open Go.RowKit Go.Proofs.YtdekmeanlcpenaaGreatDoorW.PrintWords Go.Proofs.YtdekmeanlcpenaaGreatDoorW.PrintLast Go.Proofs.YtdekmeanlcpenaaGreatDoorW.PrintMore Go.Proofs.YtdekmeanlcpenaaGreatDoor.Codec Go.Proofs.YtdekmeanlcpenaaGreatDoor.Block
attribute [local go_sem] max2_int min2_int max_two min_two max_three min_three max_four min_four
set_option linter.unusedVariables false
set_option linter.unusedSimpArgs false

-- the lines of the kit's print for function 116 of this seat
/-! ### slices_Equal_byte_byte: function 116 -/
def slices_Equal_byte_byte.l0 : Nat → List Int → List Int → Int → Int → Option (Bool)
  | 0, _, _, _, _ => none
  | k + 1, x0, x1, x12, x13 => if x13 < x12 then (if 0 ≤ x13 then (if x13 < (x0.length : Int) then (if x13 < (x1.length : Int) then (if (rd x0 x13) = (rd x1 x13) then (slices_Equal_byte_byte.l0 k x0 x1 x12 (wrap64 (x13 + 1))) else (some false)) else (none)) else (none)) else (none)) else (some true)
def slices_Equal_byte_byte.f (k : Nat) (l0 : List Int) (l1 : List Int) : Option (Bool) := if (l0.length : Int) = (l1.length : Int) then (slices_Equal_byte_byte.l0 k l0 l1 (l0.length : Int) 0) else (some false)
theorem slices_Equal_byte_byte.mono_l : ∀ k, (∀ y0 y1 y2 y3, LeO (slices_Equal_byte_byte.l0 k y0 y1 y2 y3) (slices_Equal_byte_byte.l0 (k + 1) y0 y1 y2 y3))
  | 0 => fun _ _ _ _ r h => by simp [slices_Equal_byte_byte.l0] at h
  | k + 1 => by
    have ih0 := slices_Equal_byte_byte.mono_l k
    · intro y0 y1 y2 y3
      unfold slices_Equal_byte_byte.l0
      repeat' first
      | (with_reducible exact ih0 _ _ _ _)
      | (with_reducible exact LeO.refl _)
      | (with_reducible exact LeO.none _)
      | (with_reducible refine LeO.ite ?_ ?_)
      | (with_reducible refine LeO.bind ?_ (fun _ => ?_))
      | exact ih0 _ _ _ _
      | exact LeO.none _
      | refine LeO.ite ?_ ?_
      | refine LeO.bind ?_ (fun _ => ?_)
theorem slices_Equal_byte_byte.mono : ∀ a0 a1 k, LeO (slices_Equal_byte_byte.f k a0 a1) (slices_Equal_byte_byte.f (k + 1) a0 a1) := by
  intro a0 a1 k
  have ih0 := slices_Equal_byte_byte.mono_l k
  unfold slices_Equal_byte_byte.f
  repeat' first
      | (with_reducible exact ih0 _ _ _ _)
      | (with_reducible exact LeO.refl _)
      | (with_reducible exact LeO.none _)
      | (with_reducible refine LeO.ite ?_ ?_)
      | (with_reducible refine LeO.bind ?_ (fun _ => ?_))
      | exact ih0 _ _ _ _
      | exact LeO.none _
      | refine LeO.ite ?_ ?_
      | refine LeO.bind ?_ (fun _ => ?_)
set_option maxHeartbeats 8000000 in
set_option maxRecDepth 100000 in
theorem slices_Equal_byte_byte.calls (k : Nat) (A0 : Option Addr) (c0 : Nat) (l0 : List Int) (A1 : Option Addr) (c1 : Nat) (l1 : List Int) (r : Bool) (w : World) (hr0 : Kd.C (Kd.int .u8) w A0 l0.length l0) (hc0 : l0.length ≤ c0) (hr1 : Kd.C (Kd.int .u8) w A1 l1.length l1) (hc1 : l1.length ≤ c1) (h : slices_Equal_byte_byte.f k l0 l1 = some r) :
    Calls Tryz.prog 116 #[.slice A0 l0.length c0, .slice A1 l1.length c1] w fun e w' => e = .returned (.bool r) ∧ Drawn0 w w' := by
  have HR0 := Aside0.mk hr0
  have HC0 := Aside0.mk hc0
  clear hr0 hc0
  have HR1 := Aside0.mk hr1
  have HC1 := Aside0.mk hc1
  clear hr1 hc1
  have H : (if (l0.length : Int) = (l1.length : Int) then (slices_Equal_byte_byte.l0 k l0 l1 (l0.length : Int) 0) else (some false)) = some r := h
  clear h
  by_cases c3 : (l0.length : Int) = (l1.length : Int)
  · rw [if_pos c3] at H
    have c3b0 : ((l0.length : Int) == (l1.length : Int)) = true := beq_iff_eq.mpr c3
    have c3b1 : ((l0.length : Int) != (l1.length : Int)) = false := bne_eq_false_iff_eq.mpr c3
    have c3b2 : (l0.length == l1.length) = true := by first | simpa using c3 | (simp at c3 ⊢; omega)
    clear c3
    have H' := Aside0.mk H
    clear H
    go_enter Tryz.func116, Tryz.ntmps116
    go_wp2
    repeat (go_quiet (fail); try go_wp2)
    go_loopg [13] k (fun kq v13 w' => ∃ (x13_1 : Int), v13 = .int .i64 x13_1 ∧ Aside0 (slices_Equal_byte_byte.l0 kq l0 l1 (l0.length : Int) x13_1 = some r) ∧ Aside0 (kq ≤ k) ∧ Drawn0 w w')
    case atStart => exact ⟨(0), (by first | rfl | (simp; done) | (simp [*]; done)), H', ⟨Nat.le_refl _⟩, by repeat (first | exact Drawn0.refl _ | apply Drawn0.step)⟩
    case round =>
      clear H'
      try clear c1
      try clear p2
      try clear c3
      try clear c3b0
      try clear c3b1
      try clear c3b2
      obtain ⟨x13_1, rfl, HA, HK1, ⟨m1, rfl⟩⟩ := hrel
      cases gk with
      | zero => exact absurd HA.out (by simp [slices_Equal_byte_byte.l0])
      | succ k1 =>
        have H := HA.out
        clear HA
        simp only [slices_Equal_byte_byte.l0] at H
        by_cases c4 : x13_1 < (l0.length : Int)
        · rw [if_pos c4] at H
          have c4b0 : decide (x13_1 < (l0.length : Int)) = true := decide_eq_true c4
          clear c4
          by_cases c5 : 0 ≤ x13_1
          · rw [if_pos c5] at H
            have c5b0 : decide (0 ≤ x13_1) = true := decide_eq_true c5
            clear c5
            by_cases c6 : x13_1 < (l0.length : Int)
            · rw [if_pos c6] at H
              have c6b0 : decide (x13_1 < (l0.length : Int)) = true := decide_eq_true c6
              clear c6
              by_cases c7 : x13_1 < (l1.length : Int)
              · rw [if_pos c7] at H
                have c7b0 : decide (x13_1 < (l1.length : Int)) = true := decide_eq_true c7
                clear c7
                by_cases c8 : (rd l0 x13_1) = (rd l1 x13_1)
                · rw [if_pos c8] at H
                  have c8b0 : ((rd l0 x13_1) == (rd l1 x13_1)) = true := beq_iff_eq.mpr c8
                  have c8b1 : ((rd l0 x13_1) != (rd l1 x13_1)) = false := bne_eq_false_iff_eq.mpr c8
                  clear c8
                  have H' := Aside0.mk H
                  clear H
                  have p124 : 0 ≤ (x13_1 : Int) := of_decide_eq_true (by first | (with_reducible assumption) | assumption)
                  have q124 : x13_1 < (l0.length : Int) := of_decide_eq_true (by first | (with_reducible assumption) | assumption)
                  obtain ⟨ad124, e124, hx124_0⟩ := Kd.at_int HR0.out x13_1 p124 q124
                  cases e124
                  replace p124 := eq_true p124
                  replace q124 := eq_true q124
                  have p125 : 0 ≤ (x13_1 : Int) := of_decide_eq_true (by first | (with_reducible assumption) | assumption)
                  have q125 : x13_1 < (l1.length : Int) := of_decide_eq_true (by first | (with_reducible assumption) | assumption)
                  obtain ⟨ad125, e125, hx125_0⟩ := Kd.at_int HR1.out x13_1 p125 q125
                  cases e125
                  replace p125 := eq_true p125
                  replace q125 := eq_true q125
                  go_wp2
                  repeat (go_quiet (fail); try go_wp2)
                  go_roundg k1
                  case measure => have := HK1.out; omega
                  case rel => exact ⟨(wrap64 (x13_1 + 1)), (by first | rfl | (simp; done) | (simp [*]; done)), H', ⟨by have := HK1.out; omega⟩, by repeat (first | exact Drawn0.refl _ | apply Drawn0.step)⟩
                · rw [if_neg c8] at H
                  have c8b0 : ((rd l0 x13_1) == (rd l1 x13_1)) = false := beq_eq_false_iff_ne.mpr c8
                  have c8b1 : ((rd l0 x13_1) != (rd l1 x13_1)) = true := bne_iff_ne.mpr c8
                  obtain rfl := Option.some.inj H
                  have p124 : 0 ≤ (x13_1 : Int) := of_decide_eq_true (by first | (with_reducible assumption) | assumption)
                  have q124 : x13_1 < (l0.length : Int) := of_decide_eq_true (by first | (with_reducible assumption) | assumption)
                  obtain ⟨ad124, e124, hx124_0⟩ := Kd.at_int HR0.out x13_1 p124 q124
                  cases e124
                  replace p124 := eq_true p124
                  replace q124 := eq_true q124
                  have p125 : 0 ≤ (x13_1 : Int) := of_decide_eq_true (by first | (with_reducible assumption) | assumption)
                  have q125 : x13_1 < (l1.length : Int) := of_decide_eq_true (by first | (with_reducible assumption) | assumption)
                  obtain ⟨ad125, e125, hx125_0⟩ := Kd.at_int HR1.out x13_1 p125 q125
                  cases e125
                  replace p125 := eq_true p125
                  replace q125 := eq_true q125
                  go_wp2
                  repeat (go_quiet (fail); try go_wp2)
                  go_ret
                  exact ⟨by first | rfl | (simp; done) | (simp [*]; done), by repeat (first | exact Drawn0.refl _ | apply Drawn0.step)⟩
              · rw [if_neg c7] at H
                exact absurd H (by simp)
            · rw [if_neg c6] at H
              exact absurd H (by simp)
          · rw [if_neg c5] at H
            exact absurd H (by simp)
        · rw [if_neg c4] at H
          have c4b0 : decide (x13_1 < (l0.length : Int)) = false := decide_eq_false c4
          clear c4
          obtain rfl := Option.some.inj H
          go_wp2
          repeat (go_quiet (fail); try go_wp2)
          go_ret
          exact ⟨by first | rfl | (simp; done) | (simp [*]; done), by repeat (first | exact Drawn0.refl _ | apply Drawn0.step)⟩
  · rw [if_neg c3] at H
    have c3b0 : ((l0.length : Int) == (l1.length : Int)) = false := beq_eq_false_iff_ne.mpr c3
    have c3b1 : ((l0.length : Int) != (l1.length : Int)) = true := bne_iff_ne.mpr c3
    have c3b2 : (l0.length == l1.length) = false := by first | simpa using c3 | (simp at c3 ⊢; omega)
    obtain rfl := Option.some.inj H
    go_enter Tryz.func116, Tryz.ntmps116
    go_wp2
    repeat (go_quiet (fail); try go_wp2)
    go_ret
    exact ⟨by first | rfl | (simp; done) | (simp [*]; done), by repeat (first | exact Drawn0.refl _ | apply Drawn0.step)⟩


theorem eq_loop : ∀ (k i : Nat) (a b : List Int), a.length = b.length → a.length ≤ 1000000000000 → a.length < i + k → i ≤ a.length → slices_Equal_byte_byte.l0 k a b (a.length : Int) (i : Int) = some (decide (a.drop i = b.drop i))
  | 0, i, a, b, he, hl, hk, hi => by omega
  | k + 1, i, a, b, he, hl, hk, hi => by
    rw [slices_Equal_byte_byte.l0]
    by_cases h : i < a.length
    · rw [if_pos (by omega), if_pos (by omega), if_pos (by omega), if_pos (by omega), rd_nat, rd_nat, List.getD_eq_getElem?_getD, List.getD_eq_getElem?_getD, List.getElem?_eq_getElem h, List.getElem?_eq_getElem (by omega)]
      have hw : wrap64 ((i : Int) + 1) = ((i + 1 : Nat) : Int) := by unfold wrap64; omega
      rw [List.drop_eq_getElem_cons h, List.drop_eq_getElem_cons (by omega : i < b.length)]
      simp only [Option.getD_some]
      by_cases e : a[i] = b[i]
      · rw [if_pos e, hw, eq_loop k (i + 1) a b he hl (by omega) (by omega)]
        congr 1
        rw [decide_eq_decide]
        exact ⟨fun h => by rw [h, e], fun h => (List.cons.inj h).2⟩
      · rw [if_neg e, decide_eq_false (fun h => e (List.cons.inj h).1)]
    · rw [if_neg (by omega), List.drop_of_length_le (by omega), List.drop_of_length_le (by omega)]
      simp
theorem eq_all (a b : List Int) (hl : a.length ≤ 1000000000000) : slices_Equal_byte_byte.f (a.length + 1) a b = some (decide (a = b)) := by
  rw [slices_Equal_byte_byte.f]
  by_cases h : a.length = b.length
  · rw [if_pos (by omega)]
    have := eq_loop (a.length + 1) 0 a b h hl (by omega) (by omega)
    simpa using this
  · rw [if_neg (by omega)]
    have : a ≠ b := fun e => h (by rw [e])
    simp [this]
theorem equal_any (A0 : Option Addr) (c0 : Nat) (l0 : List Int) (A1 : Option Addr) (c1 : Nat) (l1 : List Int) (w : World) (hr0 : Kd.C (Kd.int .u8) w A0 l0.length l0) (hc0 : l0.length ≤ c0) (hr1 : Kd.C (Kd.int .u8) w A1 l1.length l1) (hc1 : l1.length ≤ c1) (hl : l0.length ≤ 1000000000000) :
    Calls Tryz.prog 116 #[.slice A0 l0.length c0, .slice A1 l1.length c1] w fun e w' => e = .returned (.bool (decide (l0 = l1))) ∧ Below w.heap.size w w' :=
  (slices_Equal_byte_byte.calls _ A0 c0 l0 A1 c1 l1 _ w hr0 hc0 hr1 hc1 (eq_all l0 l1 hl)).mono fun e w' ⟨h1, h2⟩ => ⟨h1, by
    obtain ⟨m, rfl⟩ := h2
    exact pw_below_drewN (Below.refl _ _) m⟩
end Go.Proofs.YtdekmeanlcpenaaGreatDoor.SlEq

namespace Go.Proofs.YtdekmeanlcpenaaGreatDoor.Codec
open Go.RowKit Go.Proofs.YtdekmeanlcpenaaGreatDoorW.PrintWords Go.Proofs.YtdekmeanlcpenaaGreatDoor.Mid Go.Proofs.YtdekmeanlcpenaaGreatDoor.Pick Go.Proofs.YtdekmeanlcpenaaGreatDoor.Block
/-- What reading a journal answers. -/
inductive RetRead (W : World) (l : List Int) (e : Ending) (w' : World) : Prop
  | yes (j : Jn) (A1 : Option Addr) (c1 : Nat) (A2 : Option Addr) (c2 : Nat) (A3 : Option Addr) (c3 : Nat) (V : JnV j) (K : JnOk j) (hl : encW j = l)
      (he : e = .returned (.tuple #[.agg (jC j A1 c1 A2 c2 A3 c3).toArray, .bool true])) (h1 : Kd.R resK 33 w' W.heap.size (fun _ => True) (.slice A1 j.res.length c1) j.res) (h2 : Kd.R idK 29 w' W.heap.size (fun _ => True) (.slice A2 j.need.length c2) j.need) (h3 : Kd.R resK 33 w' W.heap.size (fun _ => True) (.slice A3 j.tab.length c3) j.tab) (hB : Below W.heap.size W w')
  | no (hn : ∀ j, JnV j → JnOk j → encW j ≠ l) (cs : List Value) (hc : cs.length = 6) (h1 : ∀ v ∈ cs, v.oneCell' = true) (he : e = .returned (.tuple #[.agg cs.toArray, .bool false])) (hB : Below W.heap.size W w')
def rd1 (l : List Int) := (RS.start l).fixed 1
def rd2 (l : List Int) := (rd1 l).2.text 112
def rd3 (l : List Int) := (rd2 l).2.fixed 4
def rd4 (l : List Int) := (rd3 l).2.fixed 4
def rd5 (l : List Int) := (rd4 l).2.text l.length
def rd6 (l : List Int) := (rd5 l).2.num
def rd7 (l : List Int) := needS (rd6 l).1 (rd6 l).2
def rd8 (l : List Int) := (rd7 l).2.text l.length
/-- What the bytes say. -/
structure JnRead (l : List Int) (j : Jn) : Prop where
  res : Parsed (rd5 l).1 j.res
  tab : Parsed (rd8 l).1 j.tab
  eq : j = ⟨strOfNums (rd2 l).1, (rd3 l).1, (rd4 l).1, j.res, (rd7 l).1, j.tab⟩
theorem JnRead.one {l : List Int} {i j : Jn} (h : JnRead l i) (h' : JnRead l j) : i = j := by
  have e1 := h.res.one h'.res
  have e2 := h.tab.one h'.tab
  rw [h.eq, h'.eq, e1, e2]
end Go.Proofs.YtdekmeanlcpenaaGreatDoor.Codec
