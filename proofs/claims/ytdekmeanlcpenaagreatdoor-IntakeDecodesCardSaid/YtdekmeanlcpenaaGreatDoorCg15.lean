import Derived.Test.YtdekmeanlcpenaaGreatDoorCg11
import Derived.Test.YtdekmeanlcpenaaGreatDoorCg14
import Derived.Test.YtdekmeanlcpenaaGreatDoorCg9
import Derived.Test.YtdekmeanlcpenaaGreatDoorCg10
set_option linter.unusedSimpArgs false
set_option linter.unusedVariables false
namespace Go.Proofs.YtdekmeanlcpenaaGreatDoor.Block
end Go.Proofs.YtdekmeanlcpenaaGreatDoor.Block
namespace Go.Proofs.YtdekmeanlcpenaaGreatDoor.Codec
end Go.Proofs.YtdekmeanlcpenaaGreatDoor.Codec
namespace Go.Proofs.YtdekmeanlcpenaaGreatDoor.Err
end Go.Proofs.YtdekmeanlcpenaaGreatDoor.Err
namespace Go.Proofs.YtdekmeanlcpenaaGreatDoor.Law
end Go.Proofs.YtdekmeanlcpenaaGreatDoor.Law
namespace Go.Proofs.YtdekmeanlcpenaaGreatDoor.Mid
end Go.Proofs.YtdekmeanlcpenaaGreatDoor.Mid
namespace Go.Proofs.YtdekmeanlcpenaaGreatDoor.PIntakeDecodes
end Go.Proofs.YtdekmeanlcpenaaGreatDoor.PIntakeDecodes
namespace Go.Proofs.YtdekmeanlcpenaaGreatDoor.Pick
end Go.Proofs.YtdekmeanlcpenaaGreatDoor.Pick
namespace Go.Proofs.YtdekmeanlcpenaaGreatDoor.Law
open Go.RowKit Go.Proofs.YtdekmeanlcpenaaGreatDoorW.PrintWords Go.Proofs.YtdekmeanlcpenaaGreatDoorW.PrintLast Go.Proofs.YtdekmeanlcpenaaGreatDoorW.PrintMore Go.Proofs.YtdekmeanlcpenaaGreatDoor.Mid Go.Proofs.YtdekmeanlcpenaaGreatDoor.Pick Go.Proofs.YtdekmeanlcpenaaGreatDoor.Err Go.Proofs.YtdekmeanlcpenaaGreatDoor.Codec
set_option maxRecDepth 100000
set_option linter.unusedVariables false
open Classical in
/-- A journal's bytes, if it may be. -/
noncomputable def encF (j : Jn) : List Int := if JnV j then encW j else []
open Classical in
noncomputable def codeF (j : Jn) : Int := if JnV j then 0 else 161
theorem encF_yes {j : Jn} (V : JnV j) : encF j = encW j := by unfold encF; rw [if_pos V]
theorem encF_no {j : Jn} (V : ¬ JnV j) : encF j = [] := by unfold encF; rw [if_neg V]
theorem codeF_yes {j : Jn} (V : JnV j) : codeF j = 0 := by unfold codeF; rw [if_pos V]
theorem codeF_no {j : Jn} (V : ¬ JnV j) : codeF j = 161 := by unfold codeF; rw [if_neg V]
theorem encF_le {j : Jn} (K : JnOk j) : (encF j).length ≤ 8004 := by
  by_cases V : JnV j
  · rw [encF_yes V]; exact enc_le V K
  · rw [encF_no V]; exact Nat.zero_le _
/-- What an error is, by its number. -/
def ErrIs (op : ByteArray) (w : World) (v : Value) (n : Int) : Prop := (n = 0 ∧ v = .nilIface) ∨ (n ≠ 0 ∧ ∃ g, v = .iface 79 (.pointer (some ⟨g, 0, none⟩)) ∧ w.heap[g]? = some (.cells (faultC op ⟨#[]⟩ z32 (errno n)).toArray 82 (0, 0)))
theorem ErrIs.below {op : ByteArray} {w w1 : World} {v : Value} {n : Int} (h : ErrIs op w v n) (hb : Below w.heap.size w w1) : ErrIs op w1 v n := by
  rcases h with h | ⟨h1, g, h2, h3⟩
  · exact .inl h
  · exact .inr ⟨h1, g, h2, blk_below h3 hb⟩
theorem says_any (op : ByteArray) (v : Value) (n : Int) (w : World) (hH : Handle w) (h : ErrIs op w v n) : Calls Tryz.prog 21 #[v, .string op, .string ⟨#[]⟩, .int .i64 n, .agg (u8s z32).toArray] w fun e w' => e = .returned (.bool true) ∧ Below w.heap.size w w' := by
  rcases h with ⟨rfl, rfl⟩ | ⟨h1, g, rfl, h3⟩
  · exact says_nil op ⟨#[]⟩ z32 w
  · exact says_some op ⟨#[]⟩ z32 n h1 z32_ok g w hH h3
theorem rencode_any (j : Jn) (A1 : Option Addr) (c1 : Nat) (A2 : Option Addr) (c2 : Nat) (A3 : Option Addr) (c3 : Nat) (w : World) (hJ : JAt w j A1 c1 A2 c2 A3 c3) (l1 : j.res.length ≤ 140737488355328) (l2 : j.need.length ≤ 140737488355328) (l3 : j.tab.length ≤ 140737488355328) :
    Calls Tryz.prog 20 #[.agg (jC j A1 c1 A2 c2 A3 c3).toArray] w fun e w' => ∃ A k, e = .returned (.tuple #[.slice A (encF j).length k, .int .i64 (codeF j)]) ∧ Kd.R (Kd.int .u8) 5 w' w.heap.size (fun _ => True) (.slice A (encF j).length k) (encF j) ∧ Below w.heap.size w w' := by
  by_cases V : JnV j
  · rw [encF_yes V, codeF_yes V]
    exact renc_yes j A1 c1 A2 c2 A3 c3 w hJ l1 l2 l3 V
  · rw [encF_no V, codeF_no V]
    exact (renc_no j A1 c1 A2 c2 A3 c3 w hJ l1 l2 l3 V).mono fun e w' ⟨h1, h3⟩ => ⟨none, 0, h1, Kd.R_nil _ _ _ _ _, h3⟩
end Go.Proofs.YtdekmeanlcpenaaGreatDoor.Law

namespace Go.Proofs.YtdekmeanlcpenaaGreatDoor.Codec
open Go.RowKit Go.Proofs.YtdekmeanlcpenaaGreatDoorW.PrintWords Go.Proofs.YtdekmeanlcpenaaGreatDoorW.PrintLast Go.Proofs.YtdekmeanlcpenaaGreatDoorW.PrintMore Go.Proofs.YtdekmeanlcpenaaGreatDoor.Mid Go.Proofs.YtdekmeanlcpenaaGreatDoor.Pick Go.Proofs.YtdekmeanlcpenaaGreatDoor.Block Go.Proofs.YtdekmeanlcpenaaGreatDoor.PIntakeDecodes
set_option maxHeartbeats 4000000
set_option maxRecDepth 100000
set_option linter.unusedVariables false
/-- Reading a journal: the reader, the answer's variable, the journal's own. -/
structure DS (W : World) (g q2 q5 : Nat) (w : World) (s : RS) (cs : List Value) : Prop where
  rd : Rr W w g s
  out : w.heap[q2]? = some (.cells (jV .empty 0 0 nilS nilS nilS).toArray 60 (0, 0))
  blk : w.heap[q5]? = some (.cells cs.toArray 60 (0, 0))
  old : W.heap.size ≤ q2
  lt2 : q2 < g
  lt : g < q5
section
variable {W w w1 : World} {g q2 q5 : Nat} {s s1 : RS} {cs ds : List Value}
theorem DS.lt5 (h : DS W g q2 q5 w s cs) : q5 < w.heap.size := blk_lt h.blk
theorem DS.below (h : DS W g q2 q5 w s cs) (hb : Below w.heap.size w w1) : DS W g q2 q5 w1 s cs := ⟨h.rd.below hb, blk_below h.out hb, blk_below h.blk hb, h.old, h.lt2, h.lt⟩
theorem DS.step (h : DS W g q2 q5 w s cs) (hr : Rr W w1 g s1) (hk : KeepBut w w1 g none) : DS W g q2 q5 w1 s1 cs :=
  ⟨hr, (hk.2 q2 (blk_lt h.out) (by have := h.lt2; omega) (by simp)).trans h.out, (hk.2 q5 h.lt5 (by have := h.lt; omega) (by simp)).trans h.blk, h.old, h.lt2, h.lt⟩
theorem Rr.keep (h : Rr W w g s) (hg : w1.heap[g]? = w.heap[g]?) (hb : Below W.heap.size W w1) : Rr W w1 g s := by
  obtain ⟨A, c, h1, h2⟩ := h.is
  exact ⟨⟨A, c, hg.trans h1, h2⟩, hb, h.byt, h.len, h.at_⟩
theorem DS.low (h : DS W g q2 q5 w s cs) {b : Nat} (hq : q5 < b) (hb : Below b w w1) : DS W g q2 q5 w1 s cs :=
  ⟨h.rd.keep (hb.block g (by have := h.lt; omega)) (h.rd.bel.trans (hb.mono (by have := h.old; have := h.lt2; have := h.lt; omega))), (hb.block q2 (by have := h.lt2; have := h.lt; omega)).trans h.out, (hb.block q5 hq).trans h.blk, h.old, h.lt2, h.lt⟩
theorem DS.put (h : DS W g q2 q5 w s cs) (hb : w1.heap[q5]? = some (.cells ds.toArray 60 (0, 0))) (hG : w.grownBy w1 (some q5)) : DS W g q2 q5 w1 s ds :=
  ⟨h.rd.keep (hG.block g (by have := h.lt; have := h.lt5; omega) (fun e => absurd (Option.some.inj e) (by have := h.lt; omega))) (h.rd.bel.grown hG h.rd.bel.size (fun k hk => by cases hk; have := h.old; have := h.lt2; have := h.lt; omega)), blk_grown h.out hG (fun e => absurd (Option.some.inj e) (by have := h.lt; have := h.lt2; omega)), hb, h.old, h.lt2, h.lt⟩
theorem R_kb {α : Type} {d : Kd α} {e : TypeId} {b : Nat} {v : Value} {xs : List α} (hE : d.E = []) (h : d.R e w b (fun _ => True) v xs) (hk : KeepBut w w1 g none) (hg : some g ≠ v.ownBlock) : d.R e w1 b (fun _ => True) v xs :=
  Kd.R_mono (Kd.R_move (ok := fun k => some k = v.ownBlock) (Kd.R_tight hE h) (fun k hk' => hk.2 k (Kd.R_lt h k hk'.symm) (fun e => hg (by rw [← e]; exact hk')) (by simp))) (fun _ _ => trivial)
end
/-- .. and what was made beside it: the needs, the results of the table. -/
structure LB (W : World) (g q2 q5 b7 : Nat) (w : World) (s : RS) (cs : List Value) (v4 : Value) (ids : List (List Int)) (v6 : Value) (rs : List Res) : Prop where
  d : DS W g q2 q5 w s cs
  r4 : Kd.R idK 29 w b7 (fun _ => True) v4 ids
  r6 : Kd.R resK 33 w (q5 + 1) (fun _ => True) v6 rs
  sz : b7 ≤ w.heap.size
  q5 : q5 < b7
section
variable {W w w1 : World} {g q2 q5 b7 : Nat} {s s1 : RS} {cs ds : List Value} {v4 v6 : Value} {ids : List (List Int)} {rs : List Res}
theorem LB.below (h : LB W g q2 q5 b7 w s cs v4 ids v6 rs) (hb : Below w.heap.size w w1) : LB W g q2 q5 b7 w1 s cs v4 ids v6 rs := ⟨h.d.below hb, Kd.R_below h.r4 hb, Kd.R_below h.r6 hb, Nat.le_trans h.sz hb.size, h.q5⟩
theorem LB.step (h : LB W g q2 q5 b7 w s cs v4 ids v6 rs) (hr : Rr W w1 g s1) (hk : KeepBut w w1 g none) : LB W g q2 q5 b7 w1 s1 cs v4 ids v6 rs :=
  ⟨h.d.step hr hk, R_kb rfl h.r4 hk (fun e => by have h1 := Kd.R_base h.r4 _ e.symm; have h2 := h.d.lt; have h3 := h.q5; omega), R_kb rfl h.r6 hk (fun e => by have h1 := Kd.R_base h.r6 _ e.symm; have h2 := h.d.lt; omega), Nat.le_trans h.sz hk.1, h.q5⟩
theorem LB.set (h : LB W g q2 q5 b7 w s cs v4 ids v6 rs) {q j : Nat} {v : Value} (hq : b7 ≤ q) (h4 : some q ≠ v4.ownBlock) (h6 : some q ≠ v6.ownBlock) : LB W g q2 q5 b7 (w.setCell ⟨q, j, none⟩ v) s cs v4 ids v6 rs :=
  ⟨h.d.low h.q5 (below_grown (grown_set w ⟨q, j, none⟩ v) hq h.sz), Kd.R_grown1 h.r4 rfl (grown_set w ⟨q, j, none⟩ v) h4, Kd.R_grown1 h.r6 rfl (grown_set w ⟨q, j, none⟩ v) h6, Nat.le_trans h.sz (grown_set w ⟨q, j, none⟩ v).size, h.q5⟩
end
theorem fill_more {x : List Int} {a : Nat} (hx : x.length ≤ 32) (ha : a < x.length) : (x.take a ++ List.replicate (32 - a) 0).set a (x.getD a 0) = x.take (a + 1) ++ List.replicate (32 - (a + 1)) 0 := by
  have hl : (x.take a).length = a := by rw [List.length_take]; omega
  rw [List.set_append_right _ _ (by omega), hl, Nat.sub_self, show 32 - a = (32 - (a + 1)) + 1 by omega, List.replicate_succ, List.set_cons_zero, List.take_add_one, List.getElem?_eq_getElem (by omega), List.getD_eq_getElem?_getD, List.getElem?_eq_getElem (by omega), List.append_assoc]
  rfl
theorem fill_cell {x : List Int} {a : Nat} (ha : a < 32) (hx : a < x.length) : ∃ v, (u8s (x.take a ++ List.replicate (32 - a) 0))[a]? = some v := ⟨_, List.getElem?_eq_getElem (by rw [u8s_length, List.length_append, List.length_take, List.length_replicate]; omega)⟩
/-- Parsing, without a case. -/
theorem p8_all (W : World) (A : Option Addr) (c : Nat) (l : List Int) (hC : Kd.C (Kd.int .u8) W A l.length l) (hb : Byt l) (hl : l.length ≤ 140737488351232) :
    Calls Tryz.prog 68 #[.slice A l.length c] W fun e w' => ∃ rs A1 c1 e1, e = .returned (.tuple #[.slice A1 rs.length c1, .int .i64 e1]) ∧ Kd.R resK 33 w' W.heap.size (fun _ => True) (.slice A1 rs.length c1) rs ∧ Below W.heap.size W w' ∧ (∀ r ∈ rs, ResOk r) ∧ rs.length ≤ 32 ∧ ∀ qs, Table qs → (∀ r ∈ qs, ResOk r) → tabW qs = l → e1 = 0 ∧ rs = qs :=
  (p8_any W A c l hC hb hl).mono fun e w' h => by
    cases h with
    | yes rs A1 c1 T ok ht he hR hB => exact ⟨rs, A1, c1, 0, he, hR, hB, ok, T.most, fun qs T' ok' h' => ⟨rfl, tab_inj T T' ok ok' (ht.trans h'.symm)⟩⟩
    | no hn he hB => exact ⟨[], none, 0, 80, he, Kd.R_nil _ _ _ _ _, hB, (fun r hr => by cases hr), Nat.zero_le _, fun qs T' ok' h' => absurd h' (hn qs T' ok')⟩
/-- What a reader reads out of a journal's form, if the most a name may have is the whole. -/
theorem got_all {j : Jn} (V : JnV j) (K : JnOk j) {data : List Int} (hd : encW j = data) {x1 x3 x4 : Int} {x2 x5 x8 : List Int} {n k : Nat} {x7 : List (List Int)} {s1 s2 s3 s4 s5 s6 s7 s8 : RS}
    (e1 : (RS.start data).fixed 1 = (x1, s1)) (e2 : s1.text data.length = (x2, s2)) (e3 : s2.fixed 4 = (x3, s3)) (e4 : s3.fixed 4 = (x4, s4)) (e5 : s4.text data.length = (x5, s5)) (e6 : s5.num = (n, s6)) (hk : n ≤ 64 → k = n) (e7 : needS k s6 = (x7, s7)) (e8 : s7.text data.length = (x8, s8)) :
    GotEnc j x1 x2 x3 x4 x5 n x7 x8 s8 [] := by
  have a0 : (RS.start data).At (fixW 74 1 ++ (txtW (sBytes j.name) ++ (fixW j.ent.toNat 4 ++ (fixW j.idx.toNat 4 ++ (txtW (tabW j.res) ++ (numW j.need.length ++ (j.need.flatten ++ (txtW (tabW j.tab) ++ fixW (sumS (bodyW j)) 4)))))))) := by
    have : data = fixW 74 1 ++ (txtW (sBytes j.name) ++ (fixW j.ent.toNat 4 ++ (fixW j.idx.toNat 4 ++ (txtW (tabW j.res) ++ (numW j.need.length ++ (j.need.flatten ++ (txtW (tabW j.tab) ++ fixW (sumS (bodyW j)) 4))))))) := by
      rw [← hd]; simp only [encW, bodyW, List.append_assoc]
    have h := RS.at_start data
    rw [this] at h ⊢
    exact h
  have f1 := a0.fixed (by decide : (74 : Nat) < 256 ^ 1)
  rw [e1] at f1
  injection f1 with g1 g1'
  have a1 := a0.on
  rw [fixW_length, ← g1'] at a1
  have hnl : (sBytes j.name).length ≤ data.length := by
    rw [← hd]; simp only [encW, bodyW, txtW, List.length_append]; omega
  have hn2 : (sBytes j.name).length ≤ 112 := by rw [sBytes_length]; exact V.name.most
  have f2 := a1.text (most := data.length) (by omega) hnl
  have f2' := a1.text (most := 112) (by omega) hn2
  exact got_enc V K (Nat.le_refl 112) (by rw [List.append_nil]; exact hd) e1 (f2'.trans (f2.symm.trans e2)) e3 e4 e5 e6 hk e7 e8
theorem got_is8 {j : Jn} {x1 x3 x4 : Int} {x2 x5 x8 : List Int} {n : Nat} {x7 : List (List Int)} {s : RS} {t : List Int} (V : JnV j) (K : JnOk j) (G : GotEnc j x1 x2 x3 x4 x5 n x7 x8 s t) (hb : Byt x2) {rs qs : List Res} {e1 e2 : Int} (h5 : ∀ us, Table us → (∀ r ∈ us, ResOk r) → tabW us = x5 → e1 = 0 ∧ rs = us) (h8 : ∀ us, Table us → (∀ r ∈ us, ResOk r) → tabW us = x8 → e2 = 0 ∧ qs = us) : e1 = 0 ∧ e2 = 0 ∧ j = ⟨strOfNums x2, x3, x4, rs, x7, qs⟩ := by
  have a5 := h5 j.res V.res K.res G.res.symm
  have a8 := h8 j.tab V.tab K.tab G.tab.symm
  have e : strOfNums x2 = j.name := sBytes_inj ((str_bytes hb).trans G.name)
  exact ⟨a5.1, a8.1, by rw [e, G.ent, G.idx, G.need, a5.2, a8.2]⟩
theorem like_l0 (l m : List Int) (h : l.length = m.length) (hl : l.length ≤ 140737488351232) : ∀ (k i : Nat), i + k = l.length → (∀ j < i, rd l (j : Int) = rd m (j : Int)) → freightref15_Like.l0 (k + 1) l m (i : Int) = some (decide (l = m))
  | 0, i, hi, he => by
    unfold freightref15_Like.l0
    rw [if_neg (by omega)]
    congr 1
    symm
    rw [decide_eq_true_iff]
    apply List.ext_getElem h
    intro j h1 h2
    have := he j (by omega)
    rw [rd_nat, rd_nat, List.getD_eq_getElem?_getD, List.getD_eq_getElem?_getD, List.getElem?_eq_getElem h1, List.getElem?_eq_getElem h2] at this
    exact this
  | k + 1, i, hi, he => by
    unfold freightref15_Like.l0
    rw [if_pos (by omega), if_pos (by omega), if_pos (by omega)]
    by_cases hr : rd l (i : Int) = rd m (i : Int)
    · have ih := like_l0 l m h hl k (i + 1) (by omega) (fun j hj => by
        rcases Nat.lt_or_ge j i with h1 | h1
        · exact he j h1
        · rw [show j = i by omega]; exact hr)
      have hw : wrap64 ((i : Int) + 1) = ((i + 1 : Nat) : Int) := w64one (by omega)
      rw [if_pos hr, hw]
      exact ih
    · rw [if_neg hr]
      congr 1
      symm
      rw [decide_eq_false_iff_not]
      intro e
      exact hr (by rw [e])
theorem like_any (A0 : Option Addr) (c0 : Nat) (l0 : List Int) (A1 : Option Addr) (c1 : Nat) (l1 : List Int) (w : World) (hr0 : Kd.C (Kd.int .u8) w A0 l0.length l0) (hc0 : l0.length ≤ c0) (hr1 : Kd.C (Kd.int .u8) w A1 l1.length l1) (hc1 : l1.length ≤ c1) (hl : l0.length ≤ 140737488351232) :
    Calls Tryz.prog 71 #[.slice A0 l0.length c0, .slice A1 l1.length c1] w fun e w' => e = .returned (.bool (decide (l0 = l1))) ∧ Below w.heap.size w w' :=
  (freightref15_Like.calls (l0.length + 1) A0 c0 l0 A1 c1 l1 (decide (l0 = l1)) w hr0 hc0 hr1 hc1 (by
    unfold freightref15_Like.f
    by_cases h : l0.length = l1.length
    · rw [if_pos (by omega)]
      exact like_l0 l0 l1 h hl l0.length 0 (by omega) (fun j hj => by omega)
    · rw [if_neg (by omega)]
      congr 1
      symm
      rw [decide_eq_false_iff_not]
      intro e
      exact h (by rw [e]))).mono fun e w' ⟨h1, h2⟩ => ⟨h1, h2.below⟩
/-- How many needs the bytes tell of. -/
def nOf (l : List Int) : Nat := ((((((RS.start l).fixed 1).2.text l.length).2.fixed 4).2.fixed 4).2.text l.length).2.num.1
/-- What decoding answers. -/
structure RetDecJ (W : World) (l : List Int) (j : Jn) (n : Int) (A1 : Option Addr) (c1 : Nat) (A2 : Option Addr) (c2 : Nat) (A3 : Option Addr) (c3 : Nat) (w' : World) : Prop where
  what : (JnV j ∧ encW j = l ∧ n = 0) ∨ ((∀ i, JnV i → JnOk i → encW i ≠ l) ∧ j = ⟨.empty, 0, 0, [], [], []⟩ ∧ n = 161)
  ok : JnOk j
  r1 : Kd.R resK 33 w' W.heap.size (fun _ => True) (.slice A1 j.res.length c1) j.res
  r2 : Kd.R idK 29 w' W.heap.size (fun _ => True) (.slice A2 j.need.length c2) j.need
  r3 : Kd.R resK 33 w' W.heap.size (fun _ => True) (.slice A3 j.tab.length c3) j.tab
  bel : Below W.heap.size W w'
def RetDec (W : World) (l : List Int) (e : Ending) (w' : World) : Prop := ∃ j n A1 c1 A2 c2 A3 c3, e = .returned (.tuple #[.agg (jC j A1 c1 A2 c2 A3 c3).toArray, .int .i64 n]) ∧ RetDecJ W l j n A1 c1 A2 c2 A3 c3 w'
theorem ret_dec_no {W w' : World} {l : List Int} (hn : ∀ i, JnV i → JnOk i → encW i ≠ l) (hb : Below W.heap.size W w') : RetDec W l (.returned (.tuple #[.agg (jV .empty 0 0 nilS nilS nilS).toArray, .int .i64 161])) w' :=
  ⟨⟨.empty, 0, 0, [], [], []⟩, 161, none, 0, none, 0, none, 0, rfl, .inr ⟨hn, rfl, rfl⟩, ⟨(fun _ h => by cases h), (fun _ h => by cases h), (fun _ h => by cases h)⟩, Kd.R_nil _ _ _ _ _, Kd.R_nil _ _ _ _ _, Kd.R_nil _ _ _ _ _, hb⟩
end Go.Proofs.YtdekmeanlcpenaaGreatDoor.Codec

namespace Go.Proofs.YtdekmeanlcpenaaGreatDoor.Codec
open Go.RowKit Go.Proofs.YtdekmeanlcpenaaGreatDoorW.PrintWords Go.Proofs.YtdekmeanlcpenaaGreatDoorW.PrintLast Go.Proofs.YtdekmeanlcpenaaGreatDoorW.PrintMore Go.Proofs.YtdekmeanlcpenaaGreatDoor.Mid Go.Proofs.YtdekmeanlcpenaaGreatDoor.Pick Go.Proofs.YtdekmeanlcpenaaGreatDoor.Block Go.Proofs.YtdekmeanlcpenaaGreatDoor.PIntakeDecodes Go.Proofs.YtdekmeanlcpenaaGreatDoor.Law
attribute [local go_sem ↓ high] load33_eq load29_eq load60_eq
attribute [local simp] rowOf_drew rowOf_drewN
attribute [local go_sem high] load33_row load29_row load60_row rowOf_drew rowOf_drewN
set_option maxHeartbeats 40000000
set_option maxRecDepth 100000
set_option linter.unusedVariables false
set_option linter.unusedSimpArgs false
theorem rdec_T (W : World) (A : Option Addr) (c : Nat) (l : List Int) (hC : Kd.C (Kd.int .u8) W A l.length l) (hb : Byt l) (hl : l.length ≤ 140737488351232) (hcp : l.length ≤ c) (hN : nOf l ≤ 65) :
    Calls Tryz.prog 27 #[.slice A l.length c] W (RetDec W l) := by
  obtain ⟨⟨x1, s1⟩, e1⟩ : ∃ p, (RS.start l).fixed 1 = p := ⟨_, rfl⟩
  obtain ⟨⟨x2, s2⟩, e2⟩ : ∃ p, s1.text l.length = p := ⟨_, rfl⟩
  obtain ⟨⟨x3, s3⟩, e3⟩ : ∃ p, s2.fixed 4 = p := ⟨_, rfl⟩
  obtain ⟨⟨x4, s4⟩, e4⟩ : ∃ p, s3.fixed 4 = p := ⟨_, rfl⟩
  obtain ⟨⟨x5, s5⟩, e5⟩ : ∃ p, s4.text l.length = p := ⟨_, rfl⟩
  obtain ⟨⟨n, s6⟩, e6⟩ : ∃ p, s5.num = p := ⟨_, rfl⟩
  obtain ⟨m, hm⟩ : ∃ m, m = n := ⟨_, rfl⟩
  obtain ⟨⟨x7, s7⟩, e7⟩ : ∃ p, needS m s6 = p := ⟨_, rfl⟩
  obtain ⟨⟨x8, s8⟩, e8⟩ : ∃ p, s7.text l.length = p := ⟨_, rfl⟩
  have hN1 : nOf l = n := by rw [nOf, e1]; simp only; rw [e2]; simp only; rw [e3]; simp only; rw [e4]; simp only; rw [e5]; simp only; rw [e6]
  rw [hN1] at hN
  have HG : Aside0 (∀ j, JnV j → JnOk j → encW j = l → GotEnc j x1 x2 x3 x4 x5 n x7 x8 s8 []) := ⟨fun j V K h => got_all V K h e1 e2 e3 e4 e5 e6 (fun hq => by omega) e7 e8⟩
  have hd1 : s1.data = l := by have h := fixed_data (RS.start l) 1; rw [e1] at h; exact h
  have hd2 : s2.data = l := by have h := text_data s1 l.length; rw [e2] at h; exact h.trans hd1
  have hd3 : s3.data = l := by have h := fixed_data s2 4; rw [e3] at h; exact h.trans hd2
  have hd4 : s4.data = l := by have h := fixed_data s3 4; rw [e4] at h; exact h.trans hd3
  have hd5 : s5.data = l := by have h := text_data s4 l.length; rw [e5] at h; exact h.trans hd4
  have hd6 : s6.data = l := by have h := num_data s5; rw [e6] at h; exact h.trans hd5
  have hd7 : s7.data = l := by have h := needS_data m s6; rw [e7] at h; exact h.trans hd6
  have HX2 : Aside0 (Byt x2 ∧ x2.length ≤ 140737488351232) := ⟨by have h := text_byt (s := s1) (by rw [hd1]; exact hb) l.length; rw [e2] at h; exact ⟨h.1, Nat.le_trans h.2 hl⟩⟩
  have HX5 : Aside0 (Byt x5 ∧ x5.length ≤ 140737488351232) := ⟨by have h := text_byt (s := s4) (by rw [hd4]; exact hb) l.length; rw [e5] at h; exact ⟨h.1, Nat.le_trans h.2 hl⟩⟩
  have HX8 : Aside0 (Byt x8 ∧ x8.length ≤ 140737488351232) := ⟨by have h := text_byt (s := s7) (by rw [hd7]; exact hb) l.length; rw [e8] at h; exact ⟨h.1, Nat.le_trans h.2 hl⟩⟩
  have HX7 : Aside0 ((∀ x ∈ x7, IdOk x) ∧ x7.length = m) := ⟨needS_ok m s6 x7 s7 e7 (by rw [hd6]; exact hb), by have h := needS_len m s6; rw [e7] at h; exact h⟩
  have E1 := Aside0.mk e1
  have E2 := Aside0.mk e2
  have E3 := Aside0.mk e3
  have E4 := Aside0.mk e4
  have E5 := Aside0.mk e5
  have E6 := Aside0.mk e6
  have E7 := Aside0.mk e7
  have E8 := Aside0.mk e8
  have HM : Aside0 (m ≤ 65 ∧ (m < 65 → m = n) ∧ m ≤ n) := ⟨by omega, by omega, by omega⟩
  have hmn := hm
  clear hm
  subst hmn
  have hm64 : (m : Int) ≤ 65 := by omega
  have HC := Aside0.mk hC
  have HBy := Aside0.mk hb
  have HCp := Aside0.mk hcp
  clear hC hb hcp e1 e2 e3 e4 e5 e6 e7 e8 hd1 hd2 hd3 hd4 hd5 hd6 hd7 hN1 hN
  have hb60 : ∀ u : World, (Instr.build 60 #[]).run Tryz.prog u = .ok (.agg #[.string ⟨#[]⟩, .int .i64 0, .int .i64 0, .slice none 0 0, .slice none 0 0, .slice none 0 0]) u := fun u => by kernel_rfl
  have hb132 : ∀ (u : World) (A : Option Addr) (p q : Nat), (Instr.build 132 #[(0, .slice A p q)]).run Tryz.prog u = .ok (.agg #[.slice A p q, .int .i64 0, .int .i64 0, .int .i64 0]) u := fun u A p q => by kernel_rfl
  go_enter Tryz.func27, Tryz.ntmps27
  go_upto_region 1 with (fail)
  obtain ⟨q2, hq2⟩ : ∃ q2, W.heap.size = q2 := ⟨_, rfl⟩
  obtain ⟨W1, hW1⟩ : ∃ W1, W.alloc (.cells (jV .empty 0 0 nilS nilS nilS).toArray 60) = W1 := ⟨_, rfl⟩
  have HO1 : Aside0 (W1.heap[q2]? = some (.cells (jV .empty 0 0 nilS nilS nilS).toArray 60 (0, 0)) ∧ Below W.heap.size W W1 ∧ W.heap.size ≤ q2 ∧ q2 < W1.heap.size) := ⟨by rw [← hW1, ← hq2]; exact ⟨heap_alloc_new W _, below_alloc (Below.refl _ _) _, Nat.le_refl _, by simp⟩⟩
  unfold jV nilS at hW1
  have hW1' : W.alloc (.cells #[.string ⟨#[]⟩, .int .i64 0, .int .i64 0, .slice none 0 0, .slice none 0 0, .slice none 0 0] 60) = W1 := hW1
  rw [hW1', hq2]
  clear hW1 hW1' hq2
  go_upto_region 3 with (fail)
  obtain ⟨g, hg⟩ : ∃ g, W1.heap.size = g := ⟨_, rfl⟩
  obtain ⟨q5, hq5⟩ : ∃ q5, g + 1 = q5 := ⟨_, rfl⟩
  obtain ⟨w2, hw2⟩ : ∃ w2, (W1.alloc (.cells #[.slice A l.length c, .int .i64 0, .int .i64 0, .int .i64 0] 132)).alloc (.cells #[.string ⟨#[]⟩, .int .i64 0, .int .i64 0, .slice none 0 0, .slice none 0 0, .slice none 0 0] 60) = w2 := ⟨_, rfl⟩
  have J0 : Aside0 (DS W g q2 q5 w2 (RS.start l) (jV .empty 0 0 nilS nilS nilS)) := by
    have hI := IsS132.new W W1 A c l 0 0 0 HO1.out.2.1 ⟨HC.out, HCp.out⟩
    have hb1 : Below W1.heap.size W1 w2 := by rw [← hw2]; exact below_alloc (below_alloc (Below.refl _ _) _) _
    have hb2 : Below W.heap.size W w2 := HO1.out.2.1.trans (hb1.mono HO1.out.2.1.size)
    have hsz : (W1.alloc (.cells #[.slice A l.length c, .int .i64 0, .int .i64 0, .int .i64 0] 132)).heap.size = q5 := by rw [← hq5, ← hg]; simp
    have hblk : w2.heap[q5]? = some (.cells (jV .empty 0 0 nilS nilS nilS).toArray 60 (0, 0)) := by rw [← hw2, ← hsz]; exact heap_alloc_new _ _
    have hI2 : IsS132 W w2 g l 0 0 0 := by rw [← hw2, ← hg]; exact hI.alloc _
    exact ⟨⟨⟨hI2, hb2, HBy.out, hl, Nat.zero_le _⟩, blk_below HO1.out.1 hb1, hblk, HO1.out.2.2.1, by have := HO1.out.2.2.2; omega, by omega⟩⟩
  rw [hw2, hg, hq5]
  clear hw2 hg hq5 HO1
  go_upto_region 4 with (first
    | (go_at_call 66; refine (tk_fixed W w2 g _ J0.out.rd 1 (by decide) (by decide)).mono ?_
       rw [E1.out]
       rintro e w3 ⟨rfl, h1, h2⟩
       have J1 := Aside0.mk (J0.out.step h1 h2)
       clear h1 h2)
    | go_in)
  go_upto_region 5 with (first
    | (go_at_call 67; refine (tk_text W w3 g s1 J1.out.rd l.length hl).mono ?_
       rw [E2.out]
       rintro e w4 ⟨A3, c3, rfl, r3, h1, h2⟩
       have J2 := Aside0.mk (J1.out.step h1 h2)
       have hcv := Kd.C_string (P := Tryz.prog) (src := 47) (dst := 9) (e := 5) (c := c3) Tryz.underlying47 Tryz.underlying5 und9 (Kd.R_reads' r3).2.2
       have k0 : w4.cell? ⟨q5, 0, none⟩ = some (.string .empty) := (blk_cell J2.out.blk _).trans rfl
       have f0 : w4.frozen? ⟨q5, 0, none⟩ = false := blk_frozen J2.out.blk _
       clear h1 h2)
    | go_in)
  have J3 : Aside0 (DS W g q2 q5 (w4.setCell ⟨q5, 0, none⟩ (.string (strOfNums x2))) s2 (jV (strOfNums x2) 0 0 nilS nilS nilS)) := ⟨J2.out.put (blk_set J2.out.blk 0 _) (grown_set w4 ⟨q5, 0, none⟩ _)⟩
  generalize w4.setCell ⟨q5, 0, none⟩ (.string (strOfNums x2)) = w5 at J3 ⊢
  clear k0 f0 hcv r3 J0 J1 J2
  go_upto_region 6 with (first
    | (go_at_call 66; refine (tk_fixed W w5 g s2 J3.out.rd 4 (by decide) (by decide)).mono ?_
       rw [E3.out]
       rintro e w6 ⟨rfl, h1, h2⟩
       have J4 := Aside0.mk (J3.out.step h1 h2)
       have k1 : w6.cell? ⟨q5, 1, none⟩ = some (.int .i64 0) := (blk_cell J4.out.blk _).trans rfl
       have f1 : w6.frozen? ⟨q5, 1, none⟩ = false := blk_frozen J4.out.blk _
       clear h1 h2)
    | go_in)
  have J5 : Aside0 (DS W g q2 q5 (w6.setCell ⟨q5, 1, none⟩ (.int .i64 x3)) s3 (jV (strOfNums x2) x3 0 nilS nilS nilS)) := ⟨J4.out.put (blk_set J4.out.blk 1 _) (grown_set w6 ⟨q5, 1, none⟩ _)⟩
  generalize w6.setCell ⟨q5, 1, none⟩ (.int .i64 x3) = w7 at J5 ⊢
  clear k1 f1 J3 J4
  go_upto_region 7 with (first
    | (go_at_call 66; refine (tk_fixed W w7 g s3 J5.out.rd 4 (by decide) (by decide)).mono ?_
       rw [E4.out]
       rintro e w8 ⟨rfl, h1, h2⟩
       have J6 := Aside0.mk (J5.out.step h1 h2)
       have k2 : w8.cell? ⟨q5, 2, none⟩ = some (.int .i64 0) := (blk_cell J6.out.blk _).trans rfl
       have f2 : w8.frozen? ⟨q5, 2, none⟩ = false := blk_frozen J6.out.blk _
       clear h1 h2)
    | go_in)
  have J7 : Aside0 (DS W g q2 q5 (w8.setCell ⟨q5, 2, none⟩ (.int .i64 x4)) s4 (jV (strOfNums x2) x3 x4 nilS nilS nilS)) := ⟨J6.out.put (blk_set J6.out.blk 2 _) (grown_set w8 ⟨q5, 2, none⟩ _)⟩
  generalize w8.setCell ⟨q5, 2, none⟩ (.int .i64 x4) = w9 at J7 ⊢
  clear k2 f2 J5 J6
  go_upto_region 8 with (first
    | (go_at_call 67; refine (tk_text W w9 g s4 J7.out.rd l.length hl).mono ?_
       rw [E5.out]
       rintro e wa ⟨A5, c5, rfl, r5, h1, h2⟩
       have J8 := Aside0.mk (J7.out.step h1 h2)
       have R5 := Aside0.mk r5
       clear r5 h1 h2)
    | (go_at_call 68; refine (p8_all wa A5 c5 x5 (Kd.R_reads' R5.out).2.2 HX5.out.1 HX5.out.2).mono ?_
       rintro e wb ⟨rs5, A6, c6, ec5, rfl, r6, hb6, ok6, hl6, hw6⟩
       have J9 := Aside0.mk (J8.out.below hb6)
       have OK6 := Aside0.mk (And.intro ok6 (And.intro hl6 hw6))
       have R6 := Aside0.mk (And.intro r6 J8.out.lt5)
       clear hb6 ok6 r6 hl6 hw6)
    | go_in)
  go_upto_region 9 with (first
    | (go_at_call 69; refine (tk_num W wb g s5 J9.out.rd).mono ?_
       rw [E6.out]
       rintro e wc ⟨rfl, h1, h2⟩
       have J10 := Aside0.mk (J9.out.step h1 h2)
       have R7 := Aside0.mk (R_kb rfl R6.out.1 h2 (fun e => by have h3 := Kd.R_base R6.out.1 _ e.symm; have h4 := R6.out.2; have h5 := J9.out.lt; omega))
       clear h1 h2)
    | go_in)
  obtain ⟨v6, hv6⟩ : ∃ v6 : Value, .slice A6 rs5.length c6 = v6 := ⟨_, rfl⟩
  have HV6 := Aside0.mk hv6
  have HR6 : Aside0 (Kd.R resK 33 wc (q5 + 1) (fun _ => True) v6 rs5 ∧ (∀ k, v6.ownBlock = some k → k < wc.heap.size)) := ⟨by rw [← hv6]; exact ⟨Kd.R_lower R7.out R6.out.2, Kd.R_lt R7.out⟩⟩
  rw [hv6]
  clear hv6 R5 R6 R7 J7 J8 J9
  obtain ⟨b7, hb7⟩ : ∃ b7, wc.heap.size = b7 := ⟨_, rfl⟩
  rw [hb7] at HR6
  have HQ7 : Aside0 (q5 < b7) := ⟨by rw [← hb7]; exact J10.out.lt5⟩
  go_upto_region 10 with (fail)
  have L0 : Aside0 (LB W g q2 q5 b7 wc s6 (jV (strOfNums x2) x3 x4 nilS nilS nilS) nilS [] v6 rs5) := ⟨⟨J10.out, Kd.R_nil _ _ _ _ _, HR6.out.1, by omega, HQ7.out⟩⟩
  clear hb7 J10
  go_loopg [10] m (fun k v10 w' => ∃ (i : Nat) (v4 : Value), v10 = .int .i64 i ∧ i + k = m ∧ Aside0 (LB W g q2 q5 b7 w' (needS i s6).2 (jV (strOfNums x2) x3 x4 nilS v4 nilS) v4 (needS i s6).1 v6 rs5))
  case atStart => exact ⟨0, nilS, rfl, by omega, L0⟩
  case round =>
    clear L0
    obtain ⟨i, v4, rfl, hik, LL⟩ := hrel
    cases gk with
    | zero =>
      obtain rfl : i = m := by omega
      rw [E7.out] at LL
      simp only at LL
      have hdc : decide (i < i) = false := by simp
      clear hik
      go_upto_region 20 with (first
        | (go_at_call 67; refine (tk_text W wr g s7 LL.out.d.rd l.length hl).mono ?_
           rw [E8.out]
           rintro e wd ⟨A8, c8, rfl, r8, h1, h2⟩
           have M1 := Aside0.mk (LL.out.step h1 h2)
           have R8 := Aside0.mk r8
           clear r8 h1 h2)
        | (go_at_call 68; refine (p8_all wd A8 c8 x8 (Kd.R_reads' R8.out).2.2 HX8.out.1 HX8.out.2).mono ?_
           rintro e we ⟨rs8, A9, c9, ec8, rfl, r9, hb9, ok9, hl9, hw9⟩
           have M2 := Aside0.mk (M1.out.below hb9)
           have OK9 := Aside0.mk (And.intro ok9 (And.intro hl9 hw9))
           have R9 := Aside0.mk (And.intro r9 M1.out.d.lt5)
           clear hb9 ok9 r9 hl9 hw9)
        | go_in)
      have DM := Aside0.mk M2.out.d
      have g2 : we.cell? ⟨g, 2, none⟩ = some (.int .i64 s8.code) := by
        obtain ⟨A0, c0, h1, -⟩ := DM.out.rd.is
        exact (blk_cell h1 _).trans rfl
      have HU : Aside0 (∀ j', JnV j' → JnOk j' → encW j' = l → ec5 = 0 ∧ ec8 = 0 ∧ j' = ⟨strOfNums x2, x3, x4, rs5, x7, rs8⟩) := ⟨fun j' V K h => got_is8 V K (HG.out j' V K h) HX2.out.1 OK6.out.2.2 OK9.out.2.2⟩
      clear LL M1 R8
      by_cases h74 : x1 = 74
      case neg =>
        have H74 := Aside0.mk h74
        have b74 : (x1 != 74) = true := by simp [bne_iff_ne]; exact h74
        clear h74
        go_wp2_with (first
          | (refine wpList_store_blk rfl rfl 60 _ _ rfl DM.out.out (jV .empty 0 0 nilS nilS nilS) rfl rfl rfl info60 (jV_one rfl rfl rfl) ?_
             intro wz z1 z2 z3
             have HZ : Aside0 (Below W.heap.size W wz ∧ wz.heap[q2]? = some (.cells (jV .empty 0 0 nilS nilS nilS).toArray 60 (0, 0))) := ⟨DM.out.rd.bel.grown z2 DM.out.rd.bel.size (fun k hk => by cases hk; exact DM.out.old), z1⟩
             clear z1 z2 z3)
          | go_in)
        refine bodyPost_ret (results_ct60 (by rfl) rfl _ _ q2 rfl HZ.out.2) rfl ?_
        exact ret_dec_no (fun j' V K h => H74.out (HG.out j' V K h).first) HZ.out.1
      case pos =>
        have b74 : (x1 != 74) = false := by simp [h74]
        by_cases hsc : s8.code = 0
        case neg =>
          have HSC := Aside0.mk hsc
          have bsc : ((s8.code : Int) != 0) = true := by simp [bne_iff_ne]; omega
          clear hsc h74
          go_wp2_with (first
            | (refine wpList_store_blk rfl rfl 60 _ _ rfl DM.out.out (jV .empty 0 0 nilS nilS nilS) rfl rfl rfl info60 (jV_one rfl rfl rfl) ?_
               intro wz z1 z2 z3
               have HZ : Aside0 (Below W.heap.size W wz ∧ wz.heap[q2]? = some (.cells (jV .empty 0 0 nilS nilS nilS).toArray 60 (0, 0))) := ⟨DM.out.rd.bel.grown z2 DM.out.rd.bel.size (fun k hk => by cases hk; exact DM.out.old), z1⟩
               clear z1 z2 z3)
            | go_in)
          refine bodyPost_ret (results_ct60 (by rfl) rfl _ _ q2 rfl HZ.out.2) rfl ?_
          exact ret_dec_no (fun j' V K h => HSC.out (HG.out j' V K h).stop.code) HZ.out.1
        case pos =>
          have bsc : ((s8.code : Int) != 0) = false := by simp; omega
          by_cases h5 : ec5 = 0
          case neg =>
            have H5 := Aside0.mk h5
            have b5 : (ec5 != 0) = true := by simp [bne_iff_ne]; exact h5
            clear h5 hsc h74
            go_wp2_with (first
              | (refine wpList_store_blk rfl rfl 60 _ _ rfl DM.out.out (jV .empty 0 0 nilS nilS nilS) rfl rfl rfl info60 (jV_one rfl rfl rfl) ?_
                 intro wz z1 z2 z3
                 have HZ : Aside0 (Below W.heap.size W wz ∧ wz.heap[q2]? = some (.cells (jV .empty 0 0 nilS nilS nilS).toArray 60 (0, 0))) := ⟨DM.out.rd.bel.grown z2 DM.out.rd.bel.size (fun k hk => by cases hk; exact DM.out.old), z1⟩
                 clear z1 z2 z3)
              | go_in)
            refine bodyPost_ret (results_ct60 (by rfl) rfl _ _ q2 rfl HZ.out.2) rfl ?_
            exact ret_dec_no (fun j' V K h => H5.out (HU.out j' V K h).1) HZ.out.1
          case pos =>
            have b5 : (ec5 != 0) = false := by simp [h5]
            by_cases h8 : ec8 = 0
            case neg =>
              have H8 := Aside0.mk h8
              have b8 : (ec8 != 0) = true := by simp [bne_iff_ne]; exact h8
              clear h8 h5 hsc h74
              go_wp2_with (first
                | (refine wpList_store_blk rfl rfl 60 _ _ rfl DM.out.out (jV .empty 0 0 nilS nilS nilS) rfl rfl rfl info60 (jV_one rfl rfl rfl) ?_
                   intro wz z1 z2 z3
                   have HZ : Aside0 (Below W.heap.size W wz ∧ wz.heap[q2]? = some (.cells (jV .empty 0 0 nilS nilS nilS).toArray 60 (0, 0))) := ⟨DM.out.rd.bel.grown z2 DM.out.rd.bel.size (fun k hk => by cases hk; exact DM.out.old), z1⟩
                   clear z1 z2 z3)
                | go_in)
              refine bodyPost_ret (results_ct60 (by rfl) rfl _ _ q2 rfl HZ.out.2) rfl ?_
              exact ret_dec_no (fun j' V K h => H8.out (HU.out j' V K h).2.1) HZ.out.1
            case pos =>
              have b8 : (ec8 != 0) = false := by simp [h8]
              clear h8 h5 hsc h74
              go_upto_region 22 with (fail)
              obtain ⟨A4, c4, rfl⟩ := Kd.R_slice M2.out.r4
              have RV : Aside0 (Kd.R resK 33 we (q5 + 1) (fun _ => True) (.slice A6 rs5.length c6) rs5) := ⟨by rw [HV6.out]; exact M2.out.r6⟩
              have ne6 : ∀ u, (Value.slice A6 rs5.length c6).ownBlock = some u → q5 + 1 ≤ u := fun u e => Kd.R_base RV.out u e
              have ne4 : ∀ u, (Value.slice A4 x7.length c4).ownBlock = some u → b7 ≤ u := fun u e => Kd.R_base M2.out.r4 u e
              have ne8 : ∀ u, (Value.slice A9 rs8.length c9).ownBlock = some u → wd.heap.size ≤ u := fun u e => Kd.R_base R9.out.1 u e
              have h10 := R9.out.2
              have H6 := HV6.out
              rw [← H6]
              have k3 : we.cell? ⟨q5, 3, none⟩ = some (.slice none 0 0) := (blk_cell DM.out.blk _).trans rfl
              have k5 : we.cell? ⟨q5, 5, none⟩ = some (.slice none 0 0) := (blk_cell DM.out.blk _).trans rfl
              have f3 : we.frozen? ⟨q5, 3, none⟩ = false := blk_frozen DM.out.blk _
              have f5 : we.frozen? ⟨q5, 5, none⟩ = false := blk_frozen DM.out.blk _
              have hb3 : (we.setCell ⟨q5, 3, none⟩ (.slice A6 rs5.length c6)).heap[q5]? = some (Obj.cells (jV (strOfNums x2) x3 x4 (.slice A6 rs5.length c6) (.slice A4 x7.length c4) nilS).toArray 60 (0, 0)) := blk_set DM.out.blk 3 (.slice A6 rs5.length c6)
              have JT : Aside0 (DS W g q2 q5 ((we.setCell ⟨q5, 3, none⟩ (.slice A6 rs5.length c6)).setCell ⟨q5, 5, none⟩ (.slice A9 rs8.length c9)) s8 (jC ⟨strOfNums x2, x3, x4, rs5, x7, rs8⟩ A6 c6 A4 c4 A9 c9)) :=
                ⟨(DM.out.put (ds := jV (strOfNums x2) x3 x4 (.slice A6 rs5.length c6) (.slice A4 x7.length c4) nilS) hb3 (grown_set we ⟨q5, 3, none⟩ _)).put (blk_set hb3 5 (.slice A9 rs8.length c9)) (grown_set _ ⟨q5, 5, none⟩ _)⟩
              have RT : Aside0 (Kd.R resK 33 ((we.setCell ⟨q5, 3, none⟩ (.slice A6 rs5.length c6)).setCell ⟨q5, 5, none⟩ (.slice A9 rs8.length c9)) (q5 + 1) (fun _ => True) (.slice A6 rs5.length c6) rs5 ∧ Kd.R idK 29 ((we.setCell ⟨q5, 3, none⟩ (.slice A6 rs5.length c6)).setCell ⟨q5, 5, none⟩ (.slice A9 rs8.length c9)) (q5 + 1) (fun _ => True) (.slice A4 x7.length c4) x7 ∧ Kd.R resK 33 ((we.setCell ⟨q5, 3, none⟩ (.slice A6 rs5.length c6)).setCell ⟨q5, 5, none⟩ (.slice A9 rs8.length c9)) (q5 + 1) (fun _ => True) (.slice A9 rs8.length c9) rs8) :=
                ⟨Kd.R_grown1 (Kd.R_grown1 RV.out rfl (grown_set we ⟨q5, 3, none⟩ _) (fun e => by have h1 := ne6 q5 e.symm; omega)) rfl (grown_set _ ⟨q5, 5, none⟩ _) (fun e => by have h1 := ne6 q5 e.symm; omega),
                 Kd.R_lower (Kd.R_grown1 (Kd.R_grown1 M2.out.r4 rfl (grown_set we ⟨q5, 3, none⟩ _) (fun e => by have h1 := ne4 q5 e.symm; have h3 := HQ7.out; omega)) rfl (grown_set _ ⟨q5, 5, none⟩ _) (fun e => by have h1 := ne4 q5 e.symm; have h3 := HQ7.out; omega)) HQ7.out,
                 Kd.R_lower (Kd.R_grown1 (Kd.R_grown1 R9.out.1 rfl (grown_set we ⟨q5, 3, none⟩ _) (fun e => by have h1 := ne8 q5 e.symm; omega)) rfl (grown_set _ ⟨q5, 5, none⟩ _) (fun e => by have h1 := ne8 q5 e.symm; omega)) h10⟩
              have HK : Aside0 (JnOk ⟨strOfNums x2, x3, x4, rs5, x7, rs8⟩) := ⟨OK6.out.1, HX7.out.1, OK9.out.1⟩
              have HLN : Aside0 (rs5.length ≤ 140737488355328 ∧ x7.length ≤ 140737488355328 ∧ rs8.length ≤ 140737488355328) := ⟨by have := OK6.out.2.1; omega, by rw [HX7.out.2]; have := HM.out.1; omega, by have := OK9.out.2.1; omega⟩
              clear hb3 ne6 ne4 ne8 RV M2 h10 H6 R9
              go_upto_region 24 with (fail)
              obtain ⟨wh, hwh⟩ : ∃ wh, (we.setCell ⟨q5, 3, none⟩ (.slice A6 rs5.length c6)).setCell ⟨q5, 5, none⟩ (.slice A9 rs8.length c9) = wh := ⟨_, rfl⟩
              rw [hwh] at JT RT ⊢
              obtain ⟨j, hj⟩ : ∃ j : Jn, (⟨strOfNums x2, x3, x4, rs5, x7, rs8⟩ : Jn) = j := ⟨_, rfl⟩
              have ej : j.res = rs5 ∧ j.need = x7 ∧ j.tab = rs8 := by rw [← hj]; exact ⟨rfl, rfl, rfl⟩
              rw [hj] at JT HK
              rw [← ej.1, ← ej.2.1, ← ej.2.2] at RT HLN
              have HU2 : Aside0 (∀ j', JnV j' → JnOk j' → encW j' = l → j' = j) := ⟨fun j' V K h => (HU.out j' V K h).2.2.trans hj⟩
              have HJA : Aside0 (JAt wh j A6 c6 A4 c4 A9 c9) := ⟨⟨HK.out, (Kd.R_reads' RT.out.1).2.2, (Kd.R_reads' RT.out.1).2.1, (Kd.R_reads' RT.out.2.1).2.2, (Kd.R_reads' RT.out.2.1).2.1, (Kd.R_reads' RT.out.2.2).2.2, (Kd.R_reads' RT.out.2.2).2.1⟩⟩
              have hld : rowOf wh ⟨q5, 0, none⟩ 6 = some (jC j A6 c6 A4 c4 A9 c9) := jrow JT.out.blk
              obtain ⟨cf, hcf⟩ : ∃ cf, codeF j = cf := ⟨_, rfl⟩
              obtain ⟨bf, hbf⟩ : ∃ bf, decide (encF j = l) = bf := ⟨_, rfl⟩
              have HCF := Aside0.mk (And.intro hcf hbf)
              clear hwh ej k3 k5 f3 f5 DM HU g2 hcf hbf
              go_upto_region 26 with (first
                | (go_at_call 20; refine (rencode_any j A6 c6 A4 c4 A9 c9 wh HJA.out HLN.out.1 HLN.out.2.1 HLN.out.2.2).mono ?_; rw [HCF.out.1]; rintro e wi ⟨Ae, ke, rfl, re, hbi⟩
                   have JT2 := Aside0.mk (JT.out.below hbi)
                   have RT2 := Aside0.mk (⟨Kd.R_below RT.out.1 hbi, Kd.R_below RT.out.2.1 hbi, Kd.R_below RT.out.2.2 hbi⟩ : _ ∧ _ ∧ _)
                   have RE := Aside0.mk re
                   clear re hbi)
                | (go_at_call 71; refine (like_any Ae ke (encF j) A c l wi (Kd.R_reads' RE.out).2.2 (Kd.R_reads' RE.out).2.1 (Kd.C_below HC.out JT2.out.rd.bel) HCp.out (by have := encF_le HK.out; omega)).mono ?_; rw [HCF.out.2]; rintro e wj ⟨rfl, hbj⟩
                   have JT3 := Aside0.mk (JT2.out.below hbj)
                   have RT3 := Aside0.mk (⟨Kd.R_below RT2.out.1 hbj, Kd.R_below RT2.out.2.1 hbj, Kd.R_below RT2.out.2.2 hbj⟩ : _ ∧ _ ∧ _)
                   have hld3 : rowOf wj ⟨q5, 0, none⟩ 6 = some (jC j A6 c6 A4 c4 A9 c9) := jrow JT3.out.blk
                   clear hbj)
                | go_in)
              by_cases hcz : cf = 0
              case neg =>
                have HCZ : Aside0 (¬ JnV j) := ⟨fun V => hcz (by rw [← HCF.out.1, codeF_yes V])⟩
                have bcf : (cf != 0) = true := by simp [bne_iff_ne]; exact hcz
                clear hcz
                go_wp2_with (first
                  | (refine wpList_store_blk rfl rfl 60 _ _ rfl JT3.out.out (jV .empty 0 0 nilS nilS nilS) rfl rfl rfl info60 (jV_one rfl rfl rfl) ?_
                     intro wz z1 z2 z3
                     have HZ : Aside0 (Below W.heap.size W wz ∧ wz.heap[q2]? = some (.cells (jV .empty 0 0 nilS nilS nilS).toArray 60 (0, 0))) := ⟨JT3.out.rd.bel.grown z2 JT3.out.rd.bel.size (fun k hk => by cases hk; exact JT3.out.old), z1⟩
                     clear z1 z2 z3)
                  | go_in)
                refine bodyPost_ret (results_ct60 (by rfl) rfl _ _ q2 rfl HZ.out.2) rfl ?_
                exact ret_dec_no (fun j' V K h => HCZ.out (by rw [← HU2.out j' V K h]; exact V)) HZ.out.1
              case pos =>
                have HV : Aside0 (JnV j) := ⟨Classical.byContradiction fun V => by have h := HCF.out.1; rw [codeF_no V, hcz] at h; exact absurd h (by decide)⟩
                have bcf : (cf != 0) = false := by simp [hcz]
                have hbe := HCF.out.2
                rw [encF_yes HV.out] at hbe
                clear hcz
                cases bf with
                | false =>
                  have HBE : Aside0 (encW j ≠ l) := ⟨of_decide_eq_false hbe⟩
                  clear hbe
                  go_wp2_with (first
                    | (refine wpList_store_blk rfl rfl 60 _ _ rfl JT3.out.out (jV .empty 0 0 nilS nilS nilS) rfl rfl rfl info60 (jV_one rfl rfl rfl) ?_
                       intro wz z1 z2 z3
                       have HZ : Aside0 (Below W.heap.size W wz ∧ wz.heap[q2]? = some (.cells (jV .empty 0 0 nilS nilS nilS).toArray 60 (0, 0))) := ⟨JT3.out.rd.bel.grown z2 JT3.out.rd.bel.size (fun k hk => by cases hk; exact JT3.out.old), z1⟩
                       clear z1 z2 z3)
                    | go_in)
                  refine bodyPost_ret (results_ct60 (by rfl) rfl _ _ q2 rfl HZ.out.2) rfl ?_
                  exact ret_dec_no (fun j' V K h => HBE.out (by rw [← HU2.out j' V K h]; exact h)) HZ.out.1
                | true =>
                  have HBE : Aside0 (encW j = l) := ⟨of_decide_eq_true hbe⟩
                  clear hbe
                  go_wp2_with (first
                    | (refine wpList_store_blk rfl rfl 60 _ _ rfl JT3.out.out (jC j A6 c6 A4 c4 A9 c9) rfl rfl rfl info60 jC_one ?_
                       intro wz z1 z2 z3
                       have HZ : Aside0 (Below W.heap.size W wz ∧ wz.heap[q2]? = some (.cells (jC j A6 c6 A4 c4 A9 c9).toArray 60 (0, 0))) := ⟨JT3.out.rd.bel.grown z2 JT3.out.rd.bel.size (fun k hk => by cases hk; exact JT3.out.old), z1⟩
                       have ZZ := Aside0.mk z2
                       clear z1 z2 z3)
                    | go_in)
                  refine bodyPost_ret (results_ct60 (by rfl) rfl _ _ q2 rfl HZ.out.2) rfl ?_
                  have ho := JT3.out.old
                  have hl2 := JT3.out.lt2
                  have hl3 := JT3.out.lt
                  refine ⟨j, 0, A6, c6, A4, c4, A9, c9, rfl, .inl ⟨HV.out, HBE.out, rfl⟩, HK.out, ?_, ?_, ?_, HZ.out.1⟩
                  · exact Kd.R_lower (Kd.R_grown1 RT3.out.1 rfl ZZ.out (fun e => by have h1 : q5 + 1 ≤ q2 := Kd.R_base RT3.out.1 _ e.symm; omega)) (by omega)
                  · exact Kd.R_lower (Kd.R_grown1 RT3.out.2.1 rfl ZZ.out (fun e => by have h1 : q5 + 1 ≤ q2 := Kd.R_base RT3.out.2.1 _ e.symm; omega)) (by omega)
                  · exact Kd.R_lower (Kd.R_grown1 RT3.out.2.2 rfl ZZ.out (fun e => by have h1 : q5 + 1 ≤ q2 := Kd.R_base RT3.out.2.2 _ e.symm; omega)) (by omega)
    | succ q =>
      have hi : i < m := by omega
      have hi1 : (i : Int) < (m : Int) := by omega
      have hi64 : (i : Int) ≤ 64 := by omega
      go_upto_region 13 with (fail)
      obtain ⟨q9, hq9⟩ : ∃ q9, wr.heap.size = q9 := ⟨_, rfl⟩
      obtain ⟨wa, hwa⟩ : ∃ wa, wr.alloc (.cells #[.int .u8 0, .int .u8 0, .int .u8 0, .int .u8 0, .int .u8 0, .int .u8 0, .int .u8 0, .int .u8 0, .int .u8 0, .int .u8 0, .int .u8 0, .int .u8 0, .int .u8 0, .int .u8 0, .int .u8 0, .int .u8 0, .int .u8 0, .int .u8 0, .int .u8 0, .int .u8 0, .int .u8 0, .int .u8 0, .int .u8 0, .int .u8 0, .int .u8 0, .int .u8 0, .int .u8 0, .int .u8 0, .int .u8 0, .int .u8 0, .int .u8 0, .int .u8 0] 29) = wa := ⟨_, rfl⟩
      obtain ⟨y, hy⟩ : ∃ y, (needS i s6).2 = y := ⟨_, rfl⟩
      obtain ⟨⟨x, y1⟩, ex⟩ : ∃ p, y.raw 32 = p := ⟨_, rfl⟩
      have K9 : Aside0 (wa.heap[q9]? = some (.cells (u8s (x.take 0 ++ List.replicate (32 - 0) 0)).toArray 29 (0, 0)) ∧ q9 < wa.heap.size) := ⟨by rw [← hwa, ← hq9]; exact ⟨heap_alloc_new wr _, by simp⟩⟩
      have N9 : Aside0 (b7 ≤ q9 ∧ some q9 ≠ v4.ownBlock ∧ some q9 ≠ v6.ownBlock) := ⟨by rw [← hq9]; exact ⟨LL.out.sz, fun e => absurd (Kd.R_lt LL.out.r4 _ e.symm) (Nat.lt_irrefl _), fun e => absurd (Kd.R_lt LL.out.r6 _ e.symm) (Nat.lt_irrefl _)⟩⟩
      have L9 : Aside0 (LB W g q2 q5 b7 wa y (jV (strOfNums x2) x3 x4 nilS v4 nilS) v4 (needS i s6).1 v6 rs5) := ⟨by rw [← hwa, ← hy]; exact LL.out.below (below_alloc (Below.refl _ _) _)⟩
      rw [hwa, hq9]
      have EX := Aside0.mk ex
      have hyb : Byt y.data := L9.out.d.rd.byt
      have XB : Aside0 (x.length ≤ 32 ∧ Byt x) := ⟨by have h := raw_byt hyb 32; rw [ex] at h; exact ⟨h.2, h.1⟩⟩
      have HN : Aside0 (needS (i + 1) s6 = ((needS i s6).1 ++ [pad32 x], y1)) := ⟨by rw [needS_snoc, hy, ex]⟩
      have HL : Aside0 ((needS i s6).1.length = i) := ⟨needS_len i s6⟩
      have hx32 := XB.out.1
      clear hwa hq9 LL hy ex hyb
      go_upto_region 15 with (first
        | (go_at_call 70; refine (tk_raw W wa g y L9.out.d.rd 32 (by decide)).mono ?_
           rw [EX.out]
           rintro e wb ⟨Ac, cc, rfl, rc, h1, h2⟩
           have LA := Aside0.mk (L9.out.step h1 h2)
           have KA : Aside0 (wb.heap[q9]? = some (.cells (u8s (x.take 0 ++ List.replicate (32 - 0) 0)).toArray 29 (0, 0))) := ⟨(h2.2 q9 K9.out.2 (by have := L9.out.d.lt; have := L9.out.q5; have := N9.out.1; omega) (by simp)).trans K9.out.1⟩
           have RC := Aside0.mk rc
           clear rc h1 h2)
        | go_in)
      have HQ9 : Aside0 (q9 < wa.heap.size) := ⟨K9.out.2⟩
      clear L9 K9
      obtain ⟨wo, rfl⟩ : ∃ wo : World, wo = wr := ⟨_, rfl⟩
      go_loopg [13] x.length (fun k v13 w' => ∃ (j : Nat), v13 = .int .i64 j ∧ j + k = x.length ∧ Aside0 (LB W g q2 q5 b7 w' y1 (jV (strOfNums x2) x3 x4 nilS v4 nilS) v4 (needS i s6).1 v6 rs5) ∧ Aside0 (w'.heap[q9]? = some (.cells (u8s (x.take j ++ List.replicate (32 - j) 0)).toArray 29 (0, 0))) ∧ Aside0 (Kd.R (Kd.int .u8) 5 w' wa.heap.size (fun _ => True) (.slice Ac x.length cc) x))
      case atStart => exact ⟨0, rfl, by omega, LA, KA, RC⟩
      case round =>
        clear LA KA RC
        obtain ⟨j, rfl, hjk, LA, KA, RC⟩ := hrel
        cases gk with
        | zero =>
          have hj : j = x.length := by omega
          have hdx : decide (j < x.length) = false := by simp; omega
          have hpo := pad32_ok XB.out.1 XB.out.2
          have KP : Aside0 (wr.heap[q9]? = some (.cells (u8s (pad32 x)).toArray 29 (0, 0))) := ⟨by have h := KA.out; rw [hj, List.take_length] at h; exact h⟩
          have hld : rowOf wr ⟨q9, 0, none⟩ 32 = some (u8s (pad32 x)) := (At.blk KP.out).id hpo
          have c54 : wr.cell? ⟨q5, 4, none⟩ = some v4 := (blk_cell LA.out.d.blk _).trans rfl
          have Hpo := Aside0.mk hpo
          obtain ⟨z, hz1, hz2⟩ := info29x
          have Hz := Aside0.mk (And.intro hz1 hz2)
          clear hpo hz1 hz2 hj RC KA hjk
          go_upto_region 11 with (first
            | (refine wpList_build29 rfl _ rfl (pad32 x) Hpo.out rfl ?_)
            | (at_builtin; refine Kd.R_append idK (w0 := wr) b7 rfl (.tmp 62) (.tmp 64) 23 29 z 32 rfl Tryz.underlying23 Hz.out.1 Hz.out.2 (by decide) (by decide) v4 (needS i s6).1 (pad32 x) (u8s (pad32 x)) (fun _ => True) (fun _ => False) rfl rfl (id_M Hpo.out) (fun _ h => h.elim) (fun _ _ => trivial) LA.out.r4 (Below.refl _ _) LA.out.sz (by rw [HL.out]; omega) ?_
               intro ve we h1 h2 h3 h4
               obtain ⟨Ae, ce, rfl⟩ := Kd.R_slice h1
               have JE := Aside0.mk (LA.out.d.low LA.out.q5 h2)
               have VE := Aside0.mk (R_lowE rfl LA.out.r6 HR6.out.2 h2)
               have AE := Aside0.mk h1
               have BE : Aside0 (b7 ≤ we.heap.size) := ⟨Nat.le_trans LA.out.sz h2.size⟩
               have c55 : we.cell? ⟨q5, 4, none⟩ = some v4 := (blk_cell JE.out.blk _).trans rfl
               have f55 : we.frozen? ⟨q5, 4, none⟩ = false := blk_frozen JE.out.blk _
               clear h1 h2 h3 h4)
            | go_in)
          have JF : Aside0 (DS W g q2 q5 (we.setCell ⟨q5, 4, none⟩ (.slice Ae ((needS i s6).1 ++ [pad32 x]).length ce)) y1 (jV (strOfNums x2) x3 x4 nilS (.slice Ae ((needS i s6).1 ++ [pad32 x]).length ce) nilS)) := ⟨JE.out.put (blk_set JE.out.blk 4 _) (grown_set we ⟨q5, 4, none⟩ _)⟩
          have hle : ((needS i s6).1 ++ [pad32 x]).length = (needS i s6).1.length + 1 := by simp
          rw [hle] at JF AE
          have LF : Aside0 (LB W g q2 q5 b7 (we.setCell ⟨q5, 4, none⟩ (.slice Ae ((needS i s6).1.length + 1) ce)) y1 (jV (strOfNums x2) x3 x4 nilS (.slice Ae ((needS i s6).1.length + 1) ce) nilS) (.slice Ae ((needS i s6).1.length + 1) ce) ((needS i s6).1 ++ [pad32 x]) v6 rs5) :=
            ⟨⟨JF.out, Kd.R_grown1 AE.out rfl (grown_set we ⟨q5, 4, none⟩ _) (fun e => by have h1 : b7 ≤ q5 := Kd.R_base AE.out _ e.symm; have h2 := HQ7.out; omega), Kd.R_grown1 VE.out rfl (grown_set we ⟨q5, 4, none⟩ _) (fun e => by have h1 : q5 + 1 ≤ q5 := Kd.R_base VE.out _ e.symm; omega), Nat.le_trans BE.out (grown_set we ⟨q5, 4, none⟩ _).size, HQ7.out⟩⟩
          clear hle AE VE BE JE c54 c55 f55 LA JF
          generalize we.setCell ⟨q5, 4, none⟩ (.slice Ae ((needS i s6).1.length + 1) ce) = wf at LF ⊢
          go_wp2
          go_roundg q
          case measure => omega
          case rel => exact ⟨i + 1, _, by go_num, by omega, ⟨by rw [HN.out]; exact LF.out⟩⟩
        | succ q3 =>
          have hj : j < x.length := by omega
          have hj1 : (j : Int) < (x.length : Int) := by omega
          have hj2 : (j : Int) < 32 := by omega
          obtain ⟨ad2, e0, hz1⟩ := Kd.at_int (Kd.R_reads' RC.out).2.2 (j : Int) (by omega) (by omega)
          cases e0
          obtain ⟨b1, hb1⟩ : ∃ b1, rd x (j : Int) = b1 := ⟨_, rfl⟩
          rw [Int.toNat_natCast, hb1] at hz1
          obtain ⟨cv1, cv1h⟩ := fill_cell (x := x) (a := j) (by omega) hj
          have K8c : wr.cell? ⟨q9, j, none⟩ = some cv1 := (blk_cell KA.out _).trans (by rw [List.getElem?_toArray]; exact cv1h)
          have K8f : wr.frozen? ⟨q9, j, none⟩ = false := blk_frozen KA.out _
          have K1 : Aside0 ((wr.setCell ⟨q9, j, none⟩ (.int .u8 b1)).heap[q9]? = some (.cells (u8s (x.take (j + 1) ++ List.replicate (32 - (j + 1)) 0)).toArray 29 (0, 0))) := ⟨by
            have h9 := blk_at (i := j) (v := .int .u8 b1) KA.out
            have hg : x.getD j 0 = b1 := by rw [← hb1, rd_nat]
            rw [u8s_set, ← hg, fill_more hx32 hj, hg] at h9
            exact h9⟩
          have L1 : Aside0 (LB W g q2 q5 b7 (wr.setCell ⟨q9, j, none⟩ (.int .u8 b1)) y1 (jV (strOfNums x2) x3 x4 nilS v4 nilS) v4 (needS i s6).1 v6 rs5) := ⟨LA.out.set N9.out.1 N9.out.2.1 N9.out.2.2⟩
          have R1 : Aside0 (Kd.R (Kd.int .u8) 5 (wr.setCell ⟨q9, j, none⟩ (.int .u8 b1)) wa.heap.size (fun _ => True) (.slice (some ad2) x.length cc) x) := ⟨Kd.R_grown1 RC.out rfl (grown_set wr ⟨q9, j, none⟩ _) (fun e => by have h1 : wa.heap.size ≤ q9 := Kd.R_base RC.out _ e.symm; have h2 := HQ9.out; omega)⟩
          clear cv1h hb1 LA KA RC
          go_wp2
          go_roundg q3
          case measure => omega
          case rel => exact ⟨j + 1, by go_num, by omega, L1, K1, R1⟩
end Go.Proofs.YtdekmeanlcpenaaGreatDoor.Codec
