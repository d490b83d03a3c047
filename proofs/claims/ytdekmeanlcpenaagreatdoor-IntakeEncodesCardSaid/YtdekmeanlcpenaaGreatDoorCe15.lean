import Derived.Test.YtdekmeanlcpenaaGreatDoorCe9
import Derived.Test.YtdekmeanlcpenaaGreatDoorCe11
import Derived.Test.YtdekmeanlcpenaaGreatDoorCe14
set_option linter.unusedSimpArgs false
set_option linter.unusedVariables false
namespace Go.Proofs.YtdekmeanlcpenaaGreatDoor.Law
open Go.RowKit Go.Proofs.YtdekmeanlcpenaaGreatDoorW.PrintWords Go.Proofs.YtdekmeanlcpenaaGreatDoorW.PrintLast Go.Proofs.YtdekmeanlcpenaaGreatDoorW.PrintMore Go.Proofs.YtdekmeanlcpenaaGreatDoor.Mid Go.Proofs.YtdekmeanlcpenaaGreatDoor.Pick Go.Proofs.YtdekmeanlcpenaaGreatDoor.Err Go.Proofs.YtdekmeanlcpenaaGreatDoor.Codec
set_option maxRecDepth 100000
set_option linter.unusedVariables false
open Classical in
/-- A journal's bytes, if it may be. -/
noncomputable def encF (j : Jn) : List Int := if JnV j then encW j else []
open Classical in
noncomputable def codeF (j : Jn) : Int := if JnV j then 0 else 161
theorem encF_yes {j : Jn} (V : JnV j) : encF j = encW j := by unfold encF; rw [if_pos V]
theorem encF_no {j : Jn} (V : ¬ JnV j) : encF j = [] := by unfold encF; rw [if_neg V]
theorem codeF_yes {j : Jn} (V : JnV j) : codeF j = 0 := by unfold codeF; rw [if_pos V]
theorem codeF_no {j : Jn} (V : ¬ JnV j) : codeF j = 161 := by unfold codeF; rw [if_neg V]
theorem encF_le {j : Jn} (K : JnOk j) : (encF j).length ≤ 8004 := by
  by_cases V : JnV j
  · rw [encF_yes V]; exact enc_le V K
  · rw [encF_no V]; exact Nat.zero_le _
/-- What an error is, by its number. -/
def ErrIs (op : ByteArray) (w : World) (v : Value) (n : Int) : Prop := (n = 0 ∧ v = .nilIface) ∨ (n ≠ 0 ∧ ∃ g, v = .iface 79 (.pointer (some ⟨g, 0, none⟩)) ∧ w.heap[g]? = some (.cells (faultC op ⟨#[]⟩ z32 (errno n)).toArray 82 (0, 0)))
theorem ErrIs.below {op : ByteArray} {w w1 : World} {v : Value} {n : Int} (h : ErrIs op w v n) (hb : Below w.heap.size w w1) : ErrIs op w1 v n := by
  rcases h with h | ⟨h1, g, h2, h3⟩
  · exact .inl h
  · exact .inr ⟨h1, g, h2, blk_below h3 hb⟩
theorem says_any (op : ByteArray) (v : Value) (n : Int) (w : World) (hH : Handle w) (h : ErrIs op w v n) : Calls Tryz.prog 21 #[v, .string op, .string ⟨#[]⟩, .int .i64 n, .agg (u8s z32).toArray] w fun e w' => e = .returned (.bool true) ∧ Below w.heap.size w w' := by
  rcases h with ⟨rfl, rfl⟩ | ⟨h1, g, rfl, h3⟩
  · exact says_nil op ⟨#[]⟩ z32 w
  · exact says_some op ⟨#[]⟩ z32 n h1 z32_ok g w hH h3
theorem encode_any (j : Jn) (A1 : Option Addr) (c1 : Nat) (A2 : Option Addr) (c2 : Nat) (A3 : Option Addr) (c3 : Nat) (w : World) (hJ : JAt w j A1 c1 A2 c2 A3 c3) :
    Calls Tryz.prog 19 #[.agg (jC j A1 c1 A2 c2 A3 c3).toArray] w fun e w' => ∃ A k ve, e = .returned (.tuple #[.slice A (encF j).length k, ve]) ∧ Kd.R (Kd.int .u8) 5 w' w.heap.size (fun _ => True) (.slice A (encF j).length k) (encF j) ∧ ErrIs opEnc w' ve (codeF j) ∧ Below w.heap.size w w' := by
  by_cases V : JnV j
  · rw [encF_yes V, codeF_yes V]
    exact (enc_yes j A1 c1 A2 c2 A3 c3 w hJ V).mono fun e w' ⟨A, k, h1, h2, h3⟩ => ⟨A, k, _, h1, h2, .inl ⟨rfl, rfl⟩, h3⟩
  · rw [encF_no V, codeF_no V]
    exact (enc_no j A1 c1 A2 c2 A3 c3 w hJ V).mono fun e w' ⟨⟨g, h1, _, h2⟩, h3⟩ => ⟨none, 0, _, h1, Kd.R_nil _ _ _ _ _, .inr ⟨by decide, g, rfl, h2⟩, h3⟩
theorem rencode_any (j : Jn) (A1 : Option Addr) (c1 : Nat) (A2 : Option Addr) (c2 : Nat) (A3 : Option Addr) (c3 : Nat) (w : World) (hJ : JAt w j A1 c1 A2 c2 A3 c3) (l1 : j.res.length ≤ 140737488355328) (l2 : j.need.length ≤ 140737488355328) (l3 : j.tab.length ≤ 140737488355328) :
    Calls Tryz.prog 20 #[.agg (jC j A1 c1 A2 c2 A3 c3).toArray] w fun e w' => ∃ A k, e = .returned (.tuple #[.slice A (encF j).length k, .int .i64 (codeF j)]) ∧ Kd.R (Kd.int .u8) 5 w' w.heap.size (fun _ => True) (.slice A (encF j).length k) (encF j) ∧ Below w.heap.size w w' := by
  by_cases V : JnV j
  · rw [encF_yes V, codeF_yes V]
    exact renc_yes j A1 c1 A2 c2 A3 c3 w hJ l1 l2 l3 V
  · rw [encF_no V, codeF_no V]
    exact (renc_no j A1 c1 A2 c2 A3 c3 w hJ l1 l2 l3 V).mono fun e w' ⟨h1, h3⟩ => ⟨none, 0, h1, Kd.R_nil _ _ _ _ _, h3⟩
/-- The first result's code turned. -/
def flipL (x : Int) : List Res → List Res
  | [] => []
  | r :: t => { r with code := x } :: t
theorem flipL_length (x : Int) (l : List Res) : (flipL x l).length = l.length := by cases l <;> rfl
theorem flipL_ok {x : Int} {l : List Res} (hx : -9223372036854775808 ≤ x ∧ x ≤ 9223372036854775807) (h : ∀ r ∈ l, ResOk r) : ∀ r ∈ flipL x l, ResOk r := by
  cases l with
  | nil => exact h
  | cons a t =>
    intro r hr
    rcases List.mem_cons.1 hr with rfl | hr
    · exact ⟨(h a (by simp)).act, (h a (by simp)).root, hx⟩
    · exact h r (by simp [hr])
theorem seg_code {W : World} {b g n cap : Nat} {rs : List Res} {r : Res} {t : List Res} {x : Int} (h : Kd.R resK 33 W b (fun _ => True) (.slice (some ⟨g, 0, none⟩) n cap) rs) (hrs : rs = r :: t) (hr : ResOk r) (hx : -9223372036854775808 ≤ x ∧ x ≤ 9223372036854775807) :
    Kd.R resK 33 (W.setCell ⟨g, 64, none⟩ (.int .i64 x)) b (fun _ => True) (.slice (some ⟨g, 0, none⟩) n cap) ({ r with code := x } :: t) := by
  have h0 := Kd.R_reads' h
  have hat := res_at (w := W) (A := some ⟨g, 0, none⟩) (n := n) (rs := rs) (by have h1 := h0.2.2; rw [← h0.1] at h1; exact h1) 0 (by rw [h0.1, hrs]; simp)
  obtain ⟨ad, r', e0, hr', ho, hat⟩ := hat
  obtain rfl := Option.some.inj e0
  rw [hrs] at hr'
  obtain rfl : r = r' := by simpa using hr'
  have hl : (resC r).length = 65 := resC_length hr
  have hC : resC r = (u8s r.act ++ u8s r.root) ++ [.int .i64 r.code] := by simp [resC]
  have hl1 : (u8s r.act ++ u8s r.root).length = 64 := by simp [u8s_length, hr.act.len, hr.root.len]
  have hs := Kd.R_seg (okp := fun _ => False) (c := resC r) (seg := [.int .i64 x]) (j := 64) (x' := { r with code := x }) h 0 (Int.le_refl 0) (by rw [h0.1, hrs]; simp) hl (fun j u hu => by
    have := hat j u hu
    simp only [Nat.zero_mul] at this
    have e : (Addr.add (Addr.add ⟨g, 0, none⟩ 0) j) = ⟨g, j, none⟩ := by
      unfold Addr.add
      by_cases h : j = 0 <;> simp [h]
    rw [e] at this
    simpa using this) (show 64 + 1 ≤ 65 by decide) (by
      refine (show ResOk _ ∧ _ = resC _ from ⟨⟨hr.act, hr.root, hx⟩, ?_⟩)
      rw [hC, List.take_left' hl1, List.drop_of_length_le (by rw [List.length_append, hl1]; exact Nat.le_refl _)]
      simp [resC]) (fun k hk => hk.elim)
  have h1 := hs.1
  rw [hrs] at h1
  exact h1
theorem Own3.far {w0 w : World} {j : Jn} {g1 c1 g2 c2 g3 c3 : Nat} (h : Own3 w0 j g1 c1 g2 c2 g3 c3 w) {g i : Nat} {v : Value} (h1 : g ≠ g1) (h2 : g ≠ g2) (h3 : g ≠ g3) : Own3 w0 j g1 c1 g2 c2 g3 c3 (w.setCell ⟨g, i, none⟩ v) :=
  ⟨Kd.R_grown1 h.r1 rfl (grownBlk w ⟨g, i, none⟩ v) (fun e => h1 (Option.some.inj e)), Kd.R_grown1 h.r2 rfl (grownBlk w ⟨g, i, none⟩ v) (fun e => h2 (Option.some.inj e)), Kd.R_grown1 h.r3 rfl (grownBlk w ⟨g, i, none⟩ v) (fun e => h3 (Option.some.inj e)), h.ne1, h.ne2⟩
theorem Own3.tab {w0 w : World} {j : Jn} {g1 c1 g2 c2 g3 c3 : Nat} (h : Own3 w0 j g1 c1 g2 c2 g3 c3 w) {r : Res} {t : List Res} (ht : j.tab = r :: t) (hr : ResOk r) {x : Int} (hx : -9223372036854775808 ≤ x ∧ x ≤ 9223372036854775807) :
    Own3 w0 { j with tab := flipL x j.tab } g1 c1 g2 c2 g3 c3 (w.setCell ⟨g3, 64, none⟩ (.int .i64 x)) := by
  have a1 := h.ne1
  have a2 := h.ne2
  refine ⟨Kd.R_grown1 h.r1 rfl (grownBlk w ⟨g3, 64, none⟩ _) (fun e => by have := Option.some.inj e; simp only at this; omega), Kd.R_grown1 h.r2 rfl (grownBlk w ⟨g3, 64, none⟩ _) (fun e => by have := Option.some.inj e; simp only at this; omega), ?_, a1, a2⟩
  have h3 := seg_code (t := t ++ [m7, m7]) h.r3 (by rw [ht]; rfl) hr hx
  simp only [flipL_length]
  rw [ht] at h3 ⊢
  exact h3
theorem Own3.res {w0 w : World} {j : Jn} {g1 c1 g2 c2 g3 c3 : Nat} (h : Own3 w0 j g1 c1 g2 c2 g3 c3 w) {r : Res} {t : List Res} (ht : j.res = r :: t) (hr : ResOk r) {x : Int} (hx : -9223372036854775808 ≤ x ∧ x ≤ 9223372036854775807) :
    Own3 w0 { j with res := flipL x j.res } g1 c1 g2 c2 g3 c3 (w.setCell ⟨g1, 64, none⟩ (.int .i64 x)) := by
  have a1 := h.ne1
  have a2 := h.ne2
  refine ⟨?_, Kd.R_grown1 h.r2 rfl (grownBlk w ⟨g1, 64, none⟩ _) (fun e => by have := Option.some.inj e; simp only at this; omega), Kd.R_grown1 h.r3 rfl (grownBlk w ⟨g1, 64, none⟩ _) (fun e => by have := Option.some.inj e; simp only at this; omega), a1, a2⟩
  have h3 := seg_code (t := t ++ [m7, m7]) h.r1 (by rw [ht]; rfl) hr hx
  simp only [flipL_length]
  rw [ht] at h3 ⊢
  exact h3
theorem jC_tab (j : Jn) (x : Int) (A1 : Option Addr) (c1 : Nat) (A2 : Option Addr) (c2 : Nat) (A3 : Option Addr) (c3 : Nat) : jC { j with tab := flipL x j.tab } A1 c1 A2 c2 A3 c3 = jC j A1 c1 A2 c2 A3 c3 := by simp [jC, flipL_length]
theorem jC_res (j : Jn) (x : Int) (A1 : Option Addr) (c1 : Nat) (A2 : Option Addr) (c2 : Nat) (A3 : Option Addr) (c3 : Nat) : jC { j with res := flipL x j.res } A1 c1 A2 c2 A3 c3 = jC j A1 c1 A2 c2 A3 c3 := by simp [jC, flipL_length]
theorem xor_range (a b : Int) : -9223372036854775808 ≤ bits .xor .i64 a b ∧ bits .xor .i64 a b ≤ 9223372036854775807 := by
  show -9223372036854775808 ≤ IntKind.i64.wrap _ ∧ IntKind.i64.wrap _ ≤ 9223372036854775807
  rw [IntKind.wrap_i64]
  omega
/-- The codes of the first rows, where they lie. -/
theorem code_cell {W : World} {b g n cap : Nat} {rs : List Res} {r : Res} {t : List Res} (h : Kd.R resK 33 W b (fun _ => True) (.slice (some ⟨g, 0, none⟩) n cap) rs) (hrs : rs = r :: t) : W.cell? ⟨g, 64, none⟩ = some (.int .i64 r.code) ∧ W.frozen? ⟨g, 64, none⟩ = false := by
  have h0 := Kd.R_reads' h
  obtain ⟨ad, r', e0, hr', ho, hat⟩ := res_at (w := W) (A := some ⟨g, 0, none⟩) (n := n) (rs := rs) (by have h1 := h0.2.2; rw [← h0.1] at h1; exact h1) 0 (by rw [h0.1, hrs]; simp)
  obtain rfl := Option.some.inj e0
  rw [hrs] at hr'
  obtain rfl : r = r' := by simpa using hr'
  have hc := res_code ho hat
  obtain ⟨g', cap', e1, _, _, cells, hb⟩ := Kd.R_form h (by rw [hrs]; simp)
  injection e1 with e1
  injection e1 with e1
  injection e1 with e1
  subst e1
  refine ⟨?_, blk_frozen hb _⟩
  rw [← hc]
  rfl
end Go.Proofs.YtdekmeanlcpenaaGreatDoor.Law

namespace Go.Proofs.YtdekmeanlcpenaaGreatDoor.Law
open Go.RowKit Go.Proofs.YtdekmeanlcpenaaGreatDoorW.PrintWords Go.Proofs.YtdekmeanlcpenaaGreatDoorW.PrintLast Go.Proofs.YtdekmeanlcpenaaGreatDoorW.PrintMore Go.Proofs.YtdekmeanlcpenaaGreatDoor.Mid Go.Proofs.YtdekmeanlcpenaaGreatDoor.Pick Go.Proofs.YtdekmeanlcpenaaGreatDoor.Err Go.Proofs.YtdekmeanlcpenaaGreatDoor.Codec
set_option maxRecDepth 100000
set_option linter.unusedVariables false
/-- Two copies of a journal, their codes as they are now; the bytes of before. -/
structure MS (W w8 : World) (xs ws : Nat) (j : Jn) (g1 k1 g2 k2 g3 k3 h1 m1 h2 m2 h3 m3 q3 q8 : Nat) (vg vw : Value) (l : List Int) (jt jk : Jn) (u : World) : Prop where
  c3 : u.heap[q3]? = some (.cells (jC j (some ⟨g1, 0, none⟩) k1 (some ⟨g2, 0, none⟩) k2 (some ⟨g3, 0, none⟩) k3).toArray 60 (0, 0))
  c8 : u.heap[q8]? = some (.cells (jC j (some ⟨h1, 0, none⟩) m1 (some ⟨h2, 0, none⟩) m2 (some ⟨h3, 0, none⟩) m3).toArray 60 (0, 0))
  ot : Own3 W jt g1 k1 g2 k2 g3 k3 u
  ok : Own3 w8 jk h1 m1 h2 m2 h3 m3 u
  rg : Kd.R (Kd.int .u8) 5 u xs (fun _ => True) vg l
  rr : Kd.R (Kd.int .u8) 5 u ws (fun _ => True) vw l
  bel : Below W.heap.size W u
  n1 : W.heap.size ≤ g1 ∧ g1 < g3 ∧ g3 < g2 ∧ g2 < q3 ∧ q3 < xs ∧ q3 < w8.heap.size ∧ xs ≤ ws
  n2 : w8.heap.size ≤ h1 ∧ h1 < h3 ∧ h3 < h2 ∧ h2 < q8
  n3 : ∀ k, vg.ownBlock = some k → xs ≤ k ∧ k < w8.heap.size
  n4 : ∀ k, vw.ownBlock = some k → ws ≤ k ∧ k < w8.heap.size
section
variable {W w8 : World} {xs ws : Nat} {j : Jn} {g1 k1 g2 k2 g3 k3 h1 m1 h2 m2 h3 m3 q3 q8 : Nat} {vg vw : Value} {l : List Int} {jt jk jt' jk' : Jn} {u u1 : World}
theorem MS.below (h : MS W w8 xs ws j g1 k1 g2 k2 g3 k3 h1 m1 h2 m2 h3 m3 q3 q8 vg vw l jt jk u) (hb : Below u.heap.size u u1) : MS W w8 xs ws j g1 k1 g2 k2 g3 k3 h1 m1 h2 m2 h3 m3 q3 q8 vg vw l jt jk u1 :=
  ⟨blk_below h.c3 hb, blk_below h.c8 hb, h.ot.below hb, h.ok.below hb, Kd.R_below h.rg hb, Kd.R_below h.rr hb, below_step h.bel hb, h.n1, h.n2, h.n3, h.n4⟩
theorem MS.put (h : MS W w8 xs ws j g1 k1 g2 k2 g3 k3 h1 m1 h2 m2 h3 m3 q3 q8 vg vw l jt jk u) {b i : Nat} {v : Value} (e1 : b ≠ q3) (e2 : b ≠ q8) (hW : W.heap.size ≤ b) (hg : vg.ownBlock ≠ some b) (hw : vw.ownBlock ≠ some b) (ot : Own3 W jt' g1 k1 g2 k2 g3 k3 (u.setCell ⟨b, i, none⟩ v)) (ok : Own3 w8 jk' h1 m1 h2 m2 h3 m3 (u.setCell ⟨b, i, none⟩ v)) : MS W w8 xs ws j g1 k1 g2 k2 g3 k3 h1 m1 h2 m2 h3 m3 q3 q8 vg vw l jt' jk' (u.setCell ⟨b, i, none⟩ v) := by
  have hG := grownBlk u ⟨b, i, none⟩ v
  exact ⟨blk_grown h.c3 hG (fun e => e1 (Option.some.inj e).symm), blk_grown h.c8 hG (fun e => e2 (Option.some.inj e).symm), ot, ok, Kd.R_grown1 h.rg rfl hG (fun e => hg e.symm), Kd.R_grown1 h.rr rfl hG (fun e => hw e.symm), h.bel.grown hG h.bel.size (fun k hk => by cases hk; exact hW), h.n1, h.n2, h.n3, h.n4⟩
theorem MS.kTab (h : MS W w8 xs ws j g1 k1 g2 k2 g3 k3 h1 m1 h2 m2 h3 m3 q3 q8 vg vw l jt jk u) {r : Res} {t : List Res} (ht : jk.tab = r :: t) (hr : ResOk r) {x : Int} (hx : -9223372036854775808 ≤ x ∧ x ≤ 9223372036854775807) : MS W w8 xs ws j g1 k1 g2 k2 g3 k3 h1 m1 h2 m2 h3 m3 q3 q8 vg vw l jt { jk with tab := flipL x jk.tab } (u.setCell ⟨h3, 64, none⟩ (.int .i64 x)) := by
  have n1 := h.n1
  have n2 := h.n2
  exact h.put (by omega) (by omega) (by omega) (fun e => by have := h.n3 _ e; omega) (fun e => by have := h.n4 _ e; omega) (h.ot.far (by omega) (by omega) (by omega)) (h.ok.tab ht hr hx)
theorem MS.tTab (h : MS W w8 xs ws j g1 k1 g2 k2 g3 k3 h1 m1 h2 m2 h3 m3 q3 q8 vg vw l jt jk u) {r : Res} {t : List Res} (ht : jt.tab = r :: t) (hr : ResOk r) {x : Int} (hx : -9223372036854775808 ≤ x ∧ x ≤ 9223372036854775807) : MS W w8 xs ws j g1 k1 g2 k2 g3 k3 h1 m1 h2 m2 h3 m3 q3 q8 vg vw l { jt with tab := flipL x jt.tab } jk (u.setCell ⟨g3, 64, none⟩ (.int .i64 x)) := by
  have n1 := h.n1
  have n2 := h.n2
  exact h.put (by omega) (by omega) (by omega) (fun e => by have := h.n3 _ e; omega) (fun e => by have := h.n4 _ e; omega) (h.ot.tab ht hr hx) (h.ok.far (by omega) (by omega) (by omega))
theorem MS.kRes (h : MS W w8 xs ws j g1 k1 g2 k2 g3 k3 h1 m1 h2 m2 h3 m3 q3 q8 vg vw l jt jk u) {r : Res} {t : List Res} (ht : jk.res = r :: t) (hr : ResOk r) {x : Int} (hx : -9223372036854775808 ≤ x ∧ x ≤ 9223372036854775807) : MS W w8 xs ws j g1 k1 g2 k2 g3 k3 h1 m1 h2 m2 h3 m3 q3 q8 vg vw l jt { jk with res := flipL x jk.res } (u.setCell ⟨h1, 64, none⟩ (.int .i64 x)) := by
  have n1 := h.n1
  have n2 := h.n2
  exact h.put (by omega) (by omega) (by omega) (fun e => by have := h.n3 _ e; omega) (fun e => by have := h.n4 _ e; omega) (h.ot.far (by omega) (by omega) (by omega)) (h.ok.res ht hr hx)
theorem MS.tRes (h : MS W w8 xs ws j g1 k1 g2 k2 g3 k3 h1 m1 h2 m2 h3 m3 q3 q8 vg vw l jt jk u) {r : Res} {t : List Res} (ht : jt.res = r :: t) (hr : ResOk r) {x : Int} (hx : -9223372036854775808 ≤ x ∧ x ≤ 9223372036854775807) : MS W w8 xs ws j g1 k1 g2 k2 g3 k3 h1 m1 h2 m2 h3 m3 q3 q8 vg vw l { jt with res := flipL x jt.res } jk (u.setCell ⟨g1, 64, none⟩ (.int .i64 x)) := by
  have n1 := h.n1
  have n2 := h.n2
  exact h.put (by omega) (by omega) (by omega) (fun e => by have := h.n3 _ e; omega) (fun e => by have := h.n4 _ e; omega) (h.ot.res ht hr hx) (h.ok.far (by omega) (by omega) (by omega))
end
end Go.Proofs.YtdekmeanlcpenaaGreatDoor.Law

namespace Go.Proofs.YtdekmeanlcpenaaGreatDoor.Law
open Go.RowKit Go.Proofs.YtdekmeanlcpenaaGreatDoorW.PrintWords Go.Proofs.YtdekmeanlcpenaaGreatDoorW.PrintLast Go.Proofs.YtdekmeanlcpenaaGreatDoorW.PrintMore Go.Proofs.YtdekmeanlcpenaaGreatDoor.Mid Go.Proofs.YtdekmeanlcpenaaGreatDoor.Pick Go.Proofs.YtdekmeanlcpenaaGreatDoor.Err Go.Proofs.YtdekmeanlcpenaaGreatDoor.Codec Go.Proofs.YtdekmeanlcpenaaGreatDoor.Block
attribute [local go_sem ↓ high] load33_eq load29_eq load60_eq build69_eq build29_eq
attribute [local simp] rowOf_drew rowOf_drewN
attribute [local go_sem high] load33_row load29_row load60_row rowOf_drew rowOf_drewN bld29_none
set_option maxHeartbeats 8000000
set_option maxRecDepth 100000
set_option linter.unusedVariables false
set_option linter.unusedSimpArgs false
theorem copied_lit (j : Jn) (A1 : Option Addr) (c1 : Nat) (A2 : Option Addr) (c2 : Nat) (A3 : Option Addr) (c3 : Nat) (w : World) (hJ : JAt w j A1 c1 A2 c2 A3 c3) (l1 : j.res.length * 72 ≤ 140737488351232) (l2 : j.need.length * 32 ≤ 140737488351232) (l3 : j.tab.length * 72 ≤ 140737488351232) :
    Calls Tryz.prog 18 #[.agg (jC j A1 c1 A2 c2 A3 c3).toArray] w fun e w' => ∃ g1 k1 g2 k2 g3 k3, e = .returned (.agg #[.string j.name, .int .i64 j.ent, .int .i64 j.idx, .slice (some ⟨g1, 0, none⟩) j.res.length k1, .slice (some ⟨g2, 0, none⟩) j.need.length k2, .slice (some ⟨g3, 0, none⟩) j.tab.length k3]) ∧ Own3 w j g1 k1 g2 k2 g3 k3 w' ∧ Below w.heap.size w w' := copied_any j A1 c1 A2 c2 A3 c3 w hJ l1 l2 l3
theorem C_room {α : Type} {d : Kd α} {e b g n k : Nat} {w : World} {xs : List α} (h : d.R e w b (fun _ => True) (.slice (some ⟨g, 0, none⟩) n k) xs) : d.C w (some ⟨g, 0, none⟩) n xs := by
  have h1 := Kd.R_reads' h
  have h2 := h1.2.2
  rw [← h1.1] at h2
  exact h2
theorem R_room {α : Type} {d : Kd α} {e b g n k : Nat} {w : World} {xs : List α} (h : d.R e w b (fun _ => True) (.slice (some ⟨g, 0, none⟩) n k) xs) : n ≤ k := by
  have h1 := Kd.R_reads' h
  exact h1.2.1
theorem jrow' {w : World} {g : Nat} {j j2 : Jn} {A1 A2 A3 : Option Addr} {c1 c2 c3 : Nat} (h : w.heap[g]? = some (.cells (jC j A1 c1 A2 c2 A3 c3).toArray 60 (0, 0))) (e : jC j2 A1 c1 A2 c2 A3 c3 = jC j A1 c1 A2 c2 A3 c3) : rowOf w ⟨g, 0, none⟩ 6 = some (jC j2 A1 c1 A2 c2 A3 c3) := by
  rw [e]
  exact jrow h
/-- The journal handed in, and its copy. -/
structure LS (W : World) (j jc : Jn) (A1 : Option Addr) (c1 : Nat) (A2 : Option Addr) (c2 : Nat) (A3 : Option Addr) (c3 : Nat) (g1 k1 g2 k2 g3 k3 q q3 : Nat) (u : World) : Prop where
  cq : u.heap[q]? = some (.cells (jC j A1 c1 A2 c2 A3 c3).toArray 60 (0, 0))
  c3 : u.heap[q3]? = some (.cells (jC j (some ⟨g1, 0, none⟩) k1 (some ⟨g2, 0, none⟩) k2 (some ⟨g3, 0, none⟩) k3).toArray 60 (0, 0))
  O3 : Own3 W jc g1 k1 g2 k2 g3 k3 u
  bel : Below W.heap.size W u
theorem LS.below {W : World} {j jc : Jn} {A1 : Option Addr} {c1 : Nat} {A2 : Option Addr} {c2 : Nat} {A3 : Option Addr} {c3 : Nat} {g1 k1 g2 k2 g3 k3 q q3 : Nat} {u u1 : World} (h : LS W j jc A1 c1 A2 c2 A3 c3 g1 k1 g2 k2 g3 k3 q q3 u) (hb : Below u.heap.size u u1) : LS W j jc A1 c1 A2 c2 A3 c3 g1 k1 g2 k2 g3 k3 q q3 u1 := ⟨blk_below h.cq hb, blk_below h.c3 hb, h.O3.below hb, below_step h.bel hb⟩
theorem lawenc (j : Jn) (A1 : Option Addr) (c1 : Nat) (A2 : Option Addr) (c2 : Nat) (A3 : Option Addr) (c3 : Nat) (w : World) (hJ : JAt w j A1 c1 A2 c2 A3 c3) (l1 : j.res.length * 72 ≤ 140737488351232) (l2 : j.need.length * 32 ≤ 140737488351232) (l3 : j.tab.length * 72 ≤ 140737488351232) (hH : Handle w) :
    Calls Tryz.prog 5 #[.agg (jC j A1 c1 A2 c2 A3 c3).toArray] w fun e w' => e = .returned (.bool true) ∧ Below w.heap.size w w' := by
  obtain ⟨W, hW⟩ : ∃ W, W = w.alloc (.cells (jC j A1 c1 A2 c2 A3 c3).toArray 60) := ⟨_, rfl⟩
  have hbk : W.heap[w.heap.size]? = some (.cells (jC j A1 c1 A2 c2 A3 c3).toArray 60 (0, 0)) := hW ▸ heap_alloc_new w _
  have hBW : Below w.heap.size w W := hW ▸ below_alloc (Below.refl _ _) _
  obtain ⟨q, hq⟩ : ∃ q, w.heap.size = q := ⟨_, rfl⟩
  rw [hq] at hbk
  have hld := jrow hbk
  have hop : (⟨#[105, 110, 116, 97, 107, 101, 46, 101, 110, 99, 111, 100, 101]⟩ : ByteArray) = opEnc := rfl
  have HQ := Aside0.mk hq
  have HW := Aside0.mk hW
  have HBW := Aside0.mk hBW
  have HBK := Aside0.mk hbk
  have HJ := Aside0.mk (hJ.below hBW)
  have HH := Aside0.mk (handle_below hH hBW)
  have L0 : Aside0 (j.res.length ≤ 140737488355328 ∧ j.need.length ≤ 140737488355328 ∧ j.tab.length ≤ 140737488355328 ∧ j.res.length ≤ 5000000000000 ∧ j.need.length ≤ 5000000000000 ∧ j.tab.length ≤ 5000000000000) := ⟨by omega, by omega, by omega, by omega, by omega, by omega⟩
  have HL := Aside0.mk (And.intro l1 (And.intro l2 l3))
  clear hW hBW hbk hJ hH hq hop l1 l2 l3
  go_enter Tryz.func5, Tryz.ntmps5
  go_upto_region 1 with (fail)
  rw [← HW.out, HQ.out]
  go_upto_region 2 with (first
    | (go_at_call 18; refine (copied_lit j A1 c1 A2 c2 A3 c3 W HJ.out HL.out.1 HL.out.2.1 HL.out.2.2).mono ?_; rintro e w1 ⟨g1, k1, g2, k2, g3, k3, rfl, hO, hb⟩
       have S1 := Aside0.mk (And.intro hO hb)
       clear hO hb)
    | go_in)
  obtain ⟨x1, hx1⟩ : ∃ x1, w1.alloc (.cells #[.string j.name, .int .i64 j.ent, .int .i64 j.idx, .slice (some ⟨g1, 0, none⟩) j.res.length k1, .slice (some ⟨g2, 0, none⟩) j.need.length k2, .slice (some ⟨g3, 0, none⟩) j.tab.length k3] 60) = x1 := ⟨_, rfl⟩
  obtain ⟨q3, hq3⟩ : ∃ q3, w1.heap.size = q3 := ⟨_, rfl⟩
  have hb1 : Below w1.heap.size w1 x1 := hx1 ▸ below_alloc (Below.refl _ _) _
  have S2 : Aside0 (LS W j j A1 c1 A2 c2 A3 c3 g1 k1 g2 k2 g3 k3 q q3 x1 ∧ g2 < q3 ∧ q3 < x1.heap.size) := ⟨⟨blk_below (blk_below HBK.out S1.out.2) hb1, by rw [← hx1, ← hq3]; exact heap_alloc_new w1 _, S1.out.1.below hb1, below_step S1.out.2 hb1⟩, by rw [← hq3]; exact Kd.R_lt S1.out.1.r2 g2 rfl, by rw [← hx1, ← hq3]; simp⟩
  rw [hx1, hq3]
  have r3 := jrow S2.out.1.c3
  clear hx1 hq3 hb1 hld
  go_upto_region 6 with (first
    | (go_at_call 19; (with_reducible refine (encode_any j (some ⟨g1, 0, none⟩) k1 (some ⟨g2, 0, none⟩) k2 (some ⟨g3, 0, none⟩) k3 x1 (S2.out.1.O3.at HJ.out.ok)).mono ?_); rintro e w2 ⟨Ag, kg, ve, rfl, hR, hE, hb⟩
       have S3 := Aside0.mk (And.intro (S2.out.1.below hb) (And.intro hR hE))
       have SZ : Aside0 (x1.heap.size ≤ w2.heap.size) := ⟨hb.size⟩
       have rq := jrow S3.out.1.cq
       clear hR hE hb)
    | (go_at_call 20; (with_reducible refine (rencode_any j A1 c1 A2 c2 A3 c3 w2 (HJ.out.below S3.out.1.bel) L0.out.1 L0.out.2.1 L0.out.2.2.1).mono ?_); rintro e w3 ⟨Aw, kw, rfl, hR, hb⟩
       have S4 := Aside0.mk (And.intro (S3.out.1.below hb) (And.intro (Kd.R_below S3.out.2.1 hb) (And.intro hR (S3.out.2.2.below hb))))
       clear hR hb)
    | (go_at_call 21; refine (says_any opEnc ve (codeF j) w3 (handle_below HH.out S4.out.1.bel) S4.out.2.2.2).mono ?_; rintro e w4 ⟨rfl, hb⟩
       have S5 := Aside0.mk (And.intro (S4.out.1.below hb) (And.intro (Kd.R_below S4.out.2.1 hb) (Kd.R_below S4.out.2.2.1 hb)))
       clear hb)
    | (go_at_call 22; (with_reducible refine (same_true Ag kg Aw kw (encF j) w4 (Kd.R_reads' S5.out.2.1).2.2 (Kd.R_reads' S5.out.2.2).2.2 (by have := encF_le HJ.out.ok; omega)).mono ?_); rintro e w5 ⟨rfl, hb⟩
       have S6 := Aside0.mk (And.intro (S5.out.1.below hb) (And.intro (Kd.R_below S5.out.2.1 hb) (Kd.R_below S5.out.2.2 hb)))
       have rt := jrow S6.out.1.c3
       have ru := jrow S6.out.1.cq
       clear hb)
    | (go_at_call 23; (with_reducible refine (journals_true j (some ⟨g1, 0, none⟩) k1 (some ⟨g2, 0, none⟩) k2 (some ⟨g3, 0, none⟩) k3 A1 c1 A2 c2 A3 c3 w5 (S6.out.1.O3.at HJ.out.ok) (HJ.out.below S6.out.1.bel) L0.out.1 L0.out.2.1 L0.out.2.2.1).mono ?_); rintro e w6 ⟨rfl, hb⟩
       have S7 := Aside0.mk (And.intro (S6.out.1.below hb) (And.intro (Kd.R_below S6.out.2.1 hb) (Kd.R_below S6.out.2.2 hb)))
       have v3 : w6.cell? ⟨q3, 3, none⟩ = some (.slice (some ⟨g1, 0, none⟩) j.res.length k1) := (blk_cell S7.out.1.c3 _).trans rfl
       have v4 : w6.cell? ⟨q3, 4, none⟩ = some (.slice (some ⟨g2, 0, none⟩) j.need.length k2) := (blk_cell S7.out.1.c3 _).trans rfl
       clear hb)
    | (have X := S8; go_at_call 24; (with_reducible refine (marked_true (some ⟨g3, 0, none⟩) k3 j.tab (some ⟨g2, 0, none⟩) k2 j.need w7 (C_room S8.out.1.O3.r3) (R_room S8.out.1.O3.r3) (C_room S8.out.1.O3.r2) (R_room S8.out.1.O3.r2) L0.out.2.2.2.2.2 L0.out.2.2.2.2.1).mono ?_); rintro e w8 ⟨rfl, hb⟩
       have S9 := Aside0.mk (And.intro (S8.out.1.below hb) (And.intro (Kd.R_below S8.out.2.1 hb) (Kd.R_below S8.out.2.2 hb)))
       have ry := jrow S9.out.1.cq
       clear hb)
    | (go_at_call 24; (with_reducible refine (marked_true (some ⟨g1, 0, none⟩) k1 j.res (some ⟨g2, 0, none⟩) k2 j.need w6 (C_room S7.out.1.O3.r1) (R_room S7.out.1.O3.r1) (C_room S7.out.1.O3.r2) (R_room S7.out.1.O3.r2) L0.out.2.2.2.1 L0.out.2.2.2.2.1).mono ?_); rintro e w7 ⟨rfl, hb⟩
       have S8 := Aside0.mk (And.intro (S7.out.1.below hb) (And.intro (Kd.R_below S7.out.2.1 hb) (Kd.R_below S7.out.2.2 hb)))
       have u5 : w7.cell? ⟨q3, 5, none⟩ = some (.slice (some ⟨g3, 0, none⟩) j.tab.length k3) := (blk_cell S8.out.1.c3 _).trans rfl
       have u4 : w7.cell? ⟨q3, 4, none⟩ = some (.slice (some ⟨g2, 0, none⟩) j.need.length k2) := (blk_cell S8.out.1.c3 _).trans rfl
       clear hb)
    | go_in)
  go_upto_region 7 with (first
    | (go_at_call 18; refine (copied_lit j A1 c1 A2 c2 A3 c3 w8 (HJ.out.below S9.out.1.bel) HL.out.1 HL.out.2.1 HL.out.2.2).mono ?_; rintro e w9 ⟨h1, m1, h2, m2, h3, m3, rfl, hO, hb⟩
       have T1 := Aside0.mk (And.intro hO hb)
       clear hO hb)
    | go_in)
  obtain ⟨x9, hx9⟩ : ∃ x9, w9.alloc (.cells #[.string j.name, .int .i64 j.ent, .int .i64 j.idx, .slice (some ⟨h1, 0, none⟩) j.res.length m1, .slice (some ⟨h2, 0, none⟩) j.need.length m2, .slice (some ⟨h3, 0, none⟩) j.tab.length m3] 60) = x9 := ⟨_, rfl⟩
  obtain ⟨q8, hq8⟩ : ∃ q8, w9.heap.size = q8 := ⟨_, rfl⟩
  have hb9 : Below w9.heap.size w9 x9 := hx9 ▸ below_alloc (Below.refl _ _) _
  have M0 : Aside0 (MS W w8 x1.heap.size w2.heap.size j g1 k1 g2 k2 g3 k3 h1 m1 h2 m2 h3 m3 q3 q8 (.slice Ag (encF j).length kg) (.slice Aw (encF j).length kw) (encF j) j j x9) :=
    ⟨⟨blk_below (blk_below S9.out.1.c3 T1.out.2) hb9, by rw [← hx9, ← hq8]; exact heap_alloc_new w9 _, (S9.out.1.O3.below T1.out.2).below hb9, T1.out.1.below hb9, Kd.R_below (Kd.R_below S9.out.2.1 T1.out.2) hb9, Kd.R_below (Kd.R_below S9.out.2.2 T1.out.2) hb9, below_step (below_step S9.out.1.bel T1.out.2) hb9,
      ⟨Kd.R_base S9.out.1.O3.r1 g1 rfl, S9.out.1.O3.ne1, S9.out.1.O3.ne2, S2.out.2.1, S2.out.2.2, blk_lt S9.out.1.c3, SZ.out⟩, ⟨Kd.R_base T1.out.1.r1 h1 rfl, T1.out.1.ne1, T1.out.1.ne2, by rw [← hq8]; exact Kd.R_lt T1.out.1.r2 h2 rfl⟩, fun k hk => ⟨Kd.R_base S9.out.2.1 k hk, Kd.R_lt S9.out.2.1 k hk⟩, fun k hk => ⟨Kd.R_base S9.out.2.2 k hk, Kd.R_lt S9.out.2.2 k hk⟩⟩⟩
  rw [hx9, hq8]
  clear hx9 hq8 hb9 S1 S2 S3 S4 S5 S6 S7 S8 S9 T1 SZ X r3 rq rt ru ry v3 v4 u5 u4
  have K0 : Aside0 (JnOk j ∧ j.tab.length = j.tab.length ∧ j.res.length = j.res.length) := ⟨HJ.out.ok, rfl, rfl⟩
  have O0 : Aside0 ((∀ A1 c1 A2 c2 A3 c3, jC j A1 c1 A2 c2 A3 c3 = jC j A1 c1 A2 c2 A3 c3) ∧ j.need = j.need) := ⟨fun _ _ _ _ _ _ => rfl, rfl⟩
  rcases hcT : j.tab with _ | ⟨rT, tT⟩
  · have hlT : j.tab.length = 0 := by rw [hcT]; rfl
    have a5_x9 : x9.cell? ⟨q8, 5, none⟩ = some (.slice (some ⟨h3, 0, none⟩) j.tab.length m3) := (blk_cell M0.out.c8 _).trans rfl
    clear hcT
    go_upto_region 10 with (fail)
    clear hlT a5_x9
    rcases hcR : j.res with _ | ⟨rR, tR⟩
    · have hlR : j.res.length = 0 := by rw [← K0.out.2.2, hcR]; rfl
      have a3_x9 : x9.cell? ⟨q8, 3, none⟩ = some (.slice (some ⟨h1, 0, none⟩) j.res.length m1) := (blk_cell M0.out.c8 _).trans rfl
      have HK2 : Aside0 (JnOk j ∧ (∀ A1 c1 A2 c2 A3 c3, jC j A1 c1 A2 c2 A3 c3 = jC j A1 c1 A2 c2 A3 c3) ∧ j.res.length ≤ 140737488355328 ∧ j.need.length ≤ 140737488355328 ∧ j.tab.length ≤ 140737488355328) := ⟨K0.out.1, O0.out.1, by rw [K0.out.2.2]; exact L0.out.1, by rw [O0.out.2]; exact L0.out.2.1, by rw [K0.out.2.1]; exact L0.out.2.2.1⟩
      clear hcR
      go_upto_region 13 with (fail)
      clear hlR a3_x9
      have KK := HK2.out
      have r3z := jrow' M0.out.c3 rfl
      clear KK
      go_wp2_with (first
        | (go_at_call 19; (with_reducible refine (encode_any j (some ⟨g1, 0, none⟩) k1 (some ⟨g2, 0, none⟩) k2 (some ⟨g3, 0, none⟩) k3 x9 (M0.out.ot.at HK2.out.1)).mono ?_); rintro e z2 ⟨Ah, kh, vf, rfl, hR, hE, hb⟩
           have Z3 := Aside0.mk (And.intro (M0.out.below hb) (And.intro hR hE))
           have rz8 := jrow' Z3.out.1.c8 rfl
           clear hR hE hb)
        | (go_at_call 20; (with_reducible refine (rencode_any j (some ⟨h1, 0, none⟩) m1 (some ⟨h2, 0, none⟩) m2 (some ⟨h3, 0, none⟩) m3 z2 (Z3.out.1.ok.at HK2.out.1) HK2.out.2.2.1 HK2.out.2.2.2.1 HK2.out.2.2.2.2).mono ?_); rintro e z3 ⟨Ax, kx, rfl, hR, hb⟩
           have Z4 := Aside0.mk (And.intro (Z3.out.1.below hb) (And.intro (Kd.R_below Z3.out.2.1 hb) (And.intro hR (Z3.out.2.2.below hb))))
           clear hR hb)
        | (go_at_call 21; refine (says_any opEnc vf (codeF j) z3 (handle_below HH.out Z4.out.1.bel) Z4.out.2.2.2).mono ?_; rintro e z4 ⟨rfl, hb⟩
           have Z5 := Aside0.mk (And.intro (Z4.out.1.below hb) (And.intro (Kd.R_below Z4.out.2.1 hb) (Kd.R_below Z4.out.2.2.1 hb)))
           clear hb)
        | (have X := Z6; go_at_call 22; (with_reducible refine (same_true Ag kg Aw kw (encF j) z5 (Kd.R_reads' Z6.out.rg).2.2 (Kd.R_reads' Z6.out.rr).2.2 (by have := encF_le HJ.out.ok; omega)).mono ?_); rintro e z6 ⟨rfl, hb⟩
           have Z7 := Aside0.mk (Z6.out.below hb)
           have rz3 := jrow' Z7.out.c3 rfl
           have ry8 := jrow' Z7.out.c8 rfl
           clear hb)
        | (go_at_call 22; (with_reducible refine (same_true Ah kh Ax kx (encF j) z4 (Kd.R_reads' Z5.out.2.1).2.2 (Kd.R_reads' Z5.out.2.2).2.2 (by have := encF_le HK2.out.1; omega)).mono ?_); rintro e z5 ⟨rfl, hb⟩
           have Z6 := Aside0.mk (Z5.out.1.below hb)
           clear hb)
        | (go_at_call 23; (with_reducible refine (journals_true j (some ⟨g1, 0, none⟩) k1 (some ⟨g2, 0, none⟩) k2 (some ⟨g3, 0, none⟩) k3 (some ⟨h1, 0, none⟩) m1 (some ⟨h2, 0, none⟩) m2 (some ⟨h3, 0, none⟩) m3 z6 (Z7.out.ot.at HK2.out.1) (Z7.out.ok.at HK2.out.1) HK2.out.2.2.1 HK2.out.2.2.2.1 HK2.out.2.2.2.2).mono ?_); rintro e z7 ⟨rfl, hb⟩
           have Z8 := Aside0.mk (Z7.out.below hb)
           clear hb)
        | (go_at_call 25; refine (awake_any z7 (handle_below HH.out Z8.out.bel)).mono ?_; rintro e z8 ⟨rfl, hb⟩
           have Z9 := Aside0.mk (below_step Z8.out.bel hb)
           clear hb)
        | go_in)
      go_ret
      exact ⟨rfl, HBW.out.trans (Z9.out.mono HBW.out.size)⟩
    · have HCR := Aside0.mk hcR
      clear hcR
      have hlR : j.res.length = tR.length + 1 := by rw [← K0.out.2.2, HCR.out]; rfl
      have p1R : (0 : Int) < (j.res.length : Int) := by omega
      have p2R : 0 < j.res.length := by omega
      have hrR : ResOk rR := K0.out.1.res rR (by rw [HCR.out]; simp)
      obtain ⟨ccR, hccR⟩ : ∃ cc, rR.code = cc := ⟨_, rfl⟩
      have cdR := code_cell M0.out.ok.r1 (r := rR) (t := tR ++ [m7, m7]) (by rw [HCR.out]; rfl)
      rw [hccR] at cdR
      obtain ⟨e1R, f1R⟩ := cdR
      have a3_x9 : x9.cell? ⟨q8, 3, none⟩ = some (.slice (some ⟨h1, 0, none⟩) j.res.length m1) := (blk_cell M0.out.c8 _).trans rfl
      have HRR := Aside0.mk hrR
      clear hlR hrR hccR
      go_upto_region 11 with (fail)
      go_region
      obtain ⟨xR, hxR⟩ : ∃ x, bits .xor .i64 ccR 1 = x := ⟨_, rfl⟩
      have xrR := xor_range ccR 1
      rw [hxR] at xrR ⊢
      have XRR := Aside0.mk xrR
      clear xrR hxR e1R f1R
      obtain ⟨yR1, hy1R⟩ : ∃ y, (x9.setCell ⟨h1, 64, none⟩ (.int .i64 xR)).drew = y := ⟨_, rfl⟩
      have MR1 : Aside0 (MS W w8 x1.heap.size w2.heap.size j g1 k1 g2 k2 g3 k3 h1 m1 h2 m2 h3 m3 q3 q8 (.slice Ag (encF j).length kg) (.slice Aw (encF j).length kw) (encF j) j { j with res := flipL xR j.res } yR1) := ⟨by rw [← hy1R]; exact (M0.out.kRes HCR.out HRR.out XRR.out).below (below_drew (Below.refl _ _))⟩
      rw [hy1R]
      have a3_yR1 : yR1.cell? ⟨q8, 3, none⟩ = some (.slice (some ⟨h1, 0, none⟩) j.res.length m1) := (blk_cell MR1.out.c8 _).trans rfl
      have b3_yR1 : yR1.cell? ⟨q3, 3, none⟩ = some (.slice (some ⟨g1, 0, none⟩) j.res.length k1) := (blk_cell MR1.out.c3 _).trans rfl
      have cd1R := (code_cell MR1.out.ok.r1 (r := { rR with code := xR }) (t := tR ++ [m7, m7]) (by simp only [HCR.out]; rfl)).1
      obtain ⟨cvR, cd2R⟩ := code_cell MR1.out.ot.r1 (r := rR) (t := tR ++ [m7, m7]) (by rw [HCR.out]; rfl)
      simp only at cd1R
      clear hy1R a3_x9
      go_upto_region 12 with (fail)
      go_region
      obtain ⟨yR2, hy2R⟩ : ∃ y, (yR1.setCell ⟨g1, 64, none⟩ (.int .i64 xR)).drew = y := ⟨_, rfl⟩
      obtain ⟨jR, hjR⟩ : ∃ j' : Jn, ({ j with res := flipL xR j.res } : Jn) = j' := ⟨_, rfl⟩
      have MR2 : Aside0 (MS W w8 x1.heap.size w2.heap.size j g1 k1 g2 k2 g3 k3 h1 m1 h2 m2 h3 m3 q3 q8 (.slice Ag (encF j).length kg) (.slice Aw (encF j).length kw) (encF j) jR jR yR2) := ⟨by rw [← hy2R, ← hjR]; exact (MR1.out.tRes HCR.out HRR.out XRR.out).below (below_drew (Below.refl _ _))⟩
      rw [hy2R]
      have HK2 : Aside0 (JnOk jR ∧ (∀ A1 c1 A2 c2 A3 c3, jC jR A1 c1 A2 c2 A3 c3 = jC j A1 c1 A2 c2 A3 c3) ∧ jR.res.length ≤ 140737488355328 ∧ jR.need.length ≤ 140737488355328 ∧ jR.tab.length ≤ 140737488355328) := ⟨by
        rw [← hjR]
        exact ⟨⟨flipL_ok XRR.out K0.out.1.res, K0.out.1.need, K0.out.1.tab⟩, fun A1 c1 A2 c2 A3 c3 => (jC_res j xR A1 c1 A2 c2 A3 c3).trans (O0.out.1 A1 c1 A2 c2 A3 c3), by simp only [flipL_length]; rw [K0.out.2.2]; exact L0.out.1, by rw [O0.out.2]; exact L0.out.2.1, by rw [K0.out.2.1]; exact L0.out.2.2.1⟩⟩
      clear hy2R hjR cd1R cd2R cvR a3_yR1 b3_yR1 p1R p2R
      go_upto_region 13 with (fail)
      have KK := HK2.out
      have r3z := jrow' MR2.out.c3 (HK2.out.2.1 _ _ _ _ _ _)
      clear KK
      go_wp2_with (first
        | (go_at_call 19; (with_reducible refine (encode_any jR (some ⟨g1, 0, none⟩) k1 (some ⟨g2, 0, none⟩) k2 (some ⟨g3, 0, none⟩) k3 yR2 (MR2.out.ot.at HK2.out.1)).mono ?_); rintro e z2 ⟨Ah, kh, vf, rfl, hR, hE, hb⟩
           have Z3 := Aside0.mk (And.intro (MR2.out.below hb) (And.intro hR hE))
           have rz8 := jrow' Z3.out.1.c8 (HK2.out.2.1 _ _ _ _ _ _)
           clear hR hE hb)
        | (go_at_call 20; (with_reducible refine (rencode_any jR (some ⟨h1, 0, none⟩) m1 (some ⟨h2, 0, none⟩) m2 (some ⟨h3, 0, none⟩) m3 z2 (Z3.out.1.ok.at HK2.out.1) HK2.out.2.2.1 HK2.out.2.2.2.1 HK2.out.2.2.2.2).mono ?_); rintro e z3 ⟨Ax, kx, rfl, hR, hb⟩
           have Z4 := Aside0.mk (And.intro (Z3.out.1.below hb) (And.intro (Kd.R_below Z3.out.2.1 hb) (And.intro hR (Z3.out.2.2.below hb))))
           clear hR hb)
        | (go_at_call 21; refine (says_any opEnc vf (codeF jR) z3 (handle_below HH.out Z4.out.1.bel) Z4.out.2.2.2).mono ?_; rintro e z4 ⟨rfl, hb⟩
           have Z5 := Aside0.mk (And.intro (Z4.out.1.below hb) (And.intro (Kd.R_below Z4.out.2.1 hb) (Kd.R_below Z4.out.2.2.1 hb)))
           clear hb)
        | (have X := Z6; go_at_call 22; (with_reducible refine (same_true Ag kg Aw kw (encF j) z5 (Kd.R_reads' Z6.out.rg).2.2 (Kd.R_reads' Z6.out.rr).2.2 (by have := encF_le HJ.out.ok; omega)).mono ?_); rintro e z6 ⟨rfl, hb⟩
           have Z7 := Aside0.mk (Z6.out.below hb)
           have rz3 := jrow' Z7.out.c3 (HK2.out.2.1 _ _ _ _ _ _)
           have ry8 := jrow' Z7.out.c8 (HK2.out.2.1 _ _ _ _ _ _)
           clear hb)
        | (go_at_call 22; (with_reducible refine (same_true Ah kh Ax kx (encF jR) z4 (Kd.R_reads' Z5.out.2.1).2.2 (Kd.R_reads' Z5.out.2.2).2.2 (by have := encF_le HK2.out.1; omega)).mono ?_); rintro e z5 ⟨rfl, hb⟩
           have Z6 := Aside0.mk (Z5.out.1.below hb)
           clear hb)
        | (go_at_call 23; (with_reducible refine (journals_true jR (some ⟨g1, 0, none⟩) k1 (some ⟨g2, 0, none⟩) k2 (some ⟨g3, 0, none⟩) k3 (some ⟨h1, 0, none⟩) m1 (some ⟨h2, 0, none⟩) m2 (some ⟨h3, 0, none⟩) m3 z6 (Z7.out.ot.at HK2.out.1) (Z7.out.ok.at HK2.out.1) HK2.out.2.2.1 HK2.out.2.2.2.1 HK2.out.2.2.2.2).mono ?_); rintro e z7 ⟨rfl, hb⟩
           have Z8 := Aside0.mk (Z7.out.below hb)
           clear hb)
        | (go_at_call 25; refine (awake_any z7 (handle_below HH.out Z8.out.bel)).mono ?_; rintro e z8 ⟨rfl, hb⟩
           have Z9 := Aside0.mk (below_step Z8.out.bel hb)
           clear hb)
        | go_in)
      go_ret
      exact ⟨rfl, HBW.out.trans (Z9.out.mono HBW.out.size)⟩
  · have HCT := Aside0.mk hcT
    clear hcT
    have hlT : j.tab.length = tT.length + 1 := by rw [← K0.out.2.1, HCT.out]; rfl
    have p1T : (0 : Int) < (j.tab.length : Int) := by omega
    have p2T : 0 < j.tab.length := by omega
    have hrT : ResOk rT := K0.out.1.tab rT (by rw [HCT.out]; simp)
    obtain ⟨ccT, hccT⟩ : ∃ cc, rT.code = cc := ⟨_, rfl⟩
    have cdT := code_cell M0.out.ok.r3 (r := rT) (t := tT ++ [m7, m7]) (by rw [HCT.out]; rfl)
    rw [hccT] at cdT
    obtain ⟨e1T, f1T⟩ := cdT
    have a5_x9 : x9.cell? ⟨q8, 5, none⟩ = some (.slice (some ⟨h3, 0, none⟩) j.tab.length m3) := (blk_cell M0.out.c8 _).trans rfl
    have HRT := Aside0.mk hrT
    clear hlT hrT hccT
    go_upto_region 8 with (fail)
    go_region
    obtain ⟨xT, hxT⟩ : ∃ x, bits .xor .i64 ccT 1 = x := ⟨_, rfl⟩
    have xrT := xor_range ccT 1
    rw [hxT] at xrT ⊢
    have XRT := Aside0.mk xrT
    clear xrT hxT e1T f1T
    obtain ⟨yT1, hy1T⟩ : ∃ y, (x9.setCell ⟨h3, 64, none⟩ (.int .i64 xT)).drew = y := ⟨_, rfl⟩
    have MT1 : Aside0 (MS W w8 x1.heap.size w2.heap.size j g1 k1 g2 k2 g3 k3 h1 m1 h2 m2 h3 m3 q3 q8 (.slice Ag (encF j).length kg) (.slice Aw (encF j).length kw) (encF j) j { j with tab := flipL xT j.tab } yT1) := ⟨by rw [← hy1T]; exact (M0.out.kTab HCT.out HRT.out XRT.out).below (below_drew (Below.refl _ _))⟩
    rw [hy1T]
    have a5_yT1 : yT1.cell? ⟨q8, 5, none⟩ = some (.slice (some ⟨h3, 0, none⟩) j.tab.length m3) := (blk_cell MT1.out.c8 _).trans rfl
    have b5_yT1 : yT1.cell? ⟨q3, 5, none⟩ = some (.slice (some ⟨g3, 0, none⟩) j.tab.length k3) := (blk_cell MT1.out.c3 _).trans rfl
    have cd1T := (code_cell MT1.out.ok.r3 (r := { rT with code := xT }) (t := tT ++ [m7, m7]) (by simp only [HCT.out]; rfl)).1
    obtain ⟨cvT, cd2T⟩ := code_cell MT1.out.ot.r3 (r := rT) (t := tT ++ [m7, m7]) (by rw [HCT.out]; rfl)
    simp only at cd1T
    clear hy1T a5_x9
    go_upto_region 9 with (fail)
    go_region
    obtain ⟨yT2, hy2T⟩ : ∃ y, (yT1.setCell ⟨g3, 64, none⟩ (.int .i64 xT)).drew = y := ⟨_, rfl⟩
    obtain ⟨jT, hjT⟩ : ∃ j' : Jn, ({ j with tab := flipL xT j.tab } : Jn) = j' := ⟨_, rfl⟩
    have MT2 : Aside0 (MS W w8 x1.heap.size w2.heap.size j g1 k1 g2 k2 g3 k3 h1 m1 h2 m2 h3 m3 q3 q8 (.slice Ag (encF j).length kg) (.slice Aw (encF j).length kw) (encF j) jT jT yT2) := ⟨by rw [← hy2T, ← hjT]; exact (MT1.out.tTab HCT.out HRT.out XRT.out).below (below_drew (Below.refl _ _))⟩
    rw [hy2T]
    have K1 : Aside0 (JnOk jT ∧ jT.tab.length = j.tab.length ∧ jT.res.length = j.res.length) := ⟨by rw [← hjT]; exact ⟨⟨K0.out.1.res, K0.out.1.need, flipL_ok XRT.out K0.out.1.tab⟩, flipL_length _ _, rfl⟩⟩
    have O1 : Aside0 ((∀ A1 c1 A2 c2 A3 c3, jC jT A1 c1 A2 c2 A3 c3 = jC j A1 c1 A2 c2 A3 c3) ∧ jT.need = j.need) := ⟨by rw [← hjT]; exact ⟨fun A1 c1 A2 c2 A3 c3 => jC_tab j xT A1 c1 A2 c2 A3 c3, rfl⟩⟩
    clear hy2T hjT cd1T cd2T cvT a5_yT1 b5_yT1 p1T p2T
    go_upto_region 10 with (fail)
    rcases hcR : jT.res with _ | ⟨rR, tR⟩
    · have hlR : j.res.length = 0 := by rw [← K1.out.2.2, hcR]; rfl
      have a3_yT2 : yT2.cell? ⟨q8, 3, none⟩ = some (.slice (some ⟨h1, 0, none⟩) j.res.length m1) := (blk_cell MT2.out.c8 _).trans rfl
      have HK2 : Aside0 (JnOk jT ∧ (∀ A1 c1 A2 c2 A3 c3, jC jT A1 c1 A2 c2 A3 c3 = jC j A1 c1 A2 c2 A3 c3) ∧ jT.res.length ≤ 140737488355328 ∧ jT.need.length ≤ 140737488355328 ∧ jT.tab.length ≤ 140737488355328) := ⟨K1.out.1, O1.out.1, by rw [K1.out.2.2]; exact L0.out.1, by rw [O1.out.2]; exact L0.out.2.1, by rw [K1.out.2.1]; exact L0.out.2.2.1⟩
      clear hcR
      go_upto_region 13 with (fail)
      clear hlR a3_yT2
      have KK := HK2.out
      have r3z := jrow' MT2.out.c3 (HK2.out.2.1 _ _ _ _ _ _)
      clear KK
      go_wp2_with (first
        | (go_at_call 19; (with_reducible refine (encode_any jT (some ⟨g1, 0, none⟩) k1 (some ⟨g2, 0, none⟩) k2 (some ⟨g3, 0, none⟩) k3 yT2 (MT2.out.ot.at HK2.out.1)).mono ?_); rintro e z2 ⟨Ah, kh, vf, rfl, hR, hE, hb⟩
           have Z3 := Aside0.mk (And.intro (MT2.out.below hb) (And.intro hR hE))
           have rz8 := jrow' Z3.out.1.c8 (HK2.out.2.1 _ _ _ _ _ _)
           clear hR hE hb)
        | (go_at_call 20; (with_reducible refine (rencode_any jT (some ⟨h1, 0, none⟩) m1 (some ⟨h2, 0, none⟩) m2 (some ⟨h3, 0, none⟩) m3 z2 (Z3.out.1.ok.at HK2.out.1) HK2.out.2.2.1 HK2.out.2.2.2.1 HK2.out.2.2.2.2).mono ?_); rintro e z3 ⟨Ax, kx, rfl, hR, hb⟩
           have Z4 := Aside0.mk (And.intro (Z3.out.1.below hb) (And.intro (Kd.R_below Z3.out.2.1 hb) (And.intro hR (Z3.out.2.2.below hb))))
           clear hR hb)
        | (go_at_call 21; refine (says_any opEnc vf (codeF jT) z3 (handle_below HH.out Z4.out.1.bel) Z4.out.2.2.2).mono ?_; rintro e z4 ⟨rfl, hb⟩
           have Z5 := Aside0.mk (And.intro (Z4.out.1.below hb) (And.intro (Kd.R_below Z4.out.2.1 hb) (Kd.R_below Z4.out.2.2.1 hb)))
           clear hb)
        | (have X := Z6; go_at_call 22; (with_reducible refine (same_true Ag kg Aw kw (encF j) z5 (Kd.R_reads' Z6.out.rg).2.2 (Kd.R_reads' Z6.out.rr).2.2 (by have := encF_le HJ.out.ok; omega)).mono ?_); rintro e z6 ⟨rfl, hb⟩
           have Z7 := Aside0.mk (Z6.out.below hb)
           have rz3 := jrow' Z7.out.c3 (HK2.out.2.1 _ _ _ _ _ _)
           have ry8 := jrow' Z7.out.c8 (HK2.out.2.1 _ _ _ _ _ _)
           clear hb)
        | (go_at_call 22; (with_reducible refine (same_true Ah kh Ax kx (encF jT) z4 (Kd.R_reads' Z5.out.2.1).2.2 (Kd.R_reads' Z5.out.2.2).2.2 (by have := encF_le HK2.out.1; omega)).mono ?_); rintro e z5 ⟨rfl, hb⟩
           have Z6 := Aside0.mk (Z5.out.1.below hb)
           clear hb)
        | (go_at_call 23; (with_reducible refine (journals_true jT (some ⟨g1, 0, none⟩) k1 (some ⟨g2, 0, none⟩) k2 (some ⟨g3, 0, none⟩) k3 (some ⟨h1, 0, none⟩) m1 (some ⟨h2, 0, none⟩) m2 (some ⟨h3, 0, none⟩) m3 z6 (Z7.out.ot.at HK2.out.1) (Z7.out.ok.at HK2.out.1) HK2.out.2.2.1 HK2.out.2.2.2.1 HK2.out.2.2.2.2).mono ?_); rintro e z7 ⟨rfl, hb⟩
           have Z8 := Aside0.mk (Z7.out.below hb)
           clear hb)
        | (go_at_call 25; refine (awake_any z7 (handle_below HH.out Z8.out.bel)).mono ?_; rintro e z8 ⟨rfl, hb⟩
           have Z9 := Aside0.mk (below_step Z8.out.bel hb)
           clear hb)
        | go_in)
      go_ret
      exact ⟨rfl, HBW.out.trans (Z9.out.mono HBW.out.size)⟩
    · have HCR := Aside0.mk hcR
      clear hcR
      have hlR : j.res.length = tR.length + 1 := by rw [← K1.out.2.2, HCR.out]; rfl
      have p1R : (0 : Int) < (j.res.length : Int) := by omega
      have p2R : 0 < j.res.length := by omega
      have hrR : ResOk rR := K1.out.1.res rR (by rw [HCR.out]; simp)
      obtain ⟨ccR, hccR⟩ : ∃ cc, rR.code = cc := ⟨_, rfl⟩
      have cdR := code_cell MT2.out.ok.r1 (r := rR) (t := tR ++ [m7, m7]) (by rw [HCR.out]; rfl)
      rw [hccR] at cdR
      obtain ⟨e1R, f1R⟩ := cdR
      have a3_yT2 : yT2.cell? ⟨q8, 3, none⟩ = some (.slice (some ⟨h1, 0, none⟩) j.res.length m1) := (blk_cell MT2.out.c8 _).trans rfl
      have HRR := Aside0.mk hrR
      clear hlR hrR hccR
      go_upto_region 11 with (fail)
      go_region
      obtain ⟨xR, hxR⟩ : ∃ x, bits .xor .i64 ccR 1 = x := ⟨_, rfl⟩
      have xrR := xor_range ccR 1
      rw [hxR] at xrR ⊢
      have XRR := Aside0.mk xrR
      clear xrR hxR e1R f1R
      obtain ⟨yR1, hy1R⟩ : ∃ y, (yT2.setCell ⟨h1, 64, none⟩ (.int .i64 xR)).drew = y := ⟨_, rfl⟩
      have MR1 : Aside0 (MS W w8 x1.heap.size w2.heap.size j g1 k1 g2 k2 g3 k3 h1 m1 h2 m2 h3 m3 q3 q8 (.slice Ag (encF j).length kg) (.slice Aw (encF j).length kw) (encF j) jT { jT with res := flipL xR jT.res } yR1) := ⟨by rw [← hy1R]; exact (MT2.out.kRes HCR.out HRR.out XRR.out).below (below_drew (Below.refl _ _))⟩
      rw [hy1R]
      have a3_yR1 : yR1.cell? ⟨q8, 3, none⟩ = some (.slice (some ⟨h1, 0, none⟩) j.res.length m1) := (blk_cell MR1.out.c8 _).trans rfl
      have b3_yR1 : yR1.cell? ⟨q3, 3, none⟩ = some (.slice (some ⟨g1, 0, none⟩) j.res.length k1) := (blk_cell MR1.out.c3 _).trans rfl
      have cd1R := (code_cell MR1.out.ok.r1 (r := { rR with code := xR }) (t := tR ++ [m7, m7]) (by simp only [HCR.out]; rfl)).1
      obtain ⟨cvR, cd2R⟩ := code_cell MR1.out.ot.r1 (r := rR) (t := tR ++ [m7, m7]) (by rw [HCR.out]; rfl)
      simp only at cd1R
      clear hy1R a3_yT2
      go_upto_region 12 with (fail)
      go_region
      obtain ⟨yR2, hy2R⟩ : ∃ y, (yR1.setCell ⟨g1, 64, none⟩ (.int .i64 xR)).drew = y := ⟨_, rfl⟩
      obtain ⟨jR, hjR⟩ : ∃ j' : Jn, ({ jT with res := flipL xR jT.res } : Jn) = j' := ⟨_, rfl⟩
      have MR2 : Aside0 (MS W w8 x1.heap.size w2.heap.size j g1 k1 g2 k2 g3 k3 h1 m1 h2 m2 h3 m3 q3 q8 (.slice Ag (encF j).length kg) (.slice Aw (encF j).length kw) (encF j) jR jR yR2) := ⟨by rw [← hy2R, ← hjR]; exact (MR1.out.tRes HCR.out HRR.out XRR.out).below (below_drew (Below.refl _ _))⟩
      rw [hy2R]
      have HK2 : Aside0 (JnOk jR ∧ (∀ A1 c1 A2 c2 A3 c3, jC jR A1 c1 A2 c2 A3 c3 = jC j A1 c1 A2 c2 A3 c3) ∧ jR.res.length ≤ 140737488355328 ∧ jR.need.length ≤ 140737488355328 ∧ jR.tab.length ≤ 140737488355328) := ⟨by
        rw [← hjR]
        exact ⟨⟨flipL_ok XRR.out K1.out.1.res, K1.out.1.need, K1.out.1.tab⟩, fun A1 c1 A2 c2 A3 c3 => (jC_res jT xR A1 c1 A2 c2 A3 c3).trans (O1.out.1 A1 c1 A2 c2 A3 c3), by simp only [flipL_length]; rw [K1.out.2.2]; exact L0.out.1, by rw [O1.out.2]; exact L0.out.2.1, by rw [K1.out.2.1]; exact L0.out.2.2.1⟩⟩
      clear hy2R hjR cd1R cd2R cvR a3_yR1 b3_yR1 p1R p2R
      go_upto_region 13 with (fail)
      have KK := HK2.out
      have r3z := jrow' MR2.out.c3 (HK2.out.2.1 _ _ _ _ _ _)
      clear KK
      go_wp2_with (first
        | (go_at_call 19; (with_reducible refine (encode_any jR (some ⟨g1, 0, none⟩) k1 (some ⟨g2, 0, none⟩) k2 (some ⟨g3, 0, none⟩) k3 yR2 (MR2.out.ot.at HK2.out.1)).mono ?_); rintro e z2 ⟨Ah, kh, vf, rfl, hR, hE, hb⟩
           have Z3 := Aside0.mk (And.intro (MR2.out.below hb) (And.intro hR hE))
           have rz8 := jrow' Z3.out.1.c8 (HK2.out.2.1 _ _ _ _ _ _)
           clear hR hE hb)
        | (go_at_call 20; (with_reducible refine (rencode_any jR (some ⟨h1, 0, none⟩) m1 (some ⟨h2, 0, none⟩) m2 (some ⟨h3, 0, none⟩) m3 z2 (Z3.out.1.ok.at HK2.out.1) HK2.out.2.2.1 HK2.out.2.2.2.1 HK2.out.2.2.2.2).mono ?_); rintro e z3 ⟨Ax, kx, rfl, hR, hb⟩
           have Z4 := Aside0.mk (And.intro (Z3.out.1.below hb) (And.intro (Kd.R_below Z3.out.2.1 hb) (And.intro hR (Z3.out.2.2.below hb))))
           clear hR hb)
        | (go_at_call 21; refine (says_any opEnc vf (codeF jR) z3 (handle_below HH.out Z4.out.1.bel) Z4.out.2.2.2).mono ?_; rintro e z4 ⟨rfl, hb⟩
           have Z5 := Aside0.mk (And.intro (Z4.out.1.below hb) (And.intro (Kd.R_below Z4.out.2.1 hb) (Kd.R_below Z4.out.2.2.1 hb)))
           clear hb)
        | (have X := Z6; go_at_call 22; (with_reducible refine (same_true Ag kg Aw kw (encF j) z5 (Kd.R_reads' Z6.out.rg).2.2 (Kd.R_reads' Z6.out.rr).2.2 (by have := encF_le HJ.out.ok; omega)).mono ?_); rintro e z6 ⟨rfl, hb⟩
           have Z7 := Aside0.mk (Z6.out.below hb)
           have rz3 := jrow' Z7.out.c3 (HK2.out.2.1 _ _ _ _ _ _)
           have ry8 := jrow' Z7.out.c8 (HK2.out.2.1 _ _ _ _ _ _)
           clear hb)
        | (go_at_call 22; (with_reducible refine (same_true Ah kh Ax kx (encF jR) z4 (Kd.R_reads' Z5.out.2.1).2.2 (Kd.R_reads' Z5.out.2.2).2.2 (by have := encF_le HK2.out.1; omega)).mono ?_); rintro e z5 ⟨rfl, hb⟩
           have Z6 := Aside0.mk (Z5.out.1.below hb)
           clear hb)
        | (go_at_call 23; (with_reducible refine (journals_true jR (some ⟨g1, 0, none⟩) k1 (some ⟨g2, 0, none⟩) k2 (some ⟨g3, 0, none⟩) k3 (some ⟨h1, 0, none⟩) m1 (some ⟨h2, 0, none⟩) m2 (some ⟨h3, 0, none⟩) m3 z6 (Z7.out.ot.at HK2.out.1) (Z7.out.ok.at HK2.out.1) HK2.out.2.2.1 HK2.out.2.2.2.1 HK2.out.2.2.2.2).mono ?_); rintro e z7 ⟨rfl, hb⟩
           have Z8 := Aside0.mk (Z7.out.below hb)
           clear hb)
        | (go_at_call 25; refine (awake_any z7 (handle_below HH.out Z8.out.bel)).mono ?_; rintro e z8 ⟨rfl, hb⟩
           have Z9 := Aside0.mk (below_step Z8.out.bel hb)
           clear hb)
        | go_in)
      go_ret
      exact ⟨rfl, HBW.out.trans (Z9.out.mono HBW.out.size)⟩
end Go.Proofs.YtdekmeanlcpenaaGreatDoor.Law
