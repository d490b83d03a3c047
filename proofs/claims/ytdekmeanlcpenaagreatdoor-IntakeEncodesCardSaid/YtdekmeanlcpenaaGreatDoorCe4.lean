import Derived.Test.YtdekmeanlcpenaaGreatDoorCe3
import Derived.ArgAppend
import Derived.Test.YtdekmeanlcpenaaGreatDoorWMore
import Derived.Test.YtdekmeanlcpenaaGreatDoorWWords
import Derived.BigQuiet
set_option linter.unusedSimpArgs false
set_option linter.unusedVariables false
namespace Go.Proofs.YtdekmeanlcpenaaGreatDoor.Law
open Go.RowKit Go.Proofs.YtdekmeanlcpenaaGreatDoorW.PrintWords Go.Proofs.YtdekmeanlcpenaaGreatDoor.Mid Go.Proofs.YtdekmeanlcpenaaGreatDoor.Pick
attribute [local go_sem ↓ high] load33_eq load29_eq build69_eq build33_eq build29_eq
attribute [local simp] rowOf_drew rowOf_drewN
attribute [local go_sem high] load33_row load29_row rowOf_drew rowOf_drewN bld29_none
set_option maxHeartbeats 2000000
set_option maxRecDepth 100000

/-- restore.Restore's op, and the name that known asks with. -/
def opRestore : ByteArray := { data := #[114, 101, 115, 116, 111, 114, 101, 46, 114, 101, 115, 116, 111, 114, 101] }
def nameF : ByteArray := { data := #[102, 46, 120] }
theorem none_nil (w : World) : Calls Tryz.prog 78 #[.pointer none] w fun e w' => e = .returned (.bool true) ∧ Below w.heap.size w w' := by
  go_enter Tryz.func78, Tryz.ntmps78
  go_wp2
  go_ret
  exact ⟨rfl, Below.refl _ _⟩
theorem off_nil (w : World) : Calls Tryz.prog 38 #[.pointer none] w fun e w' => e = .returned (.bool true) ∧ Below w.heap.size w w' := by
  go_enter Tryz.func38, Tryz.ntmps38
  go_wp2_with (first
    | (go_at_call 78; refine (none_nil _).mono ?_; rintro e w1 ⟨rfl, hb1⟩; have HB1 := Aside0.mk hb1; clear hb1)
    | go_in)
  go_ret
  exact ⟨rfl, HB1.out⟩
theorem disk_nil (w : World) : Calls Tryz.prog 37 #[.pointer none] w fun e w' => e = .returned (.pointer none) ∧ Below w.heap.size w w' := by
  go_enter Tryz.func37, Tryz.ntmps37
  go_wp2
  go_ret
  exact ⟨rfl, Below.refl _ _⟩
theorem clo66 (x : List Int) (hx : IdOk x) (n : Int) (bb : Nat) (nm : ByteArray) (w : World) (hb : w.heap[bb]? = some (.cells #[.string nm] 9 (0, 0))) :
    Calls Tryz.prog 36 #[idv x, errno n, .pointer (some ⟨bb, 0, none⟩)] w fun e w' => (∃ v, e = .returned v ∧ ∃ g, v = .iface 79 (.pointer (some ⟨g, 0, none⟩)) ∧ w.heap.size ≤ g ∧ w'.heap[g]? = some (.cells (faultC opRestore nm x (errno n)).toArray 82 (0, 0))) ∧ Below w.heap.size w w' := by
  obtain ⟨W, hW⟩ : ∃ W, W = w.alloc (.cells (u8s x).toArray 29) := ⟨_, rfl⟩
  have hBW : Below w.heap.size w W := hW ▸ below_alloc (Below.refl _ _) _
  have hbx : rowOf W ⟨w.heap.size, 0, none⟩ 32 = some (u8s x) := (hW ▸ At.new w (u8s x) 29 : At W _ _).id hx
  have hc : W.cell? ⟨bb, 0, none⟩ = some (.string nm) := cell_of_one ((hBW.block _ (blk_lt hb)).trans hb)
  have hbb := fun u => bld69_four u opRestore nm x hx (errno n) rfl
  have HW := Aside0.mk hW
  have HBW := Aside0.mk hBW
  clear hW hBW hb
  unfold opRestore errno at hbb
  unfold idv errno
  go_enter Tryz.func36, Tryz.ntmps36
  go_upto_region 1 with (fail)
  rw [← HW.out]
  go_wp2
  go_ret
  exact ⟨⟨_, rfl, W.heap.size, rfl, HBW.out.size, heap_alloc_new W _⟩, HBW.out.trans ((below_alloc (Below.refl W.heap.size W) _).mono HBW.out.size)⟩
/-- What the restore of a cache that is nil answers. -/
theorem restore_nil (nm : ByteArray) (w : World) :
    Calls Tryz.prog 17 #[.pointer none, .string nm, .slice none 0 0, .int .i64 1] w fun e w' => (∃ v, e = .returned v ∧ ∃ g, v = .iface 79 (.pointer (some ⟨g, 0, none⟩)) ∧ w.heap.size ≤ g ∧ w'.heap[g]? = some (.cells (faultC opRestore nm z32 (errno 50)).toArray 82 (0, 0))) ∧ Below w.heap.size w w' := by
  obtain ⟨W, hW⟩ : ∃ W, W = w.alloc (.cells #[.string nm] 9) := ⟨_, rfl⟩
  have hBW : Below w.heap.size w W := hW ▸ below_alloc (Below.refl _ _) _
  have hc : W.heap[w.heap.size]? = some (.cells #[.string nm] 9 (0, 0)) := hW ▸ heap_alloc_new w _
  have HC := Aside0.mk hc
  have HW := Aside0.mk hW
  have HBW := Aside0.mk hBW
  have hmf : ∀ (fn : Fn) (first cap : Array Value) (w : World), (Instr.makeFunc fn first cap).run Tryz.prog w = .ok (.func fn first cap) w := fun _ _ _ _ => rfl
  clear hW hBW hc
  go_enter Tryz.func17, Tryz.ntmps17
  go_upto_region 1 with (fail)
  rw [← HW.out]
  go_wp2_with (first
    | (go_at_call 37; refine (disk_nil _).mono ?_; rintro e w1 ⟨rfl, hb1⟩; have HB1 := Aside0.mk hb1; clear hb1)
    | (go_at_call 38; refine (off_nil _).mono ?_; rintro e w2 ⟨rfl, hb2⟩; have HB2 := Aside0.mk (HB1.out.trans (hb2.mono HB1.out.size)); clear hb2)
    | (go_at_call 36; refine (clo66 z32 z32_ok 50 w.heap.size nm _ ((HB2.out.block _ (blk_lt HC.out)).trans HC.out)).mono ?_; rintro e w3 ⟨⟨v, rfl, hv⟩, hb3⟩; have HV := Aside0.mk hv; have HB3 := Aside0.mk (HB2.out.trans (hb3.mono HB2.out.size)); have HL := Aside0.mk HB2.out.size; clear hb3 hv)
    | go_in)
  go_ret
  refine ⟨⟨v, rfl, ?_⟩, HBW.out.trans (HB3.out.mono HBW.out.size)⟩
  obtain ⟨g, e, h1, h2⟩ := HV.out
  exact ⟨g, e, Nat.le_trans (Nat.le_trans HBW.out.size HL.out) h1, h2⟩
end Go.Proofs.YtdekmeanlcpenaaGreatDoor.Law

namespace Go.Proofs.YtdekmeanlcpenaaGreatDoor.Law
open Go.RowKit Go.Proofs.YtdekmeanlcpenaaGreatDoorW.PrintWords Go.Proofs.YtdekmeanlcpenaaGreatDoor.Mid
attribute [local go_sem ↓ high] load33_eq load29_eq
attribute [local simp] rowOf_drew rowOf_drewN
attribute [local go_sem high] load33_row load29_row rowOf_drew rowOf_drewN
set_option maxHeartbeats 2000000
set_option maxRecDepth 100000
theorem tables_true (A0 : Option Addr) (c0 : Nat) (A1 : Option Addr) (c1 : Nat) (rs : List Res) (w : World) (h0 : resK.C w A0 rs.length rs) (h1 : resK.C w A1 rs.length rs) (hl : rs.length ≤ 1000000) :
    Calls Tryz.prog 12 #[.slice A0 rs.length c0, .slice A1 rs.length c1] w fun e w' => e = .returned (.bool true) ∧ Below w.heap.size w w' := by
  have H0 := Aside0.mk h0
  have H1 := Aside0.mk h1
  clear h0 h1
  go_enter Tryz.func12, Tryz.ntmps12
  go_wp2
  go_loopg [5] rs.length (fun k v5 w' => ∃ i : Nat, v5 = .int .i64 i ∧ i + k = rs.length ∧ Aside0 (Drawn0 w w'))
  case atStart => exact ⟨0, rfl, by omega, ⟨Drawn0.refl _⟩⟩
  case round =>
    obtain ⟨i, rfl, hik, HD⟩ := hrel
    cases gk with
    | zero =>
      have hd : decide (i < rs.length) = false := by simp; omega
      clear hik
      go_wp2
      go_ret
      exact ⟨rfl, HD.out.below⟩
    | succ k =>
      have hi : i < rs.length := by omega
      have hi1 : (i : Int) < (rs.length : Int) := by omega
      obtain ⟨ad, r, e0, hr, ho, hat⟩ := res_at (Kd.C_below H0.out HD.out.below) i hi
      subst e0
      obtain ⟨ad1, r1, e1, hr1, ho1, hat1⟩ := res_at (Kd.C_below H1.out HD.out.below) i hi
      subst e1
      have e : r1 = r := by rw [hr] at hr1; exact (Option.some.inj hr1).symm
      subst e
      have g1 := hat.res ho
      have g2 := hat1.res ho1
      have heq : ∀ u, (Op.equalIn 10000 33 (.agg (resC r1).toArray) (.agg (resC r1).toArray)).run Tryz.prog u = .ok true u := fun u => by rw [eqI33 u _ _ ho1 ho1, decide_eq_true rfl]
      clear hr hr1 ho ho1 hat hat1
      go_wp2
      go_quiet (fail)
      go_wp2
      go_roundg k
      case measure => omega
      case rel => exact ⟨i + 1, by go_num, by omega, ⟨HD.out.step _⟩⟩
end Go.Proofs.YtdekmeanlcpenaaGreatDoor.Law

namespace Go.Proofs.YtdekmeanlcpenaaGreatDoor.Sep
open Go.RowKit Go.Proofs.YtdekmeanlcpenaaGreatDoorW.PrintWords Go.Proofs.YtdekmeanlcpenaaGreatDoorW.PrintLast Go.Proofs.YtdekmeanlcpenaaGreatDoorW.PrintMore

theorem below_none {W W1 : World} (hg : W.grownBy W1 none) : Below W.heap.size W W1 := ⟨hg.os, hg.tape, hg.output, hg.size, fun k hk => hg.block k hk (by simp)⟩

/-- append onto a row of one's own: what comes of it, and that the row itself reads as before. -/
theorem run_append_row {P : Program} (w : World) (base : Nat) (t ty e : TypeId) (z : Value) (size bytes : Nat) (ht : P.underlying t = some (.slice e))
    (hinfo : (P.info? e).map (fun i => (i.zero, i.size, i.bytes)) = some (some z, size, bytes)) (hz : z.cells.size = size) (hs0 : 0 < size) (hb0 : 0 < bytes)
    (v : Value) (n : Nat) (xs : List Value) (HO : w.ownsRow base e size v n xs) (ad : Addr) (m c : Nat) (news : List Value) (hnl : news.length = m * size)
    (hnews : ∀ j u, news[j]? = some u → w.cell? (ad.add j) = some u) (h1 : ∀ u ∈ news, u.oneCell' = true) (hm0 : 0 < m) (hb : (n + m) * bytes ≤ 140737488355328) (hbase : base ≤ w.heap.size) :
    ∃ v1 w1, (Builtin.append_ #[t, t] ty #[v, .slice (some ad) m c]).run P w = .ok v1 w1 ∧ w1.ownsRow base e size v1 (n + m) (xs ++ news) ∧ w.grownBy w1 v.ownBlock ∧ w1.ownsRow base e size v n xs ∧
      ((∃ A k, v = .slice A n k ∧ v1 = .slice A (n + m) k) ∨ ∃ k, v1.ownBlock = some k ∧ w.heap.size ≤ k) := by
  obtain ⟨i0, hi, hzz⟩ := Option.map_eq_some_iff.1 hinfo
  simp only [Prod.mk.injEq] at hzz
  obtain ⟨hz0, hz1, hz2⟩ := hzz
  have hlen : n + m ≤ 140737488355328 := Nat.le_trans (Nat.le_mul_of_pos_right _ hb0) hb
  have h63 : n + m ≤ maxLen := by unfold maxLen; omega
  have grow : ∀ v' w', w'.ownsRow w.heap.size e size v' (n + m) (xs ++ news) → w.grownBy w' none →
      w'.ownsRow base e size v' (n + m) (xs ++ news) ∧ w.grownBy w' v.ownBlock ∧ w'.ownsRow base e size v n xs ∧ ((∃ A k, v = .slice A n k ∧ v' = .slice A (n + m) k) ∨ ∃ k, v'.ownBlock = some k ∧ w.heap.size ≤ k) := by
    intro v' w' hown hg
    have hf : ∃ k, v'.ownBlock = some k ∧ w.heap.size ≤ k := by
      rcases hown.2 with ⟨_, h0⟩ | ⟨g, cap, cur, hv, hb, _⟩
      · omega
      · exact ⟨g, by rw [hv]; rfl, by omega⟩
    exact ⟨own_less hown hbase, ⟨hg.os, hg.tape, hg.output, hg.size, fun k hk _ => hg.block k hk (by simp)⟩, own_move HO (fun k hk => hg.block k (by obtain ⟨cells, hc⟩ := own_typed HO k hk; exact blk_lt hc) (by simp)), .inr hf⟩
  rcases HO.2 with ⟨rfl, h0⟩ | ⟨g, cap, cur, rfl, hbg, hh, hnc, hcm, hcs, htake⟩
  · subst h0
    have hx0 : xs = [] := List.length_eq_zero_iff.1 (by have := HO.1; omega)
    subst hx0
    obtain ⟨v', w', hrun, r1, r2, _⟩ := run_append_own (P := P) w w.heap.size t ty e i0 z size bytes ht hi hz0 hz1 hz2 hz hs0 (.slice none 0 0) 0 [] (World.ownsRow_nil w _ e size) ad m c news hnl hnews h1 h63 hb (Nat.le_refl _)
    exact ⟨v', w', hrun, grow v' w' r1 r2⟩
  · have hnsz : n * size ≤ cur.size := by rw [hcs]; exact Nat.mul_le_mul_right _ hnc
    have hxl : xs.length = n * size := HO.1
    have holds : ∀ j u, xs[j]? = some u → w.cell? ⟨g, 0 + j, none⟩ = some u := by
      intro j u hu
      rw [Nat.zero_add, blk_cell hh, ← Array.getElem?_toList]
      rw [← htake, List.getElem?_take] at hu
      split at hu
      · exact hu
      · cases hu
    by_cases hr : n + m ≤ cap
    · have hf : n * size + m * size ≤ cur.size := by
        rw [hcs, ← Nat.add_mul]
        exact Nat.mul_le_mul_right _ hr
      subst hz1
      have hrun := run_append_room_cells (P := P) w t ty e i0 ht hi g 0 n cap ad m c news hnl hnews h1 hr
        (fun j hj => by rw [blk_cell hh]; rw [hnl] at hj; simp; omega) (fun j hj => blk_frozen hh _)
      rw [Nat.zero_add] at hrun
      obtain ⟨cur', h3, h4, h5⟩ := setCells_row news (n * i0.size) w cur hh (by rw [hnl]; exact hf)
      obtain ⟨s1, s2, s3, s4⟩ := setCells_same g news (n * i0.size) w
      have hg : w.grownBy (w.setCells g (n * i0.size) news) (some g) := ⟨s1, s2, s3, by rw [s4]; exact Nat.le_refl _, fun k _ hk => setCells_far _ _ k (fun he => hk (by rw [he]))⟩
      refine ⟨_, _, hrun, ?_, hg, ?_, .inl ⟨_, _, rfl, rfl⟩⟩
      · refine ⟨by rw [List.length_append, hxl, hnl, Nat.add_mul], .inr ⟨g, cap, cur', rfl, hbg, h3, hr, hcm, by rw [h4, hcs], ?_⟩⟩
        rw [h5, htake, Nat.add_mul, List.take_append_of_le_length (by rw [List.length_append, hxl, hnl]; exact Nat.le_refl _)]
        exact List.take_of_length_le (by rw [List.length_append, hxl, hnl]; exact Nat.le_refl _)
      · refine ⟨HO.1, .inr ⟨g, cap, cur', rfl, hbg, h3, by omega, hcm, by rw [h4, hcs], ?_⟩⟩
        rw [h5, htake, List.append_assoc, List.take_append_of_le_length (by omega)]
        exact List.take_of_length_le (by omega)
    · obtain ⟨v', w', hrun, r1, r2⟩ := run_append_arg_grows (P := P) w t ty e i0 z size bytes ht hi hz0 hz1 hz2 hz hs0 ⟨g, 0, none⟩ n cap xs hxl (fun j u hj => by rw [Addr.add_lit]; exact holds j u hj) ad m c news hnl hnews (by omega) h63 hb
      exact ⟨v', w', hrun, grow v' w' r1 r2⟩

section
variable {P : Program} {ops : Array Oper} {o : Oper} {a : Act} {K : Act → World → Prop} {Q : Exit → Act → World → Prop}
/-- append(v, y), y one element that lies in a new block: the law at the operation. -/
theorem wp_append_row {w0 W : World} (base : Nat) (s x : Operand) (t e : TypeId) (z : Value) (size bytes : Nat) (ho : o.op = .call { callee := .builtin .append, args := #[s, x], argTypes := #[t, t] })
    (ht : P.underlying t = some (.slice e)) (hinfo : (P.info? e).map (fun i => (i.zero, i.size, i.bytes)) = some (some z, size, bytes)) (hz : z.cells.size = size) (hs0 : 0 < size) (hb0 : 0 < bytes)
    (v : Value) (n : Nat) (xs ys : List Value) (hs : a.eval s = v) (hx : a.eval x = .slice (some ⟨W.heap.size, 0, none⟩) 1 1) (hys : ys.length = size) (h1 : ∀ u ∈ ys, u.oneCell' = true)
    (HO : W.ownsRow base e size v n xs) (HB : Below base w0 W) (hbase : base ≤ W.heap.size) (hl : (n + 1) * bytes ≤ 140737488355328)
    (h : ∀ v1 w1, w1.ownsRow base e size v1 (n + 1) (xs ++ ys) → Below base w0 w1 → W.grownBy w1 v.ownBlock → w1.ownsRow base e size v n xs →
      ((∃ A c, v = .slice A n c ∧ v1 = .slice A (n + 1) c) ∨ ∃ k, v1.ownBlock = some k ∧ W.heap.size ≤ k) → K (a.put o.dst v1) w1) :
    o.wp P a (W.alloc (.cells ys.toArray e)) K Q := by
  have hnews : ∀ j u, ys[j]? = some u → (W.alloc (.cells ys.toArray e)).cell? ((⟨W.heap.size, 0, none⟩ : Addr).add j) = some u := by
    simpa using World.news_of_block (cs := ys.toArray) (t := e) (fr := (0, 0)) (heap_alloc_new W (.cells ys.toArray e))
  have HO' : (W.alloc (.cells ys.toArray e)).ownsRow base e size v n xs := pw_own_below HO (below_alloc (Below.refl _ _) _)
  obtain ⟨v1, w1, hrun, r1, r2, r3, r4⟩ := run_append_row (P := P) (W.alloc (.cells ys.toArray e)) base t o.type e z size bytes ht hinfo hz hs0 hb0 v n xs HO' ⟨W.heap.size, 0, none⟩ 1 1 ys (by rw [hys]; omega) hnews h1 (by omega) hl (by simp; omega)
  have hg2 : W.grownBy w1 v.ownBlock := World.grownBy.trans (World.grownBy_alloc W _ _) r2
  unfold Oper.wp
  simp only [execOp, ho, resolve, invoke, builtin, Sem.run_bind, Sem.run_pure, Result.andThen_ok, List.map_toArray, List.map_cons, List.map_nil, hs, hx, hrun]
  refine h v1 w1 r1 (HB.grown hg2 hbase (fun k hk => own_base HO k hk)) hg2 r3 ?_
  rcases r4 with r4 | ⟨k, hk, hlk⟩
  · exact .inl r4
  · exact .inr ⟨k, hk, by simp at hlk; omega⟩

theorem wpList_append_row {rest : List Oper} {w0 W : World} (base : Nat) (hgd : o.guard = none) (s x : Operand) (t e : TypeId) (z : Value) (size bytes : Nat) (ho : o.op = .call { callee := .builtin .append, args := #[s, x], argTypes := #[t, t] })
    (ht : P.underlying t = some (.slice e)) (hinfo : (P.info? e).map (fun i => (i.zero, i.size, i.bytes)) = some (some z, size, bytes)) (hz : z.cells.size = size) (hs0 : 0 < size) (hb0 : 0 < bytes)
    (v : Value) (n : Nat) (xs ys : List Value) (hs : a.eval s = v) (hx : a.eval x = .slice (some ⟨W.heap.size, 0, none⟩) 1 1) (hys : ys.length = size) (h1 : ∀ u ∈ ys, u.oneCell' = true)
    (HO : W.ownsRow base e size v n xs) (HB : Below base w0 W) (hbase : base ≤ W.heap.size) (hl : (n + 1) * bytes ≤ 140737488355328)
    (h : ∀ v1 w1, w1.ownsRow base e size v1 (n + 1) (xs ++ ys) → Below base w0 w1 → W.grownBy w1 v.ownBlock → w1.ownsRow base e size v n xs →
      ((∃ A c, v = .slice A n c ∧ v1 = .slice A (n + 1) c) ∨ ∃ k, v1.ownBlock = some k ∧ W.heap.size ≤ k) → wpList P ops Q rest (a.put o.dst v1) w1) :
    wpList P ops Q (o :: rest) a (W.alloc (.cells ys.toArray e)) :=
  wpList_plain hgd fun _ hK => wp_append_row base s x t e z size bytes ho ht hinfo hz hs0 hb0 v n xs ys hs hx hys h1 HO HB hbase hl fun v1 w1 g1 g2 g3 g4 g5 => hK _ _ (h v1 w1 g1 g2 g3 g4 g5)

theorem step_append_row {E : Prop} {w0 W : World} (base : Nat) (hgd : o.guard = none) (s x : Operand) (t e : TypeId) (z : Value) (size bytes : Nat) (ho : o.op = .call { callee := .builtin .append, args := #[s, x], argTypes := #[t, t] })
    (ht : P.underlying t = some (.slice e)) (hinfo : (P.info? e).map (fun i => (i.zero, i.size, i.bytes)) = some (some z, size, bytes)) (hz : z.cells.size = size) (hs0 : 0 < size) (hb0 : 0 < bytes)
    (v : Value) (n : Nat) (xs ys : List Value) (hs : a.eval s = v) (hx : a.eval x = .slice (some ⟨W.heap.size, 0, none⟩) 1 1) (hys : ys.length = size) (h1 : ∀ u ∈ ys, u.oneCell' = true)
    (HO : W.ownsRow base e size v n xs) (HB : Below base w0 W) (hbase : base ≤ W.heap.size) (hl : (n + 1) * bytes ≤ 140737488355328)
    (h : ∀ v1 w1, w1.ownsRow base e size v1 (n + 1) (xs ++ ys) → Below base w0 w1 → W.grownBy w1 v.ownBlock → w1.ownsRow base e size v n xs →
      ((∃ A c, v = .slice A n c ∧ v1 = .slice A (n + 1) c) ∨ ∃ k, v1.ownBlock = some k ∧ W.heap.size ≤ k) → K (a.put o.dst v1) w1) :
    if Region.wanted o (yielded ops a.tmps) = true then Oper.wp P o a (W.alloc (.cells ys.toArray e)) K Q else E := by
  have hw : Region.wanted o (yielded ops a.tmps) = true := by simp [Region.wanted, hgd]
  rw [if_pos hw]
  exact wp_append_row base s x t e z size bytes ho ht hinfo hz hs0 hb0 v n xs ys hs hx hys h1 HO HB hbase hl h
end
end Go.Proofs.YtdekmeanlcpenaaGreatDoor.Sep

namespace Go.Proofs.YtdekmeanlcpenaaGreatDoor.Sep
open Go.RowKit Go.Proofs.YtdekmeanlcpenaaGreatDoorW.PrintWords Go.Proofs.YtdekmeanlcpenaaGreatDoorW.PrintLast Go.Proofs.YtdekmeanlcpenaaGreatDoorW.PrintMore

/-- A slice's header. -/
structure SlV where
  A : Option Addr
  n : Nat
  c : Nat
def SlV.v (s : SlV) : Value := .slice s.A s.n s.c
/-- Slices' headers as a kind of scalars. -/
def skd : Kd SlV := Kd.scalar SlV.v (fun _ => rfl)

/-- What is told of some blocks alone. -/
structure Pr where
  p : (Nat → Prop) → World → Prop
  loc : ∀ {F F' : Nat → Prop} {W W' : World}, p F W → (∀ g, F g → g < W.heap.size → F' g ∧ W'.heap[g]? = W.heap[g]?) → p F' W'

theorem own_loc {W W' : World} {b e sz n : Nat} {v : Value} {xs : List Value} (h : W.ownsRow b e sz v n xs) (hm : ∀ g, v.ownBlock = some g → g < W.heap.size → W'.heap[g]? = W.heap[g]?) : W'.ownsRow b e sz v n xs :=
  own_move h (fun k hk => hm k hk (own_lt h k hk))

def empP : Pr := ⟨fun _ _ => True, fun _ _ => trivial⟩
/-- A row of one's own. -/
def rowP (b e sz : Nat) (u : SlV) (xs : List Value) : Pr where
  p F W := W.ownsRow b e sz u.v u.n xs ∧ ∀ g, u.v.ownBlock = some g → F g
  loc h hm := ⟨own_loc h.1 (fun g hg hl => (hm g (h.2 g hg) hl).2), fun g hg => (hm g (h.2 g hg) (own_lt h.1 g hg)).1⟩
/-- A block that is known whole. -/
def blkP (b kb t : Nat) (cs : Array Value) : Pr where
  p F W := W.heap[kb]? = some (.cells cs t (0, 0)) ∧ b ≤ kb ∧ F kb
  loc h hm := by
    have := hm kb h.2.2 (blk_lt h.1)
    exact ⟨this.2.trans h.1, h.2.1, this.1⟩
/-- n times these cells. -/
def reps (n : Nat) (p : List Value) : List Value := (List.replicate n p).flatten
theorem reps_length (n : Nat) (p : List Value) : (reps n p).length = n * p.length := by
  simp [reps]
theorem reps_succ (n : Nat) (p : List Value) : reps (n + 1) p = reps n p ++ p := by
  simp [reps, List.replicate_succ']
/-- A row that was written over (l, n times p), and what has grown from it (g, r times q more). -/
structure Ent (b e sz : Nat) (l g : SlV) (p q : List Value) (n r : Nat) (F : Nat → Prop) (W : World) : Prop where
  ln : l.n = n
  gn : g.n = n + r
  lo : W.ownsRow b e sz l.v n (reps n p)
  go : W.ownsRow b e sz g.v (n + r) (reps n p ++ reps r q)
  lF : ∀ k, l.v.ownBlock = some k → F k
  gF : ∀ k, g.v.ownBlock = some k → F k
  rel : (∀ k, g.v.ownBlock = some k → l.v.ownBlock ≠ some k) ∨ (l.A = g.A ∧ l.c = g.c)
def entP (b e sz : Nat) (l g : SlV) (p q : List Value) (R : Nat) : Pr where
  p F W := ∃ n r, r ≤ R ∧ n ≤ 1000000 ∧ Ent b e sz l g p q n r F W
  loc := fun ⟨n, r, hr, hn, h⟩ hm => ⟨n, r, hr, hn, h.ln, h.gn, own_loc h.lo (fun k hk hl => (hm k (h.lF k hk) hl).2), own_loc h.go (fun k hk hl => (hm k (h.gF k hk) hl).2),
    fun k hk => (hm k (h.lF k hk) (own_lt h.lo k hk)).1, fun k hk => (hm k (h.gF k hk) (own_lt h.go k hk)).1, h.rel⟩

theorem Ent.take {W : World} {b e sz n r : Nat} {A : Option Addr} {c : Nat} {p q : List Value} (hp : p.length = sz) (h : W.ownsRow b e sz (.slice A (n + r) c) (n + r) (reps n p ++ reps r q)) : W.ownsRow b e sz (.slice A n c) n (reps n p) := by
  have h1 := own_take (m := n) h (by omega)
  rw [List.take_append_of_le_length (by rw [reps_length, hp]; exact Nat.le_refl _), List.take_of_length_le (by rw [reps_length, hp]; exact Nat.le_refl _)] at h1
  exact h1

/-- It grows by one. -/
theorem Ent.grow {W W1 : World} {b e sz n r : Nat} {l g : SlV} {p q : List Value} {F F' : Nat → Prop} {v1 : Value} (hp : p.length = sz) (h : Ent b e sz l g p q n r F W) (hF : ∀ k, k < W.heap.size → F k → F' k) (hF2 : ∀ k, W.heap.size ≤ k → F' k)
    (h1 : W1.ownsRow b e sz v1 (n + r + 1) ((reps n p ++ reps r q) ++ q)) (hg : W.grownBy W1 g.v.ownBlock) (ho : W1.ownsRow b e sz g.v (n + r) (reps n p ++ reps r q))
    (hat : (∃ A c, g.v = .slice A (n + r) c ∧ v1 = .slice A (n + r + 1) c) ∨ ∃ k, v1.ownBlock = some k ∧ W.heap.size ≤ k) : ∃ g1 : SlV, v1 = g1.v ∧ Ent b e sz l g1 p q n (r + 1) F' W1 := by
  obtain ⟨A1, c1, rfl⟩ := own_slice h1
  refine ⟨⟨A1, n + r + 1, c1⟩, rfl, ?_⟩
  have hgo : W1.ownsRow b e sz (SlV.v ⟨A1, n + r + 1, c1⟩) (n + (r + 1)) (reps n p ++ reps (r + 1) q) := by
    rw [reps_succ, ← List.append_assoc]
    exact h1
  have hlF : ∀ k, l.v.ownBlock = some k → F' k := fun k hk => hF k (own_lt h.lo k hk) (h.lF k hk)
  have hlo : W1.ownsRow b e sz l.v n (reps n p) := by
    rcases h.rel with hr | ⟨e1, e2⟩
    · exact own_move h.lo (fun k hk => hg.block k (own_lt h.lo k hk) (fun e => hr k e.symm hk))
    · obtain ⟨gA, gn, gc⟩ := g
      obtain ⟨lA, ln, lc⟩ := l
      have e3 : ln = n := h.ln
      have e4 : gn = n + r := h.gn
      simp only at e1 e2
      subst e1 e2 e3 e4
      exact Ent.take hp ho
  refine ⟨h.ln, rfl, hlo, hgo, hlF, ?_, ?_⟩
  · intro k hk
    rcases hat with ⟨A, c, e1, e2⟩ | ⟨k', hk', hl⟩
    · injection e2 with e3 e4 e5
      subst e3 e5
      have hk2 : g.v.ownBlock = some k := by
        rw [e1]
        cases A1 with
        | none => simp [SlV.v, Value.ownBlock] at hk
        | some a => simpa [SlV.v, Value.ownBlock] using hk
      exact hF k (own_lt h.go k hk2) (h.gF k hk2)
    · have hk3 : (Value.slice A1 (n + r + 1) c1).ownBlock = some k := hk
      rw [hk'] at hk3
      cases hk3
      exact hF2 k hl
  · rcases hat with ⟨A, c, e1, e2⟩ | ⟨k', hk', hl⟩
    · injection e2 with e3 e4 e5
      subst e3 e5
      obtain ⟨gA, gn, gc⟩ := g
      injection e1 with e6 e7 e8
      subst e6 e8
      rcases h.rel with hr | hr
      · refine .inl (fun k hk => hr k ?_)
        cases gA with
        | none => simp [SlV.v, Value.ownBlock] at hk
        | some a => simpa [SlV.v, Value.ownBlock] using hk
      · exact .inr hr
    · left
      intro k hk e
      have hk3 : (Value.slice A1 (n + r + 1) c1).ownBlock = some k := hk
      rw [hk'] at hk3
      injection hk3 with e5
      have := own_lt h.lo k e
      omega

/-- A store of blocks by colours: to each colour what is told of its blocks. -/
structure Store {C : Type} (b : Nat) (w0 W : World) (c : Nat → C) (S : C → Pr) : Prop where
  bel : Below b w0 W
  all : ∀ K, (S K).p (fun g => c g = K) W

section
variable {C : Type} {b : Nat} {w0 W W1 : World} {c c' : Nat → C} {S : C → Pr}
/-- One colour's part changes. -/
theorem Store.mod [DecidableEq C] (h : Store b w0 W c S) (K0 : C) (T : Pr) (hB : Below b w0 W1) (hc : ∀ g, g < W.heap.size → c g ≠ K0 → c' g = c g) (hm : ∀ g, g < W.heap.size → c g ≠ K0 → W1.heap[g]? = W.heap[g]?) (hT : T.p (fun g => c' g = K0) W1) :
    Store b w0 W1 c' (fun K => if K = K0 then T else S K) := by
  refine ⟨hB, fun K => ?_⟩
  by_cases hK : K = K0
  · subst hK
    simp only [if_true]
    exact hT
  · simp only [if_neg hK]
    refine (S K).loc (h.all K) (fun g hg hl => ?_)
    replace hg : c g = K := hg
    have h1 : c g ≠ K0 := by rw [hg]; exact hK
    exact ⟨by rw [hc g hl h1]; exact hg, hm g hl h1⟩
theorem Store.below (h : Store b w0 W c S) (hb0 : b ≤ w0.heap.size) (hb : Below W.heap.size W W1) : Store b w0 W1 c S :=
  ⟨h.bel.trans (hb.mono (Nat.le_trans hb0 h.bel.size)), fun K => (S K).loc (h.all K) (fun g hg hl => ⟨hg, hb.block g hl⟩)⟩
/-- Blocks go over from one colour to another that had none. -/
theorem Store.move [DecidableEq C] (h : Store b w0 W c S) (K1 K2 : C) (hne : K1 ≠ K2) (T : Pr) (hT : T.p (fun g => c g = K1) W) : Store b w0 W (fun g => if c g = K1 then K2 else c g) (fun K => if K = K1 then empP else if K = K2 then T else S K) := by
  refine ⟨h.bel, fun K => ?_⟩
  by_cases hK1 : K = K1
  · subst hK1
    simp only [if_true]
    exact trivial
  · simp only [if_neg hK1]
    by_cases hK2 : K = K2
    · subst hK2
      simp only [if_true]
      exact T.loc hT (fun g hg hl => ⟨by replace hg : c g = K1 := hg; simp [hg], rfl⟩)
    · simp only [if_neg hK2]
      refine (S K).loc (h.all K) (fun g hg hl => ⟨?_, rfl⟩)
      replace hg : c g = K := hg
      rw [if_neg (by rw [hg]; exact hK1)]
      exact hg
/-- Something is made: new blocks have what colour one will. -/
theorem Store.fresh (h : Store b w0 W c S) (hb0 : b ≤ w0.heap.size) (hb : Below W.heap.size W W1) (d : Nat → C) : Store b w0 W1 (fun g => if g < W.heap.size then c g else d g) S :=
  ⟨h.bel.trans (hb.mono (Nat.le_trans hb0 h.bel.size)), fun K => (S K).loc (h.all K) (fun g hg hl => ⟨by rw [if_pos hl]; exact hg, hb.block g hl⟩)⟩
/-- And is told. -/
theorem Store.set [DecidableEq C] (h : Store b w0 W c S) (K0 : C) (T : Pr) (hT : T.p (fun g => c g = K0) W) : Store b w0 W c (fun K => if K = K0 then T else S K) :=
  h.mod K0 T h.bel (fun _ _ _ => rfl) (fun _ _ _ => rfl) hT
end
end Go.Proofs.YtdekmeanlcpenaaGreatDoor.Sep

namespace Go.Proofs.YtdekmeanlcpenaaGreatDoor.Mid
open Go.RowKit Go.Proofs.YtdekmeanlcpenaaGreatDoorW.PrintWords Go.Proofs.YtdekmeanlcpenaaGreatDoorW.PrintLast Go.Proofs.YtdekmeanlcpenaaGreatDoorW.PrintMore Go.Proofs.YtdekmeanlcpenaaGreatDoor.Sep

theorem setCells_mid {t : TypeId} {g : Nat} : ∀ (cs : List Value) (off : Nat) (w : World) (cur : Array Value), w.heap[g]? = some (.cells cur t (0, 0)) → off + cs.length ≤ cur.size →
    (w.setCells g off cs).heap[g]? = some (.cells (cur.toList.take off ++ cs ++ cur.toList.drop (off + cs.length)).toArray t (0, 0))
  | [], off, w, cur, h, hl => by
    show w.heap[g]? = _
    rw [h]
    simp
  | c :: cs, off, w, cur, h, hl => by
    rw [List.length_cons] at hl
    have h1 : (w.setCell ⟨g, off, none⟩ c).heap[g]? = some (.cells (cur.setIfInBounds off c) t (0, 0)) := by
      show (w.heap.modify g _)[g]? = _
      rw [Array.getElem?_modify, if_pos rfl, h]
      rfl
    rw [World.setCells, setCells_mid cs (off + 1) _ _ h1 (by simp; omega)]
    congr 3
    have hlt : off < cur.toList.length := by simp; omega
    rw [Array.toList_setIfInBounds]
    have e1 : (cur.toList.set off c).take (off + 1) = cur.toList.take off ++ [c] := by
      have hm : (cur.toList.take off).length = off := by rw [List.length_take]; omega
      rw [List.take_set, List.take_add_one, List.getElem?_eq_getElem hlt, List.set_append_right _ _ (by omega), hm, Nat.sub_self]
      rfl
    have e2 : (cur.toList.set off c).drop (off + 1 + cs.length) = cur.toList.drop (off + (c :: cs).length) := by
      rw [List.drop_set_of_lt (by omega), List.length_cons]
      congr 1
      omega
    rw [e1, e2]
    simp
section
variable {W : World} {b e sz n : Nat} {v : Value} {xs : List Value}
/-- One element of a row of one's own is written. -/
theorem own_set (h : W.ownsRow b e sz v n xs) {i : Nat} (hi : i < n) {cs : List Value} (hc : cs.length = sz) : ∃ g cap, v = .slice (some ⟨g, 0, none⟩) n cap ∧ b ≤ g ∧ W.there g (i * sz) sz ∧
    (W.setCells g (i * sz) cs).ownsRow b e sz v n (xs.take (i * sz) ++ cs ++ xs.drop (i * sz + sz)) ∧ W.grownBy (W.setCells g (i * sz) cs) (some g) := by
  have hxl : xs.length = n * sz := h.1
  have hle : i * sz + sz ≤ n * sz := by rw [← Nat.succ_mul]; exact Nat.mul_le_mul_right _ hi
  rcases h.2 with ⟨_, h0⟩ | ⟨g, cap, cur, hv, hb, hh, hnc, hcm, hcs, htake⟩
  · omega
  · have hcap : n * sz ≤ cap * sz := Nat.mul_le_mul_right _ hnc
    have hm := setCells_mid cs (i * sz) W cur hh (by omega)
    obtain ⟨s1, s2, s3, s4⟩ := setCells_same g cs (i * sz) W
    refine ⟨g, cap, hv, hb, fun j hj => ⟨?_, blk_frozen hh _⟩, ⟨?_, .inr ⟨g, cap, _, hv, hb, hm, hnc, hcm, ?_, ?_⟩⟩, ⟨s1, s2, s3, by rw [s4]; exact Nat.le_refl _, fun k _ hk => setCells_far _ _ k (fun he => hk (by rw [he]))⟩⟩
    · rw [blk_cell hh]
      simp; omega
    · simp [hc]; omega
    · simp [hc]; omega
    · rw [← htake]
      have hl1 : (cur.toList.take (i * sz)).length = i * sz := by simp; omega
      rw [List.append_assoc, List.append_assoc, List.take_append, List.take_append, List.take_of_length_le (by omega), hl1, List.take_of_length_le (by omega : cs.length ≤ _), List.take_take, List.drop_take, Nat.min_eq_left (by omega)]
      congr 2
      rw [hc]
      congr 1
      omega
/-- One element of such a row is read. -/
theorem own_at (h : W.ownsRow b e sz v n xs) {i : Nat} (hi : i < n) : ∃ g cap, v = .slice (some ⟨g, 0, none⟩) n cap ∧ At W ⟨g, i * sz, none⟩ ((xs.drop (i * sz)).take sz) := by
  have hle : i * sz + sz ≤ n * sz := by rw [← Nat.succ_mul]; exact Nat.mul_le_mul_right _ hi
  rcases h.2 with ⟨_, h0⟩ | ⟨g, cap, cur, hv, hb, hh, hnc, hcm, hcs, htake⟩
  · omega
  · refine ⟨g, cap, hv, fun j u hu => ?_⟩
    rw [Addr.add_mid, blk_cell hh]
    rw [List.getElem?_take] at hu
    split at hu
    · rw [List.getElem?_drop, ← htake, List.getElem?_take] at hu
      split at hu
      · simpa using hu
      · cases hu
    · cases hu
end
/-! ### Rows of ids and of results, as cells -/
def rowI (xs : List (List Int)) : List Value := (xs.map u8s).flatten
def rowR (rs : List Res) : List Value := (rs.map resC).flatten
theorem flat_take {α : Type} {f : α → List Value} {sz : Nat} : ∀ {l : List α} (_ : ∀ x ∈ l, (f x).length = sz) (i : Nat), (l.map f).flatten.take (i * sz) = ((l.take i).map f).flatten
  | [], _, i => by simp
  | x :: l, h, 0 => by simp
  | x :: l, h, i + 1 => by
    have hx := h x (by simp)
    rw [List.map_cons, List.flatten_cons, List.take_append, List.take_of_length_le (by rw [hx, Nat.succ_mul]; omega), hx, Nat.succ_mul, Nat.add_sub_cancel, flat_take (fun y hy => h y (by simp [hy])) i]
    simp
theorem flat_drop {α : Type} {f : α → List Value} {sz : Nat} : ∀ {l : List α} (_ : ∀ x ∈ l, (f x).length = sz) (i : Nat), (l.map f).flatten.drop (i * sz) = ((l.drop i).map f).flatten
  | [], _, i => by simp
  | x :: l, h, 0 => by simp
  | x :: l, h, i + 1 => by
    have hx := h x (by simp)
    rw [List.map_cons, List.flatten_cons, List.drop_append, List.drop_of_length_le (by rw [hx, Nat.succ_mul]; omega), hx, Nat.succ_mul, Nat.add_sub_cancel, flat_drop (fun y hy => h y (by simp [hy])) i]
    simp
theorem flat_set {α : Type} {f : α → List Value} {sz : Nat} {l : List α} (h : ∀ x ∈ l, (f x).length = sz) {i : Nat} (hi : i < l.length) (y : α) : (l.map f).flatten.take (i * sz) ++ f y ++ (l.map f).flatten.drop (i * sz + sz) = ((l.set i y).map f).flatten := by
  rw [flat_take h, show i * sz + sz = (i + 1) * sz by rw [Nat.succ_mul], flat_drop h, List.set_eq_take_append_cons_drop, if_pos hi]
  simp
theorem flat_get {α : Type} {f : α → List Value} {sz : Nat} {l : List α} (h : ∀ x ∈ l, (f x).length = sz) {i : Nat} {x : α} (hi : l[i]? = some x) : ((l.map f).flatten.drop (i * sz)).take sz = f x := by
  have hl := (List.getElem?_eq_some_iff.1 hi)
  rw [flat_drop h, List.drop_eq_getElem_cons hl.1, hl.2, List.map_cons, List.flatten_cons, List.take_append, List.take_of_length_le (by rw [h x (List.mem_of_getElem? hi)]; exact Nat.le_refl _), h x (List.mem_of_getElem? hi)]
  simp
theorem rowI_len {xs : List (List Int)} (h : ∀ x ∈ xs, IdOk x) : ∀ x ∈ xs, (u8s x).length = 32 := fun x hx => by rw [u8s_length, (h x hx).len]
theorem rowR_len {rs : List Res} (h : ∀ r ∈ rs, ResOk r) : ∀ r ∈ rs, (resC r).length = 65 := fun r hr => resC_length (h r hr)
end Go.Proofs.YtdekmeanlcpenaaGreatDoor.Mid

namespace Go.Proofs.YtdekmeanlcpenaaGreatDoor.OpenK
open Go.RowKit Go.Proofs.YtdekmeanlcpenaaGreatDoorW.PrintWords

/-- copy of rows whose elements have more than one cell. -/
theorem run_copy_many {P : Program} (w : World) (dT sT ty elem : TypeId) (size b dLen dCap : Nat) (a : Addr) (sLen sCap : Nat) (cs : List Value)
    (hu : P.underlying dT = some (.slice elem)) (hs : (P.info? elem).map (·.size) = some size) (hn : cs.length = Nat.min sLen dLen * size)
    (hsrc : ∀ j v, cs[j]? = some v → w.cell? (a.add j) = some v) (hc : ∀ j, j < cs.length → (w.cell? ⟨b, 0 + j, none⟩).isSome = true) (hf : ∀ j, j < cs.length → w.frozen? ⟨b, 0 + j, none⟩ = false) (h1 : ∀ v ∈ cs, v.oneCell' = true) :
    (Builtin.copy_ #[dT, sT] ty #[.slice (some ⟨b, 0, none⟩) dLen dCap, .slice (some a) sLen sCap]).run P w = .ok (goInt (Nat.min sLen dLen)) (w.setCells b 0 cs) := by
  have hl := run_loadCells_list (P := P) w a cs hsrc
  have hst := run_storeCells_cells (P := P) b 0 cs 0 w (by simpa using hc) (by simpa using hf) h1
  cases hq : P.info? elem with
  | none => simp [hq] at hs
  | some i =>
    have hi : i.size = size := by simpa [hq] using hs
    simp [Builtin.copy_, run_underlying hu, Builtin.lenOf, Builtin.firstCells, sizeOf, typeInfo, hq, hi, ← hn, hl, hst]
theorem run_copy_zero {P : Program} (w : World) (dT sT ty elem : TypeId) (size : Nat) (d a : Option Addr) (dLen dCap sLen sCap : Nat) (hu : P.underlying dT = some (.slice elem)) (hs : (P.info? elem).map (·.size) = some size) (hn : Nat.min sLen dLen = 0) :
    (Builtin.copy_ #[dT, sT] ty #[.slice d dLen dCap, .slice a sLen sCap]).run P w = .ok (goInt 0) w := by
  cases hq : P.info? elem with
  | none => simp [hq] at hs
  | some i =>
    have hl : ∀ (x : Addr), (loadCells x 0).run P w = .ok #[] w := fun x => by simpa using run_loadCells_list (P := P) w x [] (by simp)
    cases d <;> cases a <;> simp [Builtin.copy_, run_underlying hu, Builtin.lenOf, Builtin.firstCells, sizeOf, typeInfo, hq, hn, storeCells, hl]

section
variable {P : Program} {ops : Array Oper} {rest : List Oper} {o : Oper} {a : Act} {Q : Exit → Act → World → Prop} {α : Type}
/-- copy(v, ys), v a row of one's own, of values without memory of their own. -/
theorem R_copy_many (d : Kd α) {w0 W : World} (base : Nat) (hgd : o.guard = none) (s x : Operand) (t t' e : TypeId)
    (ho : o.op = .call { callee := .builtin .copy, args := #[s, x], argTypes := #[t, t'] }) (ht : P.underlying t = some (.slice e)) (hinfo : (P.info? e).map (·.size) = some d.sz) (hs0 : 0 < d.sz)
    (hfree : ∀ w base ok x cs, d.M w base ok x cs → ∀ w' base' ok', d.M w' base' ok' x cs) (hK : ∀ w w' base ok x cs, d.K w x cs → d.M w' base ok x cs)
    (v : Value) (xs ys : List α) (A : Option Addr) (m c : Nat) (ok : Nat → Prop) (hs : a.eval s = v) (hx : a.eval x = .slice A m c)
    (HO : d.R e W base ok v xs) (HR : d.C W A m ys) (HB : Below base w0 W) (hbase : base ≤ W.heap.size)
    (h : ∀ w1, d.R e w1 base ok v (ys.take (min m xs.length) ++ xs.drop (min m xs.length)) → Below base w0 w1 → W.grownBy w1 v.ownBlock → wpList P ops Q rest (a.put o.dst (.int .i64 ((min m xs.length : Nat) : Int))) w1) :
    wpList P ops Q (o :: rest) a W := by
  have hm : ys.length = m := HR.1
  have hbaseR := Kd.R_base HO
  have fin : ∀ w1, (Builtin.copy_ #[t, t'] o.type #[v, .slice A m c]).run P W = .ok (goInt ((min m xs.length : Nat) : Int)) w1 → d.R e w1 base ok v (ys.take (min m xs.length) ++ xs.drop (min m xs.length)) → W.grownBy w1 v.ownBlock → wpList P ops Q (o :: rest) a W := by
    intro w1 hr hrow hg
    refine wpList_plain hgd fun K hK => ?_
    unfold Oper.wp execOp
    simp only [ho, resolve, invoke, builtin, Sem.run_bind, Sem.run_pure, Result.andThen_ok, List.map_toArray, List.map_cons, List.map_nil, hs, hx, hr]
    exact hK _ _ (h w1 hrow (HB.grown hg hbase hbaseR) hg)
  rcases Nat.eq_zero_or_pos (min m xs.length) with h0 | hp
  · obtain ⟨A', c', hv⟩ := Kd.R_slice HO
    refine fin W ?_ (by rw [h0, List.take_zero, List.drop_zero, List.nil_append]; exact HO) (World.grownBy.refl W _)
    rw [h0, hv]
    exact run_copy_zero W t t' o.type e d.sz A' A xs.length c' m c ht hinfo h0
  · obtain ⟨hok, inner, hown, hrep⟩ := HO
    obtain ⟨ad, hA, _⟩ := HR.2.2 (by omega)
    subst hA
    have hlen : xs.length * d.sz = inner.length := hown.1.symm
    rcases hown.2 with ⟨_, hx0⟩ | ⟨g, cap, cur, hv, hb, hh, hnc, hcm, hcs, htake⟩
    · omega
    -- the cells that go over
    obtain ⟨src, hsrep, hsc⟩ := ReadsRow.inner_ HR
    have hk1 : min m xs.length ≤ ys.length := by omega
    have hsl : src.length = ys.length * d.sz := hsrep.1
    have htk := Kd.reps_take hsrep hk1
    obtain ⟨cs, hcse⟩ : ∃ cs, src.take (min m xs.length * d.sz) = cs := ⟨_, rfl⟩
    rw [hcse] at htk
    have hmul : min m xs.length * d.sz ≤ src.length := by rw [hsl]; exact Nat.mul_le_mul_right _ hk1
    have hcl : cs.length = min m xs.length * d.sz := by rw [← hcse, List.length_take]; omega
    have hone : ∀ u ∈ cs, u.oneCell' = true := by
      intro u hu
      obtain ⟨j, hj, rfl⟩ := List.mem_iff_getElem.1 hu
      have hjs : j / d.sz < ys.length := by
        rw [Nat.div_lt_iff_lt_mul hs0, ← hsl]; omega
      have hy : ys[j / d.sz]? = some ys[j / d.sz] := List.getElem?_eq_getElem hjs
      have hKj := hsrep.2 (j / d.sz) _ hy
      have hmem : cs[j] ∈ (src.drop (j / d.sz * d.sz)).take d.sz := by
        have hjl : j < src.length := by omega
        have e1 : cs[j] = src[j] := by simp [← hcse]
        rw [e1]
        have hd := Nat.div_add_mod j d.sz
        rw [Nat.mul_comm] at hd
        have hml := Nat.mod_lt j hs0
        refine List.mem_iff_getElem.2 ⟨j % d.sz, ?_, ?_⟩
        · rw [List.length_take, List.length_drop]; omega
        · rw [List.getElem_take, List.getElem_drop]
          congr 1
      exact d.K_one hKj _ hmem
    have hsrc : ∀ j u, cs[j]? = some u → W.cell? (ad.add j) = some u := by
      intro j u hu
      refine hsc j u ?_
      rw [← hcse, List.getElem?_take] at hu
      split at hu
      · exact hu
      · cases hu
    have hxl : min m xs.length * d.sz ≤ xs.length * d.sz := Nat.mul_le_mul_right _ (Nat.min_le_right _ _)
    have hcap : xs.length * d.sz ≤ cur.size := by rw [hcs]; exact Nat.mul_le_mul_right _ hnc
    have hr := run_copy_many (P := P) W t t' o.type e d.sz g xs.length cap ad m c cs ht hinfo hcl hsrc
      (fun j hj => by rw [cell_of_row W g _ cur e (0, 0) hh]; simp; omega) (fun j _ => blk_frozen hh _) hone
    obtain ⟨cur', h3, h4, h5⟩ := setCells_row cs 0 W cur hh (by omega)
    obtain ⟨s1, s2, s3, s4⟩ := setCells_same g cs 0 W
    refine fin _ (by rw [hv, hr]) ⟨hok, cs ++ inner.drop (min m xs.length * d.sz), ?_, ?_⟩ ⟨s1, s2, s3, by rw [s4]; exact Nat.le_refl _, fun k _ hk => setCells_far _ _ k (fun he => hk (by rw [hv, he]; simp [Value.ownBlock]))⟩
    · have hln : (ys.take (min m xs.length) ++ xs.drop (min m xs.length)).length = xs.length := by
        rw [List.length_append, List.length_take, List.length_drop]
        omega
      rw [hln]
      refine ⟨by rw [List.length_append, List.length_drop, hcl]; omega, .inr ⟨g, cap, cur', hv, hb, h3, hnc, hcm, by rw [h4, hcs], ?_⟩⟩
      rw [h5, List.take_zero, List.nil_append, Nat.zero_add, hcl]
      rw [List.take_append, hcl, List.take_of_length_le (by omega)]
      congr 1
      rw [← htake, List.drop_take]
    · refine Kd.reps_append ?_ ?_
      · exact htk.imp_ (fun p c hp => hK _ _ _ _ _ _ hp)
      · exact (Kd.reps_drop hrep).imp_ (fun p c hp => hfree _ _ _ _ _ hp _ _ _)
end
end Go.Proofs.YtdekmeanlcpenaaGreatDoor.OpenK

namespace Go.Proofs.YtdekmeanlcpenaaGreatDoor.Law
open Go.RowKit Go.Proofs.YtdekmeanlcpenaaGreatDoorW.PrintWords Go.Proofs.YtdekmeanlcpenaaGreatDoor.Mid Go.Proofs.YtdekmeanlcpenaaGreatDoor.Pick Go.Proofs.YtdekmeanlcpenaaGreatDoor.Sep

/-- What rows of cells say, said of the values. -/
theorem reps_flat {α : Type} {f : α → List Value} {sz : Nat} {R : α → List Value → Prop} (hR : ∀ x cs, R x cs → cs = f x) (hsz : ∀ x cs, R x cs → cs.length = sz) : ∀ {xs : List α} {cs : List Value}, Reps R sz xs cs → cs = (xs.map f).flatten ∧ ∀ x ∈ xs, R x (f x)
  | [], cs, h => by
    have h0 := h.1
    simp at h0
    subst h0
    exact ⟨rfl, fun x hx => by simp at hx⟩
  | x :: xs, cs, h => by
    have h0 := h.2 0 x rfl
    rw [Nat.zero_mul, List.drop_zero] at h0
    have hr : Reps R sz xs (cs.drop sz) := by
      refine ⟨by rw [List.length_drop, h.1, List.length_cons, Nat.succ_mul]; omega, fun j p hp => ?_⟩
      have h1 := h.2 (j + 1) p (by simpa using hp)
      rw [List.drop_drop]
      rw [Nat.succ_mul, Nat.add_comm] at h1
      exact h1
    obtain ⟨e, ha⟩ := reps_flat hR hsz hr
    have e0 := hR _ _ h0
    refine ⟨?_, fun y hy => ?_⟩
    · rw [List.map_cons, List.flatten_cons, ← e, ← e0, List.take_append_drop]
    · rcases List.mem_cons.1 hy with rfl | hy
      · rw [← e0]; exact h0
      · exact ha y hy
theorem flat_reps {α : Type} {f : α → List Value} {sz : Nat} {R : α → List Value → Prop} (hsz : ∀ x cs, R x cs → cs.length = sz) {xs : List α} (h : ∀ x ∈ xs, R x (f x)) : Reps R sz xs (xs.map f).flatten := by
  have hl : ∀ x ∈ xs, (f x).length = sz := fun x hx => hsz _ _ (h x hx)
  refine ⟨?_, fun j p hp => ?_⟩
  · clear h
    induction xs with
    | nil => simp
    | cons x xs ih =>
      rw [List.map_cons, List.flatten_cons, List.length_append, ih (fun y hy => hl y (by simp [hy])), hl x (by simp), List.length_cons, Nat.succ_mul]
      omega
  · rw [flat_get hl hp]
    exact h p (List.mem_of_getElem? hp)
section
variable {W : World} {b : Nat} {v : Value} {ok : Nat → Prop}
theorem idR_own {xs : List (List Int)} (h : idK.R 29 W b ok v xs) : W.ownsRow b 29 32 v xs.length (rowI xs) ∧ ∀ x ∈ xs, IdOk x := by
  obtain ⟨_, inner, ho, hr⟩ := h
  obtain ⟨e, ha⟩ := reps_flat (f := u8s) (fun x cs h => h.2) (fun x cs h => by rw [h.2, u8s_length, h.1.len]; rfl) hr
  subst e
  exact ⟨ho, fun x hx => (ha x hx).1⟩
theorem idR_of {xs : List (List Int)} (h : W.ownsRow b 29 32 v xs.length (rowI xs)) (ha : ∀ x ∈ xs, IdOk x) : idK.R 29 W b (fun _ => True) v xs :=
  ⟨fun _ _ => trivial, rowI xs, h, flat_reps (fun x cs h => by rw [h.2, u8s_length, h.1.len]; rfl) (fun x hx => ⟨ha x hx, rfl⟩)⟩
theorem resR_own {xs : List Res} (h : resK.R 33 W b ok v xs) : W.ownsRow b 33 65 v xs.length (rowR xs) ∧ ∀ x ∈ xs, ResOk x := by
  obtain ⟨_, inner, ho, hr⟩ := h
  obtain ⟨e, ha⟩ := reps_flat (f := resC) (fun x cs h => h.2) (fun x cs h => by rw [h.2, resC_length h.1]; rfl) hr
  subst e
  exact ⟨ho, fun x hx => (ha x hx).1⟩
theorem resR_of {xs : List Res} (h : W.ownsRow b 33 65 v xs.length (rowR xs)) (ha : ∀ x ∈ xs, ResOk x) : resK.R 33 W b (fun _ => True) v xs :=
  ⟨fun _ _ => trivial, rowR xs, h, flat_reps (fun x cs h => by rw [h.2, resC_length h.1]; rfl) (fun x hx => ⟨ha x hx, rfl⟩)⟩
end

/-- The desk: its block holds a slice of ids of the law's own. -/
structure DInv (w0 : World) (gd : Nat) (W : World) (vb : Value) (B : List (List Int)) : Prop where
  blk : W.heap[gd]? = some (.cells #[vb] 26 (0, 0))
  row : W.ownsRow w0.heap.size 29 32 vb B.length (rowI B)
  ok : ∀ x ∈ B, IdOk x
  bel : Below w0.heap.size w0 W
  old : w0.heap.size ≤ gd
theorem DInv.step {w0 : World} {gd : Nat} {W W1 : World} {vb : Value} {B : List (List Int)} (h : DInv w0 gd W vb B) (hb : Below W.heap.size W W1) : DInv w0 gd W1 vb B :=
  ⟨blk_below h.blk hb, own_loc h.row (fun g _ hl => hb.block g hl), h.ok, below_step h.bel hb, h.old⟩
theorem DInv.ne {w0 : World} {gd g n k : Nat} {W : World} {B : List (List Int)} (h : DInv w0 gd W (.slice (some ⟨g, 0, none⟩) n k) B) : gd ≠ g := by
  intro e
  subst e
  obtain ⟨cells, hc⟩ := own_typed h.row gd rfl
  rw [h.blk] at hc
  injection hc with hc
  injection hc with _ hc
  exact absurd hc (by decide)
theorem DInv.put {w0 : World} {gd g n k : Nat} {W : World} {B : List (List Int)} (h : DInv w0 gd W (.slice (some ⟨g, 0, none⟩) n k) B) {i : Nat} (hi : i < B.length) {x : List Int} (hx : IdOk x) :
    W.there g (i * 32) 32 ∧ W.grownBy (W.setCells g (i * 32) (u8s x)) (some g) ∧ DInv w0 gd (W.setCells g (i * 32) (u8s x)) (.slice (some ⟨g, 0, none⟩) n k) (B.set i x) := by
  obtain ⟨g', c', e, hb, hth, hown, hg⟩ := own_set h.row hi (cs := u8s x) (by rw [u8s_length, hx.len])
  injection e with e1 e2 e3
  injection e1 with e1
  injection e1 with e1
  subst e1
  rw [rowI, flat_set (rowI_len h.ok) hi] at hown
  refine ⟨hth, hg, blk_grown h.blk hg (fun e => h.ne (by injection e)), ?_, ?_, h.bel.grown hg h.bel.size (fun k hk => by injection hk with hk; omega), h.old⟩
  · rw [List.length_set]; exact hown
  · intro y hy
    rcases List.mem_or_eq_of_mem_set hy with hy | rfl
    · exact h.ok y hy
    · exact hx
theorem grown_set1 (W : World) (b j : Nat) (z : Value) : W.grownBy (W.setCell ⟨b, j, none⟩ z) (some b) :=
  ⟨rfl, rfl, rfl, by simp [World.setCell], fun _ _ hi => Below.heap_setCell _ _ _ _ (fun e => hi (by rw [e]))⟩
theorem DInv.new {w0 : World} {gd : Nat} {W W1 : World} {vb v : Value} {B B1 : List (List Int)} (h : DInv w0 gd W vb B) (hg : W.grownBy W1 none) (hr : W1.ownsRow w0.heap.size 29 32 v B1.length (rowI B1)) (ha : ∀ x ∈ B1, IdOk x) (hb : Below w0.heap.size w0 W1) :
    W1.heap[gd]? = some (.cells #[vb] 26 (0, 0)) ∧ DInv w0 gd (W1.setCell ⟨gd, 0, none⟩ v) v B1 := by
  have hb1 : W1.heap[gd]? = some (.cells #[vb] 26 (0, 0)) := blk_grown h.blk hg (by simp)
  refine ⟨hb1, one_setCell hb1, own_loc hr (fun g hg _ => Below.heap_setCell _ _ _ _ (fun e => ?_)), ha, hb.setCell (p := ⟨gd, 0, none⟩) h.old _, h.old⟩
  obtain ⟨cells, hc⟩ := own_typed hr g hg
  replace e : g = gd := e
  subst e
  rw [hb1] at hc
  injection hc with hc
  injection hc with _ hc
  exact absurd hc (by decide)
theorem DInv.grown {w0 : World} {gd g n k : Nat} {W W1 : World} {B B1 : List (List Int)} (h : DInv w0 gd W (.slice (some ⟨g, 0, none⟩) n k) B) (hg : W.grownBy W1 (Value.slice (some ⟨g, 0, none⟩) n k).ownBlock)
    (hr : W1.ownsRow w0.heap.size 29 32 (.slice (some ⟨g, 0, none⟩) n k) B1.length (rowI B1)) (ha : ∀ x ∈ B1, IdOk x) (hb : Below w0.heap.size w0 W1) : DInv w0 gd W1 (.slice (some ⟨g, 0, none⟩) n k) B1 :=
  ⟨blk_grown h.blk hg (by simp [Value.ownBlock]; exact h.ne), hr, ha, hb, h.old⟩

/-- What a lay may have written: the desk's block, the row that lay there, and new memory. -/
structure Kp (W W1 : World) (gd : Nat) (v0 : Value) : Prop where
  size : W.heap.size ≤ W1.heap.size
  keep : ∀ k, k < W.heap.size → k ≠ gd → some k ≠ v0.ownBlock → W1.heap[k]? = W.heap[k]?
theorem Kp.refl (W : World) (gd : Nat) (v0 : Value) : Kp W W gd v0 := ⟨Nat.le_refl _, fun _ _ _ _ => rfl⟩
theorem Kp.grown {W W1 W2 : World} {gd : Nat} {v0 : Value} {row : Option Nat} (h : Kp W W1 gd v0) (hg : W1.grownBy W2 row) (hr : ∀ k, row = some k → k = gd ∨ some k = v0.ownBlock ∨ W.heap.size ≤ k) : Kp W W2 gd v0 :=
  ⟨Nat.le_trans h.size hg.size, fun k hk h1 h2 => by
    rw [← h.keep k hk h1 h2]
    refine hg.block k (Nat.lt_of_lt_of_le hk h.size) (fun e => ?_)
    rcases hr k e.symm with h3 | h3 | h3
    · exact h1 h3
    · exact h2 h3
    · omega⟩
theorem Kp.set {W W1 : World} {gd : Nat} {v0 : Value} (h : Kp W W1 gd v0) {g : Nat} (hg : g = gd ∨ some g = v0.ownBlock ∨ W.heap.size ≤ g) (j : Nat) (u : Value) : Kp W (W1.setCell ⟨g, j, none⟩ u) gd v0 :=
  h.grown (grown_set1 W1 g j u) (fun k e => by cases e; exact hg)
theorem Kp.below {W W1 W2 : World} {gd : Nat} {v0 : Value} (h : Kp W W1 gd v0) (hb : Below W1.heap.size W1 W2) : Kp W W2 gd v0 :=
  ⟨Nat.le_trans h.size hb.size, fun k hk h1 h2 => (hb.block k (Nat.lt_of_lt_of_le hk h.size)).trans (h.keep k hk h1 h2)⟩
/-- Where a row lies behind a lay. -/
def LiesAt (W : World) (v0 v : Value) : Prop := ∀ k, v.ownBlock = some k → some k = v0.ownBlock ∨ W.heap.size ≤ k

def b1 (n : Int) : List Int := n :: List.replicate 31 0
theorem b1_ok {n : Int} (h : 0 ≤ n ∧ n ≤ 255) : IdOk (b1 n) := ⟨rfl, fun u hu => by
  rcases List.mem_cons.1 hu with rfl | hu
  · exact h
  · rw [List.eq_of_mem_replicate hu]; decide⟩
/-- So many ids of the desk are marked. -/
def markD (B : List (List Int)) (i : Nat) : List (List Int) := List.replicate i (b1 171) ++ B.drop i
theorem markD_set (B : List (List Int)) (i : Nat) (h : i < B.length) : (markD B i).set i (b1 171) = markD B (i + 1) := by
  rw [markD, markD, List.set_append_right _ _ (by simp), List.length_replicate, Nat.sub_self, List.drop_eq_getElem_cons h, List.set_cons_zero, List.replicate_succ', List.append_assoc]
  rfl
theorem markD_length (B : List (List Int)) (i : Nat) (h : i ≤ B.length) : (markD B i).length = B.length := by simp [markD]; omega
def deskS (data : List (List Int)) (n : Nat) : List (List Int) := data ++ List.replicate (n - data.length) (b1 171)
theorem deskS_length {data : List (List Int)} {n : Nat} (h : data.length ≤ n) : (deskS data n).length = n := by simp [deskS]; omega
end Go.Proofs.YtdekmeanlcpenaaGreatDoor.Law

namespace Go.Proofs.YtdekmeanlcpenaaGreatDoor.Law
open Go.RowKit Go.Proofs.YtdekmeanlcpenaaGreatDoorW.PrintWords Go.Proofs.YtdekmeanlcpenaaGreatDoor.Mid Go.Proofs.YtdekmeanlcpenaaGreatDoor.Pick Go.Proofs.YtdekmeanlcpenaaGreatDoor.Sep
attribute [local go_sem ↓ high] load33_eq load29_eq build69_eq build33_eq build29_eq
attribute [local simp] rowOf_drew rowOf_drewN
attribute [local go_sem high] load33_row load29_row rowOf_drew rowOf_drewN
set_option maxHeartbeats 2000000
set_option maxRecDepth 100000

section
variable {P : Program} {ops : Array Oper} {rest : List Oper} {op : Oper} {a : Act} {w : World} {Q : Exit → Act → World → Prop}
theorem wpList_store_cells (hgd : op.guard = none) (hd : op.dst = none) (ty : TypeId) (x y : Operand) (ho : op.op = .store ty x y) (b o : Nat) (cs : List Value) (hx : a.eval x = .pointer (some ⟨b, o, none⟩)) (hy : a.eval y = .agg cs.toArray)
    (ht : w.there b o cs.length) (hi : (P.info? ty).map (·.size) = some cs.length) (h1 : ∀ v ∈ cs, v.oneCell' = true) (h : wpList P ops Q rest a (w.setCells b o cs)) : wpList P ops Q (op :: rest) a w :=
  wpList_store_mid hgd ty x y ho b o cs.toArray hx hy (by simpa using ht) (by simpa using hi) (all_oneCell_toArray h1) (by rw [hd]; exact h)
end
/-- The result that has this code alone. -/
def codeR (n : Int) : Res := ⟨z32, z32, n⟩
theorem codeR_ok {n : Int} (h : -9223372036854775808 ≤ n ∧ n ≤ 9223372036854775807) : ResOk (codeR n) := ⟨z32_ok, z32_ok, h⟩
theorem codeR_len (n : Int) : (resC (codeR n)).length = 65 := by simp [resC, codeR, u8s, z32]

theorem bldCode (w : World) (n : Int) : (bld 33 #[(2, .int .i64 n)]).run Tryz.prog w = .ok (.agg (resC (codeR n)).toArray) w := bld33_code w n
attribute [local go_sem high] bldCode
theorem mark_any (A : Option Addr) (n c : Nat) (code : Int) (xs : List Value) (b : Nat) (w : World) (h : w.ownsRow b 33 65 (.slice A n c) n xs) (hn : n ≤ 1000000) :
    Calls Tryz.prog 14 #[.slice A n c, .int .i64 code] w fun e w' => e = .returned (.tuple #[]) ∧ w'.ownsRow b 33 65 (.slice A n c) n (reps n (resC (codeR code))) ∧ w.grownBy w' (Value.slice A n c).ownBlock := by
  have HO := Aside0.mk h
  have hxl : Aside0 (xs.length = n * 65) := ⟨h.1⟩
  clear h
  go_enter Tryz.func14, Tryz.ntmps14
  go_wp2
  go_loopg [4] n (fun k v4 w' => ∃ i : Nat, v4 = .int .i64 i ∧ i + k = n ∧ Aside0 (w'.ownsRow b 33 65 (.slice A n c) n (reps i (resC (codeR code)) ++ xs.drop (i * 65)) ∧ w.grownBy w' (Value.slice A n c).ownBlock))
  case atStart => exact ⟨0, rfl, by omega, ⟨by rw [Nat.zero_mul, List.drop_zero]; exact HO.out, World.grownBy.refl _ _⟩⟩
  case round =>
    clear HO
    obtain ⟨i, rfl, hik, HI⟩ := hrel
    cases gk with
    | zero =>
      have hd : decide (i < n) = false := by simp; omega
      have hi : Aside0 (i = n) := ⟨by omega⟩
      clear hik
      go_wp2
      go_end0
      refine ⟨rfl, ?_, HI.out.2⟩
      have := HI.out.1
      rw [hi.out, List.drop_of_length_le (by rw [hxl.out]; exact Nat.le_refl _), List.append_nil] at this
      exact this
    | succ k =>
      have hi : i < n := by omega
      have hi1 : (i : Int) < (n : Int) := by omega
      obtain ⟨g, cap, hv, hb, hth, hown, hgr⟩ := own_set HI.out.1 hi (codeR_len code)
      injection hv with e1 e2 e3
      subst e1 e3
      have Hth : Aside0 (wr.there g (i * 65) (resC (codeR code)).length) := ⟨by rw [codeR_len]; exact hth⟩
      have Hown := Aside0.mk hown
      have Hgr := Aside0.mk hgr
      clear hth hown hgr
      go_wp2_with (first
        | (refine wpList_store_cells (ty := 33) (x := .tmp 15) (y := .tmp 14) (b := g) (o := i * 65) (cs := resC (codeR code)) ?_ ?_ ?_ ?_ ?_ ?_ ?_ ?_ ?_
           rotate_left 2
           focus with_reducible exact rfl
           focus exact rfl
           focus exact rfl
           focus exact Hth.out
           focus (rw [codeR_len]; exact info33)
           focus exact resC_one
           rotate_left 1
           focus exact rfl
           focus exact rfl)
        | go_in)
      go_roundg k
      case measure => omega
      case rel =>
        refine ⟨i + 1, by go_num, by omega, ⟨?_, World.grownBy.trans HI.out.2 Hgr.out⟩⟩
        have h1 := Hown.out
        have hrl : (reps i (resC (codeR code))).length = i * 65 := by rw [reps_length, codeR_len]
        rw [List.take_append_of_le_length (by omega), List.take_of_length_le (by omega), List.drop_append, List.drop_of_length_le (by omega), List.nil_append, hrl, List.drop_drop] at h1
        rw [reps_succ]
        have e : i * 65 + (i * 65 + 65 - i * 65) = (i + 1) * 65 := by omega
        rw [e] at h1
        exact h1
end Go.Proofs.YtdekmeanlcpenaaGreatDoor.Law

namespace Go.Proofs.YtdekmeanlcpenaaGreatDoor.Law
open Go.RowKit Go.Proofs.YtdekmeanlcpenaaGreatDoorW.PrintWords Go.Proofs.YtdekmeanlcpenaaGreatDoor.Mid Go.Proofs.YtdekmeanlcpenaaGreatDoor.Pick Go.Proofs.YtdekmeanlcpenaaGreatDoor.Sep
attribute [local go_sem ↓ high] load33_eq load29_eq build69_eq build33_eq build29_eq
attribute [local simp] rowOf_drew rowOf_drewN
attribute [local go_sem high] load33_row load29_row rowOf_drew rowOf_drewN
set_option maxHeartbeats 2000000
set_option maxRecDepth 100000

def z29v : Value := .agg (u8s z32).toArray
theorem info29full : (Tryz.prog.info? 29).map (fun i => (i.zero, i.size, i.bytes)) = some (some z29v, 32, 32) := by kernel_rfl
def z33v : Value := .agg (resC (codeR 0)).toArray
theorem info33full' : (Tryz.prog.info? 33).map (fun i => (i.zero, i.size, i.bytes)) = some (some z33v, 65, 72) := by kernel_rfl
theorem bldMark (w : World) : (bld 29 #[(0, .int .u8 171)]).run Tryz.prog w = .ok (.agg (u8s (b1 171)).toArray) w := bld29_one w 171
theorem bldSeven (w : World) : (bld 29 #[(0, .int .u8 7)]).run Tryz.prog w = .ok (.agg (u8s (b1 7)).toArray) w := bld29_one w 7
attribute [local go_sem high] bldMark bldSeven

theorem desk_lay_any (w0 : World) (gd : Nat) (W : World) (vb : Value) (B : List (List Int)) (A : Option Addr) (c : Nat) (data : List (List Int)) (hI : DInv w0 gd W vb B) (hC : idK.C w0 A data.length data) (hda : ∀ x ∈ data, IdOk x) (hd : data.length ≤ 1000) (hB : B.length ≤ 1000000) :
    Calls Tryz.prog 10 #[.pointer (some ⟨gd, 0, none⟩), .slice A data.length c] W fun e w' => ∃ g k n, e = .returned (.slice (some ⟨g, 0, none⟩) data.length k) ∧ data.length + 3 ≤ n ∧ n ≤ 1000000 ∧ DInv w0 gd w' (.slice (some ⟨g, 0, none⟩) n k) (deskS data n) ∧ Kp W w' gd vb ∧ LiesAt W vb (.slice (some ⟨g, 0, none⟩) n k) := by
  have HI := Aside0.mk hI
  have HC := Aside0.mk hC
  have HDA := Aside0.mk hda
  obtain ⟨v0, hv0⟩ : ∃ v0, vb = v0 := ⟨_, rfl⟩
  have HV0 := Aside0.mk hv0
  rw [hv0]
  clear hv0 hda
  obtain ⟨Ab, kb, rfl⟩ := own_slice hI.row
  have hc0 := cell_of_one hI.blk
  have hf0 := free_of_one hI.blk
  clear hI hC
  obtain ⟨N, hN⟩ : ∃ N, 2 * data.length + 6 = N := ⟨_, rfl⟩
  have hN1 : 2 * (data.length : Int) + 6 = (N : Int) := by omega
  have hN2 : N ≤ 700000 := by omega
  have hN3 : data.length + 3 ≤ N := by omega
  clear hN
  go_enter Tryz.func10, Tryz.ntmps10
  go_upto_if 14 with (fail)
  go_cut [15, 16, 17, 18, 19, 20, 21, 22] (fun _ _ _ _ _ _ _ _ wc => ∃ (vb : Value) (B : List (List Int)), data.length + 3 ≤ B.length ∧ B.length ≤ 1000000 ∧ Aside0 (DInv w0 gd wc vb B ∧ Kp W wc gd v0 ∧ LiesAt W v0 vb))
  case first =>
    by_cases hs : B.length < data.length + 3
    · have hs1 : (B.length : Int) < (data.length : Int) + 3 := by omega
      go_wp2_with (at_make; go_loud (refine Kd.R_make idK (w0 := w0) w0.heap.size 29 rfl rfl 23 _ _ rfl (N : Int) rfl rfl Tryz.underlying23 z29v 32 info29full rfl (by decide) (by decide) z32 (ok := fun _ => True) (okp := fun _ => False) (id_M z32_ok) (fun _ _ => trivial) trivial (by omega) (by simp; omega) HI.out.bel HI.out.bel.size ?_); intro v2 w2 ho2 hb2 hg2 hat2; rw [Int.toNat_natCast] at ho2; obtain ⟨A2, k2, e2⟩ := Kd.R_slice ho2; rw [List.length_replicate] at e2; subst e2; have HD2 := Aside0.mk (HI.out.new hg2 (idR_own ho2).1 (idR_own ho2).2 hb2); have hc2 := cell_of_one HD2.out.1; have hf2 := free_of_one HD2.out.1; have HK2 : Aside0 (Kp W (w2.setCell ⟨gd, 0, none⟩ (.slice A2 N k2)) gd v0 ∧ LiesAt W v0 (.slice A2 N k2)) := ⟨((Kp.refl W gd v0).grown hg2 (fun _ e => by cases e)).set (.inl rfl) _ _, fun k hk => by obtain ⟨b, hb, hb'⟩ := hat2; rw [hb] at hk; injection hk with hk; exact .inr (by omega)⟩)
      go_meet
      case rel => exact ⟨_, _, by simp; omega, by simp; omega, ⟨HD2.out.2, HK2.out⟩⟩
    · have hs1 : decide ((B.length : Int) < (data.length : Int) + 3) = false := by simp; omega
      go_wp2
      go_meet
      case rel => exact ⟨_, B, by omega, hB, ⟨HI.out, Kp.refl _ _ _, fun k hk => .inl (by rw [← HV0.out]; exact hk.symm)⟩⟩
  case rest =>
    obtain ⟨vb, B, hb5, hb6, HI3⟩ := hcut
    have HI := Aside0.mk HI3.out.1
    obtain ⟨g, k1, e1, hg1⟩ : ∃ g k1, vb = .slice (some ⟨g, 0, none⟩) B.length k1 ∧ B.length ≤ k1 := by
      rcases HI.out.row.2 with ⟨_, h0⟩ | ⟨g, cap, cur, hv, hb, hh, hnc, hcm, hcs, htake⟩
      · omega
      · exact ⟨g, cap, hv, hnc⟩
    subst e1
    obtain ⟨n, hn⟩ : ∃ n, B.length = n := ⟨_, rfl⟩
    rw [hn] at HI hb5 hb6 hg1
    have HN := Aside0.mk hn
    have hk := hg1
    have HG : Aside0 (g = gd ∨ some g = v0.ownBlock ∨ W.heap.size ≤ g) := ⟨.inr (HI3.out.2.2 g rfl)⟩
    have HAT := Aside0.mk HI3.out.2.2
    rw [hn] at HAT
    have HK0 := Aside0.mk HI3.out.2.1
    clear hc0 hf0 hn hN1 hN2 hN3 hB HI3
    go_wp2_with fail
    go_loopg [5] n (fun k' v5 w' => ∃ i : Nat, v5 = .int .i64 i ∧ i + k' = n ∧ Aside0 (DInv w0 gd w' (.slice (some ⟨g, 0, none⟩) n k1) (markD B i)) ∧ Aside0 (Kp W w' gd v0))
    case atStart => exact ⟨0, rfl, by omega, HI, HK0⟩
    case round =>
      clear HI HK0
      obtain ⟨i, rfl, hik, HI, HK⟩ := hrel
      have hc1 := cell_of_one HI.out.blk
      have hf1 := free_of_one HI.out.blk
      cases gk with
      | zero =>
        have hi : i = n := by omega
        subst hi
        have hm : markD B i = List.replicate i (b1 171) := by rw [markD, List.drop_eq_nil_of_le (by have := HN.out; omega), List.append_nil]
        have hr := idR_of HI.out.row HI.out.ok
        rw [hm] at hr
        have HR := Aside0.mk hr
        have hn3 : (data.length : Int) ≤ (k1 : Int) := by omega
        have HFIN : Aside0 (data.take (min data.length (List.replicate i (b1 171)).length) ++ (List.replicate i (b1 171)).drop (min data.length (List.replicate i (b1 171)).length) = deskS data i) := ⟨by
          rw [List.length_replicate, Nat.min_eq_left (by omega), List.take_length, List.drop_replicate, deskS]⟩
        clear hm hr hik
        go_wp2_with ((with_reducible refine gate_builtin (b := .copy) (xs := #[.tmp 42, .tmp 43]) rfl ?_); go_loud (refine OpenK.R_copy_many idK (w0 := w0) w0.heap.size rfl (.tmp 42) (.tmp 43) 23 23 29 rfl Tryz.underlying23 info29 (by decide) (fun _ _ _ _ _ h _ _ _ => h) (fun _ _ _ _ _ _ h => h) (.slice (some ⟨g, 0, none⟩) i k1) (List.replicate i (b1 171)) data A data.length c (fun _ => True) rfl rfl HR.out (Kd.C_below HC.out HI.out.bel) HI.out.bel HI.out.bel.size ?_); intro w3 ho3 hb3 hg3; rw [HFIN.out] at ho3; have H3 := Aside0.mk (HI.out.grown hg3 (idR_own ho3).1 (idR_own ho3).2 hb3); have HK3 := Aside0.mk (HK.out.grown hg3 (fun k e => by simp [Value.ownBlock] at e; subst e; exact HG.out)); have hc3 := cell_of_one H3.out.blk; clear ho3 hb3 hg3)
        go_ret
        exact ⟨g, k1, i, rfl, hb5, hb6, H3.out, HK3.out, HAT.out⟩
      | succ k' =>
        have hi : i < n := by omega
        have hi1 : (i : Int) < (n : Int) := by omega
        have hP := HI.out.put (i := i) (by rw [markD_length _ _ (by rw [HN.out]; omega), HN.out]; exact hi) (b1_ok (n := 171) (by decide))
        rw [markD_set B i (by rw [HN.out]; exact hi)] at hP
        have HNX := Aside0.mk hP.2.2
        have HTH : Aside0 (wr.there g (i * 32) (u8s (b1 171)).length) := ⟨hP.1⟩
        have HKX := Aside0.mk (HK.out.grown hP.2.1 (fun k e => by injection e with e; subst e; exact HG.out))
        clear hP
        go_wp2_with (first
          | (refine wpList_store_cells (ty := 29) (x := .tmp 38) (y := .tmp 37) (b := g) (o := i * 32) (cs := u8s (b1 171)) ?_ ?_ ?_ ?_ ?_ ?_ ?_ ?_ ?_
             rotate_left 2
             focus with_reducible exact rfl
             focus exact rfl
             focus exact rfl
             focus exact HTH.out
             focus exact info29
             focus exact u8s_one
             rotate_left 1
             focus exact rfl
             focus exact rfl)
          | go_in)
        go_roundg k'
        case measure => omega
        case rel => exact ⟨i + 1, by go_num, by omega, HNX, HKX⟩
end Go.Proofs.YtdekmeanlcpenaaGreatDoor.Law
