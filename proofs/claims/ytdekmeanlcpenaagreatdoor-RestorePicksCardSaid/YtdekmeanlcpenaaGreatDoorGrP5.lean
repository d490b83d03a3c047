import Derived.Test.YtdekmeanlcpenaaGreatDoorGrP4
import Derived.Test.YtdekmeanlcpenaaGreatDoorGrP1
import Derived.ArgAppend
import Derived.Test.YtdekmeanlcpenaaGreatDoorWMore
namespace Go.Proofs.YtdekmeanlcpenaaGreatDoor.Mid
open Go.RowKit Go.Proofs.YtdekmeanlcpenaaGreatDoorW.PrintWords
attribute [local go_sem ↓ high] load33_eq load29_eq build33_eq
attribute [local simp] rowOf_drew rowOf_drewN
attribute [local go_sem high] load33_row load29_row rowOf_drew rowOf_drewN bld33_none
set_option maxHeartbeats 1000000
set_option maxRecDepth 100000

theorem results_ct {fn : Func} {q u : Tmp} {r : Res} (hr : ResOk r) (h : fn.results = #[.cell q 33, .tmp u]) (tmps : Array Value) (w : World) (g : Nat)
    (hp : tmps.getD q undef = .pointer (some ⟨g, 0, none⟩)) (hg : w.heap[g]? = some (.cells (resC r).toArray 33 (0, 0))) :
    (results fn tmps).run Tryz.prog w = .ok (.tuple #[resv r, tmps.getD u undef]) w := by
  have hp' : tmps[q]?.getD undef = .pointer (some ⟨g, 0, none⟩) := by simpa using hp
  have hl := run_loadVar_at (P := Tryz.prog) w ⟨g, 0, none⟩ 33 (resC r) _ (At.blk hg) Tryz.underlying33 rfl (by rw [resC_length hr]; exact info33)
  simp [results, h, hp', asAddr, hl, resv]
theorem eqI29 (w : World) (x y : List Int) (hx : IdOk x) (hy : IdOk y) : (Op.equalIn 10000 29 (.agg (u8s x).toArray) (.agg (u8s y).toArray)).run Tryz.prog w = .ok (decide (x = y)) w := eq29 w x y hx hy
theorem eqI33 (w : World) (r s : Res) (hr : ResOk r) (hs : ResOk s) : (Op.equalIn 10000 33 (.agg (resC r).toArray) (.agg (resC s).toArray)).run Tryz.prog w = .ok (decide (r = s)) w := eq33 w r s hr hs
theorem eqE29 (w : World) (x y : List Int) (hx : IdOk x) (hy : IdOk y) : (Op.equal 29 (.agg (u8s x).toArray) (.agg (u8s y).toArray)).run Tryz.prog w = .ok (decide (x = y)) w := eq29 w x y hx hy

/-- What Find answers. -/
structure RetFind (rs : List Res) (x : List Int) (e : Ending) : Prop where
  out : ∃ (r : Res) (q : Bool), e = .returned (.tuple #[resv r, .bool q]) ∧ ResOk r ∧ (q = true ↔ ∃ s ∈ rs, s.act = x)
theorem find_any (A : Option Addr) (c : Nat) (rs : List Res) (x : List Int) (w : World) (hC : resK.C w A rs.length rs) (hx : IdOk x) (hl : rs.length ≤ 140737488355328) :
    Calls Tryz.prog 29 #[.slice A rs.length c, idv x] w fun e w' => RetFind rs x e ∧ Below w.heap.size w w' := by
  have HC := Aside0.mk hC
  have Hx := Aside0.mk hx
  clear hC hx
  unfold idv
  go_enter Tryz.func29, Tryz.ntmps29
  go_upto_region 1 with (fail)
  obtain ⟨W, hW⟩ : ∃ W, W = (w.alloc (.cells (u8s x).toArray 29)).alloc (.cells Tryz.zeroCells33 33) := ⟨_, rfl⟩
  rw [← hW]
  have hsz0 : (w.alloc (.cells (u8s x).toArray 29)).heap.size = w.heap.size + 1 := by simp
  have hBW : Below w.heap.size w W := hW ▸ below_alloc (below_alloc (Below.refl _ _) _) _
  have hx0 : At W ⟨w.heap.size, 0, none⟩ (u8s x) := hW ▸ (At.new w (u8s x) 29).below (below_alloc (Below.refl _ _) _)
  have h40 : W.heap[w.heap.size + 1]? = some (.cells Tryz.zeroCells33 33 (0, 0)) := by
    have := heap_alloc_new (w.alloc (.cells (u8s x).toArray 29)) (.cells Tryz.zeroCells33 33)
    rw [hsz0] at this
    rw [hW]; exact this
  have HBW := Aside0.mk hBW
  have HX0 := Aside0.mk hx0
  have H40 := Aside0.mk h40
  clear hW hsz0 hBW hx0 h40
  go_wp2
  go_loopg [6] rs.length (fun k v6 w' => ∃ i : Nat, v6 = .int .i64 i ∧ i + k = rs.length ∧ Aside0 (∀ j s, j < i → rs[j]? = some s → s.act ≠ x) ∧ Aside0 (Drawn0 W w'))
  case atStart => exact ⟨0, rfl, by omega, ⟨fun j s h => by omega⟩, ⟨Drawn0.refl _⟩⟩
  case round =>
    obtain ⟨i, rfl, hik, HN, HDr⟩ := hrel
    have h4 : Aside0 (wr.heap[w.heap.size + 1]? = some (.cells Tryz.zeroCells33 33 (0, 0))) := ⟨(HDr.out.below.block _ (blk_lt H40.out)).trans H40.out⟩
    have HBr : Aside0 (Below w.heap.size w wr) := ⟨HBW.out.trans (HDr.out.below.mono HBW.out.size)⟩
    cases gk with
    | zero =>
      have hd : decide (i < rs.length) = false := by simp; omega
      have hi : Aside0 (i = rs.length) := ⟨by omega⟩
      clear hik
      have hz65 : (⟨z32, z32, 0⟩ : Res).act = z32 := rfl
      have hzr : ResOk ⟨z32, z32, 0⟩ := ⟨z32_ok, z32_ok, by decide⟩
      have HZr := Aside0.mk hzr
      clear hz65 hzr
      go_wp2_with (first
        | (refine wpList_store_blk rfl rfl 33 _ _ rfl h4.out (resC ⟨z32, z32, 0⟩) rfl rfl (by rw [z33, resC_length HZr.out]) (by rw [resC_length HZr.out]; exact info33) resC_one ?_; intro w6 s1 s2 s3)
        | go_in)
      (try simp only [Exit.inBlock, Exit.then])
      refine bodyPost_ret (results_ct HZr.out rfl _ _ (w.heap.size + 1) rfl s1) rfl ?_
      refine ⟨⟨_, false, rfl, HZr.out, ⟨fun h => (by cases h), fun ⟨s, hs, he⟩ => ?_⟩⟩, HBr.out.grown s2 HBr.out.size (fun k hk => by cases hk; omega)⟩
      obtain ⟨j, hj⟩ := List.mem_iff_getElem?.1 hs
      exact absurd he (HN.out j s (by have := (List.getElem?_eq_some_iff.1 hj).1; have := hi.out; omega) hj)
    | succ k =>
      have hi : i < rs.length := by omega
      have hi1 : (i : Int) < (rs.length : Int) := by omega
      obtain ⟨ad, r, rfl, hr, ho, hat⟩ := res_at (Kd.C_below HC.out HBr.out) i hi
      have g1 := (res_act hat).id ho.act
      have g2 := hat.res ho
      have g3 := (HX0.out.below HDr.out.below).id Hx.out
      have HR := Aside0.mk hr
      have Ho := Aside0.mk ho
      have Hat := Aside0.mk hat
      clear hat ho hr
      by_cases hin : r.act = x
      · have heq : ∀ u, (Op.equalIn 10000 29 (.agg (u8s r.act).toArray) (.agg (u8s x).toArray)).run Tryz.prog u = .ok true u := fun u => by rw [eqI29 u _ _ Ho.out.act Hx.out, decide_eq_true hin]
        have Hin := Aside0.mk hin
        clear hin
        go_wp2
        go_quiet (fail)
        have h5 : Aside0 ((wr.drewN nq).heap[w.heap.size + 1]? = some (.cells Tryz.zeroCells33 33 (0, 0))) := ⟨((HDr.out.step nq).below.block _ (blk_lt H40.out)).trans H40.out⟩
        have HBq : Aside0 (Below w.heap.size w (wr.drewN nq)) := ⟨HBW.out.trans ((HDr.out.step nq).below.mono HBW.out.size)⟩
        go_wp2_with (first
          | (refine wpList_store_blk rfl rfl 33 _ _ rfl h5.out (resC r) rfl rfl (by rw [z33, resC_length Ho.out]) (by rw [resC_length Ho.out]; exact info33) resC_one ?_; intro w6 s1 s2 s3)
          | go_in)
        (try simp only [Exit.inBlock, Exit.then])
        refine bodyPost_ret (results_ct Ho.out rfl _ _ (w.heap.size + 1) rfl s1) rfl ?_
        exact ⟨⟨_, true, rfl, Ho.out, ⟨fun _ => ⟨r, List.mem_of_getElem? HR.out, Hin.out⟩, fun _ => rfl⟩⟩, HBq.out.grown s2 HBq.out.size (fun k hk => by cases hk; omega)⟩
      · have heq : ∀ u, (Op.equalIn 10000 29 (.agg (u8s r.act).toArray) (.agg (u8s x).toArray)).run Tryz.prog u = .ok false u := fun u => by rw [eqI29 u _ _ Ho.out.act Hx.out, decide_eq_false hin]
        have Hin := Aside0.mk hin
        clear hin
        go_wp2
        go_quiet (fail)
        go_wp2
        go_roundg k
        case measure => omega
        case rel =>
          refine ⟨i + 1, by go_num, by omega, ⟨fun j s hj hs => ?_⟩, ⟨HDr.out.step _⟩⟩
          by_cases hji : j = i
          · subst hji
            rw [HR.out] at hs
            cases hs
            exact Hin.out
          · exact HN.out j s (by omega) hs
end Go.Proofs.YtdekmeanlcpenaaGreatDoor.Mid

namespace Go.Proofs.YtdekmeanlcpenaaGreatDoor.Law
open Go.RowKit Go.Proofs.YtdekmeanlcpenaaGreatDoorW.PrintWords Go.Proofs.YtdekmeanlcpenaaGreatDoor.Mid Go.Proofs.YtdekmeanlcpenaaGreatDoor.Pick Go.Proofs.YtdekmeanlcpenaaGreatDoor.Err
attribute [local go_sem ↓ high] load33_eq load29_eq build69_eq build33_eq build29_eq
attribute [local simp] rowOf_drew rowOf_drewN
attribute [local go_sem high] load33_row load29_row rowOf_drew rowOf_drewN
set_option maxHeartbeats 2000000
set_option maxRecDepth 100000

theorem isFault (v : Value) (w : World) : (Instr.typeAssert (.iface 79 v) 35 79 true).run Tryz.prog w = .ok (.tuple #[v, .bool true]) w := by kernel_rfl
theorem num_any (n : Int) (w : World) : Calls Tryz.prog 33 #[.int .i64 n] w fun e w' => e = .returned (.int .i64 n) ∧ Below w.heap.size w w' := by
  go_enter Tryz.func33, Tryz.ntmps33
  go_wp2
  go_ret
  exact ⟨rfl, Below.refl _ _⟩
theorem told_nil (op name : ByteArray) (id : List Int) (w : World) : Calls Tryz.prog 11 #[.nilIface, .string op, .string name, .int .i64 0, idv id] w fun e w' => e = .returned (.bool true) ∧ Below w.heap.size w w' := by
  go_enter Tryz.func11, Tryz.ntmps11
  go_wp2
  go_ret
  exact ⟨rfl, below_alloc (Below.refl _ _) _⟩
theorem handle_below {w w1 : World} (h : Handle w) (hb : Below w.heap.size w w1) : Handle w1 := by
  have := lt_of_cell h
  unfold Handle at h ⊢
  rw [hb.cell this]; exact h
theorem fault_cells {w : World} {g : Nat} {op name : ByteArray} {id : List Int} {err : Value} (hid : IdOk id) (h : w.heap[g]? = some (.cells (faultC op name id err).toArray 82 (0, 0))) :
    w.cell? ⟨g, 0, none⟩ = some (.string op) ∧ w.cell? ⟨g, 1, none⟩ = some (.string name) ∧ rowOf w ⟨g, 2, none⟩ 32 = some (u8s id) ∧ w.cell? ⟨g, 34, none⟩ = some err := by
  have hl : (u8s id).length = 32 := by rw [u8s_length, hid.len]
  have hat : At w ⟨g, 0, none⟩ (faultC op name id err) := At.blk h
  have h2 : At w ⟨g, 2, none⟩ (u8s id) := by
    intro j v hv
    have hj : j < (u8s id).length := (List.getElem?_eq_some_iff.1 hv).1
    have := hat (2 + j) v (by
      have e : faultC op name id err = [.string op, .string name] ++ (u8s id ++ [err]) := by simp [faultC]
      rw [e, List.getElem?_append_right (by simp), List.getElem?_append_left (by simp; omega)]
      simpa using hv)
    rw [Addr.add_mid] at this ⊢
    rwa [Nat.zero_add] at this
  refine ⟨?_, ?_, h2.id hid, ?_⟩
  · have := hat 0 (.string op) rfl
    rwa [Addr.add_mid] at this
  · have := hat 1 (.string name) rfl
    rwa [Addr.add_mid] at this
  · have := hat 34 err (by
      have e : faultC op name id err = ([.string op, .string name] ++ u8s id) ++ [err] := by simp [faultC]
      rw [e, List.getElem?_append_right (by simp; omega)]
      simp [hl])
    rwa [Addr.add_mid] at this
theorem told_some (op name : ByteArray) (id : List Int) (n : Int) (hn : n ≠ 0) (hid : IdOk id) (g : Nat) (w : World) (hH : Handle w) (hf : w.heap[g]? = some (.cells (faultC op name id (errno n)).toArray 82 (0, 0))) :
    Calls Tryz.prog 11 #[.iface 79 (.pointer (some ⟨g, 0, none⟩)), .string op, .string name, .int .i64 n, idv id] w fun e w' => e = .returned (.bool true) ∧ Below w.heap.size w w' := by
  obtain ⟨W, hW⟩ : ∃ W, W = w.alloc (.cells (u8s id).toArray 29) := ⟨_, rfl⟩
  have hBW : Below w.heap.size w W := hW ▸ below_alloc (Below.refl _ _) _
  have hbx : At W ⟨w.heap.size, 0, none⟩ (u8s id) := hW ▸ At.new w (u8s id) 29
  have hfW : W.heap[g]? = some (.cells (faultC op name id (errno n)).toArray 82 (0, 0)) := (hBW.block _ (blk_lt hf)).trans hf
  have hHW : Handle W := handle_below hH hBW
  have hfx : ∀ x : CW (Since W), x.w.heap[g]? = some (.cells (faultC op name id (errno n)).toArray 82 (0, 0)) := fun x => (x.h.block _ (blk_lt hfW)).trans hfW
  have c0 : ∀ x : CW (Since W), x.w.cell? ⟨g, 0, none⟩ = some (.string op) := fun x => (fault_cells hid (hfx x)).1
  have c1 : ∀ x : CW (Since W), x.w.cell? ⟨g, 1, none⟩ = some (.string name) := fun x => (fault_cells hid (hfx x)).2.1
  have c2 : ∀ x : CW (Since W), rowOf x.w ⟨g, 2, none⟩ 32 = some (u8s id) := fun x => (fault_cells hid (hfx x)).2.2.1
  have c4 : ∀ x : CW (Since W), rowOf x.w ⟨w.heap.size, 0, none⟩ 32 = some (u8s id) := fun x => (hbx.below x.h).id hid
  have c34 : Aside0 (∀ x : CW (Since W), x.w.cell? ⟨g, 34, none⟩ = some (.iface 80 (.int .i64 n))) := ⟨fun x => (fault_cells hid (hfx x)).2.2.2⟩
  have hHx : Aside0 (∀ x : CW (Since W), Handle x.w) := ⟨fun x => handle_below hHW x.h⟩
  have heq : ∀ u, (Op.equalIn 10000 29 (.agg (u8s id).toArray) (.agg (u8s id).toArray)).run Tryz.prog u = .ok true u := fun u => by rw [eqI29 u _ _ hid hid, decide_eq_true rfl]
  have HBW := Aside0.mk hBW
  have HW := Aside0.mk hW
  clear hbx hfW hHW hfx hH hf hBW hW
  have hta := isFault
  unfold idv
  go_enter Tryz.func11, Tryz.ntmps11
  go_wp2
  rw [← HW.out]
  refine wp_region_S (Since W) (by kernel_rfl) (by kernel_rfl) (since_drew W) ?_
  repeat (go_big_quiet_step (first
    | (go_at_call 34; refine calls_since (code_any g n _ (hHx.out _) (c34.out _)))
    | (go_at_call 33; refine calls_since (num_any n _))
    | (go_at_call 35; refine calls_since ((is32 g n _ (c34.out _)).mono (fun e w' ⟨he, hw⟩ => ⟨he, hw ▸ Below.refl _ _⟩)))))
  refine wpQuiet_nil ?_
  rintro w5 ⟨x5, e5⟩
  have hb5 : Since W w5 := e5 ▸ x5.h
  clear e5 x5
  go_wp2
  go_ret
  exact ⟨rfl, HBW.out.trans (hb5.mono HBW.out.size)⟩
end Go.Proofs.YtdekmeanlcpenaaGreatDoor.Law

namespace Go.Proofs.YtdekmeanlcpenaaGreatDoor.Law
open Go.RowKit Go.Proofs.YtdekmeanlcpenaaGreatDoorW.PrintWords Go.Proofs.YtdekmeanlcpenaaGreatDoor.Mid Go.Proofs.YtdekmeanlcpenaaGreatDoor.Pick
attribute [local go_sem ↓ high] load33_eq load29_eq build69_eq build33_eq build29_eq
attribute [local simp] rowOf_drew rowOf_drewN
attribute [local go_sem high] load33_row load29_row rowOf_drew rowOf_drewN bld29_none
set_option maxHeartbeats 2000000
set_option maxRecDepth 100000

/-- restore.Restore's op, and the name that known asks with. -/
def opRestore : ByteArray := { data := #[114, 101, 115, 116, 111, 114, 101, 46, 114, 101, 115, 116, 111, 114, 101] }
def nameF : ByteArray := { data := #[102, 46, 120] }
theorem none_nil (w : World) : Calls Tryz.prog 78 #[.pointer none] w fun e w' => e = .returned (.bool true) ∧ Below w.heap.size w w' := by
  go_enter Tryz.func78, Tryz.ntmps78
  go_wp2
  go_ret
  exact ⟨rfl, Below.refl _ _⟩
theorem off_nil (w : World) : Calls Tryz.prog 38 #[.pointer none] w fun e w' => e = .returned (.bool true) ∧ Below w.heap.size w w' := by
  go_enter Tryz.func38, Tryz.ntmps38
  go_wp2_with (first
    | (go_at_call 78; refine (none_nil _).mono ?_; rintro e w1 ⟨rfl, hb1⟩; have HB1 := Aside0.mk hb1; clear hb1)
    | go_in)
  go_ret
  exact ⟨rfl, HB1.out⟩
theorem disk_nil (w : World) : Calls Tryz.prog 37 #[.pointer none] w fun e w' => e = .returned (.pointer none) ∧ Below w.heap.size w w' := by
  go_enter Tryz.func37, Tryz.ntmps37
  go_wp2
  go_ret
  exact ⟨rfl, Below.refl _ _⟩
theorem clo66 (x : List Int) (hx : IdOk x) (n : Int) (bb : Nat) (nm : ByteArray) (w : World) (hb : w.heap[bb]? = some (.cells #[.string nm] 9 (0, 0))) :
    Calls Tryz.prog 36 #[idv x, errno n, .pointer (some ⟨bb, 0, none⟩)] w fun e w' => (∃ v, e = .returned v ∧ ∃ g, v = .iface 79 (.pointer (some ⟨g, 0, none⟩)) ∧ w.heap.size ≤ g ∧ w'.heap[g]? = some (.cells (faultC opRestore nm x (errno n)).toArray 82 (0, 0))) ∧ Below w.heap.size w w' := by
  obtain ⟨W, hW⟩ : ∃ W, W = w.alloc (.cells (u8s x).toArray 29) := ⟨_, rfl⟩
  have hBW : Below w.heap.size w W := hW ▸ below_alloc (Below.refl _ _) _
  have hbx : rowOf W ⟨w.heap.size, 0, none⟩ 32 = some (u8s x) := (hW ▸ At.new w (u8s x) 29 : At W _ _).id hx
  have hc : W.cell? ⟨bb, 0, none⟩ = some (.string nm) := cell_of_one ((hBW.block _ (blk_lt hb)).trans hb)
  have hbb := fun u => bld69_four u opRestore nm x hx (errno n) rfl
  have HW := Aside0.mk hW
  have HBW := Aside0.mk hBW
  clear hW hBW hb
  unfold opRestore errno at hbb
  unfold idv errno
  go_enter Tryz.func36, Tryz.ntmps36
  go_upto_region 1 with (fail)
  rw [← HW.out]
  go_wp2
  go_ret
  exact ⟨⟨_, rfl, W.heap.size, rfl, HBW.out.size, heap_alloc_new W _⟩, HBW.out.trans ((below_alloc (Below.refl W.heap.size W) _).mono HBW.out.size)⟩
/-- What the restore of a cache that is nil answers. -/
theorem restore_nil (nm : ByteArray) (w : World) :
    Calls Tryz.prog 17 #[.pointer none, .string nm, .slice none 0 0, .int .i64 1] w fun e w' => (∃ v, e = .returned v ∧ ∃ g, v = .iface 79 (.pointer (some ⟨g, 0, none⟩)) ∧ w.heap.size ≤ g ∧ w'.heap[g]? = some (.cells (faultC opRestore nm z32 (errno 50)).toArray 82 (0, 0))) ∧ Below w.heap.size w w' := by
  obtain ⟨W, hW⟩ : ∃ W, W = w.alloc (.cells #[.string nm] 9) := ⟨_, rfl⟩
  have hBW : Below w.heap.size w W := hW ▸ below_alloc (Below.refl _ _) _
  have hc : W.heap[w.heap.size]? = some (.cells #[.string nm] 9 (0, 0)) := hW ▸ heap_alloc_new w _
  have HC := Aside0.mk hc
  have HW := Aside0.mk hW
  have HBW := Aside0.mk hBW
  have hmf : ∀ (fn : Fn) (first cap : Array Value) (w : World), (Instr.makeFunc fn first cap).run Tryz.prog w = .ok (.func fn first cap) w := fun _ _ _ _ => rfl
  clear hW hBW hc
  go_enter Tryz.func17, Tryz.ntmps17
  go_upto_region 1 with (fail)
  rw [← HW.out]
  go_wp2_with (first
    | (go_at_call 37; refine (disk_nil _).mono ?_; rintro e w1 ⟨rfl, hb1⟩; have HB1 := Aside0.mk hb1; clear hb1)
    | (go_at_call 38; refine (off_nil _).mono ?_; rintro e w2 ⟨rfl, hb2⟩; have HB2 := Aside0.mk (HB1.out.trans (hb2.mono HB1.out.size)); clear hb2)
    | (go_at_call 36; refine (clo66 z32 z32_ok 50 w.heap.size nm _ ((HB2.out.block _ (blk_lt HC.out)).trans HC.out)).mono ?_; rintro e w3 ⟨⟨v, rfl, hv⟩, hb3⟩; have HV := Aside0.mk hv; have HB3 := Aside0.mk (HB2.out.trans (hb3.mono HB2.out.size)); have HL := Aside0.mk HB2.out.size; clear hb3 hv)
    | go_in)
  go_ret
  refine ⟨⟨v, rfl, ?_⟩, HBW.out.trans (HB3.out.mono HBW.out.size)⟩
  obtain ⟨g, e, h1, h2⟩ := HV.out
  exact ⟨g, e, Nat.le_trans (Nat.le_trans HBW.out.size HL.out) h1, h2⟩
end Go.Proofs.YtdekmeanlcpenaaGreatDoor.Law

namespace Go.Proofs.YtdekmeanlcpenaaGreatDoor.Law
open Go.RowKit Go.Proofs.YtdekmeanlcpenaaGreatDoorW.PrintWords Go.Proofs.YtdekmeanlcpenaaGreatDoor.Mid
attribute [local go_sem ↓ high] load33_eq load29_eq
attribute [local simp] rowOf_drew rowOf_drewN
attribute [local go_sem high] load33_row load29_row rowOf_drew rowOf_drewN
set_option maxHeartbeats 2000000
set_option maxRecDepth 100000
theorem tables_true (A0 : Option Addr) (c0 : Nat) (A1 : Option Addr) (c1 : Nat) (rs : List Res) (w : World) (h0 : resK.C w A0 rs.length rs) (h1 : resK.C w A1 rs.length rs) (hl : rs.length ≤ 1000000) :
    Calls Tryz.prog 12 #[.slice A0 rs.length c0, .slice A1 rs.length c1] w fun e w' => e = .returned (.bool true) ∧ Below w.heap.size w w' := by
  have H0 := Aside0.mk h0
  have H1 := Aside0.mk h1
  clear h0 h1
  go_enter Tryz.func12, Tryz.ntmps12
  go_wp2
  go_loopg [5] rs.length (fun k v5 w' => ∃ i : Nat, v5 = .int .i64 i ∧ i + k = rs.length ∧ Aside0 (Drawn0 w w'))
  case atStart => exact ⟨0, rfl, by omega, ⟨Drawn0.refl _⟩⟩
  case round =>
    obtain ⟨i, rfl, hik, HD⟩ := hrel
    cases gk with
    | zero =>
      have hd : decide (i < rs.length) = false := by simp; omega
      clear hik
      go_wp2
      go_ret
      exact ⟨rfl, HD.out.below⟩
    | succ k =>
      have hi : i < rs.length := by omega
      have hi1 : (i : Int) < (rs.length : Int) := by omega
      obtain ⟨ad, r, e0, hr, ho, hat⟩ := res_at (Kd.C_below H0.out HD.out.below) i hi
      subst e0
      obtain ⟨ad1, r1, e1, hr1, ho1, hat1⟩ := res_at (Kd.C_below H1.out HD.out.below) i hi
      subst e1
      have e : r1 = r := by rw [hr] at hr1; exact (Option.some.inj hr1).symm
      subst e
      have g1 := hat.res ho
      have g2 := hat1.res ho1
      have heq : ∀ u, (Op.equalIn 10000 33 (.agg (resC r1).toArray) (.agg (resC r1).toArray)).run Tryz.prog u = .ok true u := fun u => by rw [eqI33 u _ _ ho1 ho1, decide_eq_true rfl]
      clear hr hr1 ho ho1 hat hat1
      go_wp2
      go_quiet (fail)
      go_wp2
      go_roundg k
      case measure => omega
      case rel => exact ⟨i + 1, by go_num, by omega, ⟨HD.out.step _⟩⟩
end Go.Proofs.YtdekmeanlcpenaaGreatDoor.Law

namespace Go.Proofs.YtdekmeanlcpenaaGreatDoor.Sep
open Go.RowKit Go.Proofs.YtdekmeanlcpenaaGreatDoorW.PrintWords Go.Proofs.YtdekmeanlcpenaaGreatDoorW.PrintLast Go.Proofs.YtdekmeanlcpenaaGreatDoorW.PrintMore

theorem below_none {W W1 : World} (hg : W.grownBy W1 none) : Below W.heap.size W W1 := ⟨hg.os, hg.tape, hg.output, hg.size, fun k hk => hg.block k hk (by simp)⟩

/-- append onto a row of one's own: what comes of it, and that the row itself reads as before. -/
theorem run_append_row {P : Program} (w : World) (base : Nat) (t ty e : TypeId) (z : Value) (size bytes : Nat) (ht : P.underlying t = some (.slice e))
    (hinfo : (P.info? e).map (fun i => (i.zero, i.size, i.bytes)) = some (some z, size, bytes)) (hz : z.cells.size = size) (hs0 : 0 < size) (hb0 : 0 < bytes)
    (v : Value) (n : Nat) (xs : List Value) (HO : w.ownsRow base e size v n xs) (ad : Addr) (m c : Nat) (news : List Value) (hnl : news.length = m * size)
    (hnews : ∀ j u, news[j]? = some u → w.cell? (ad.add j) = some u) (h1 : ∀ u ∈ news, u.oneCell' = true) (hm0 : 0 < m) (hb : (n + m) * bytes ≤ 140737488355328) (hbase : base ≤ w.heap.size) :
    ∃ v1 w1, (Builtin.append_ #[t, t] ty #[v, .slice (some ad) m c]).run P w = .ok v1 w1 ∧ w1.ownsRow base e size v1 (n + m) (xs ++ news) ∧ w.grownBy w1 v.ownBlock ∧ w1.ownsRow base e size v n xs ∧
      ((∃ A k, v = .slice A n k ∧ v1 = .slice A (n + m) k) ∨ ∃ k, v1.ownBlock = some k ∧ w.heap.size ≤ k) := by
  obtain ⟨i0, hi, hzz⟩ := Option.map_eq_some_iff.1 hinfo
  simp only [Prod.mk.injEq] at hzz
  obtain ⟨hz0, hz1, hz2⟩ := hzz
  have hlen : n + m ≤ 140737488355328 := Nat.le_trans (Nat.le_mul_of_pos_right _ hb0) hb
  have h63 : n + m ≤ maxLen := by unfold maxLen; omega
  have grow : ∀ v' w', w'.ownsRow w.heap.size e size v' (n + m) (xs ++ news) → w.grownBy w' none →
      w'.ownsRow base e size v' (n + m) (xs ++ news) ∧ w.grownBy w' v.ownBlock ∧ w'.ownsRow base e size v n xs ∧ ((∃ A k, v = .slice A n k ∧ v' = .slice A (n + m) k) ∨ ∃ k, v'.ownBlock = some k ∧ w.heap.size ≤ k) := by
    intro v' w' hown hg
    have hf : ∃ k, v'.ownBlock = some k ∧ w.heap.size ≤ k := by
      rcases hown.2 with ⟨_, h0⟩ | ⟨g, cap, cur, hv, hb, _⟩
      · omega
      · exact ⟨g, by rw [hv]; rfl, by omega⟩
    exact ⟨own_less hown hbase, ⟨hg.os, hg.tape, hg.output, hg.size, fun k hk _ => hg.block k hk (by simp)⟩, own_move HO (fun k hk => hg.block k (by obtain ⟨cells, hc⟩ := own_typed HO k hk; exact blk_lt hc) (by simp)), .inr hf⟩
  rcases HO.2 with ⟨rfl, h0⟩ | ⟨g, cap, cur, rfl, hbg, hh, hnc, hcm, hcs, htake⟩
  · subst h0
    have hx0 : xs = [] := List.length_eq_zero_iff.1 (by have := HO.1; omega)
    subst hx0
    obtain ⟨v', w', hrun, r1, r2, _⟩ := run_append_own (P := P) w w.heap.size t ty e i0 z size bytes ht hi hz0 hz1 hz2 hz hs0 (.slice none 0 0) 0 [] (World.ownsRow_nil w _ e size) ad m c news hnl hnews h1 h63 hb (Nat.le_refl _)
    exact ⟨v', w', hrun, grow v' w' r1 r2⟩
  · have hnsz : n * size ≤ cur.size := by rw [hcs]; exact Nat.mul_le_mul_right _ hnc
    have hxl : xs.length = n * size := HO.1
    have holds : ∀ j u, xs[j]? = some u → w.cell? ⟨g, 0 + j, none⟩ = some u := by
      intro j u hu
      rw [Nat.zero_add, blk_cell hh, ← Array.getElem?_toList]
      rw [← htake, List.getElem?_take] at hu
      split at hu
      · exact hu
      · cases hu
    by_cases hr : n + m ≤ cap
    · have hf : n * size + m * size ≤ cur.size := by
        rw [hcs, ← Nat.add_mul]
        exact Nat.mul_le_mul_right _ hr
      subst hz1
      have hrun := run_append_room_cells (P := P) w t ty e i0 ht hi g 0 n cap ad m c news hnl hnews h1 hr
        (fun j hj => by rw [blk_cell hh]; rw [hnl] at hj; simp; omega) (fun j hj => blk_frozen hh _)
      rw [Nat.zero_add] at hrun
      obtain ⟨cur', h3, h4, h5⟩ := setCells_row news (n * i0.size) w cur hh (by rw [hnl]; exact hf)
      obtain ⟨s1, s2, s3, s4⟩ := setCells_same g news (n * i0.size) w
      have hg : w.grownBy (w.setCells g (n * i0.size) news) (some g) := ⟨s1, s2, s3, by rw [s4]; exact Nat.le_refl _, fun k _ hk => setCells_far _ _ k (fun he => hk (by rw [he]))⟩
      refine ⟨_, _, hrun, ?_, hg, ?_, .inl ⟨_, _, rfl, rfl⟩⟩
      · refine ⟨by rw [List.length_append, hxl, hnl, Nat.add_mul], .inr ⟨g, cap, cur', rfl, hbg, h3, hr, hcm, by rw [h4, hcs], ?_⟩⟩
        rw [h5, htake, Nat.add_mul, List.take_append_of_le_length (by rw [List.length_append, hxl, hnl]; exact Nat.le_refl _)]
        exact List.take_of_length_le (by rw [List.length_append, hxl, hnl]; exact Nat.le_refl _)
      · refine ⟨HO.1, .inr ⟨g, cap, cur', rfl, hbg, h3, by omega, hcm, by rw [h4, hcs], ?_⟩⟩
        rw [h5, htake, List.append_assoc, List.take_append_of_le_length (by omega)]
        exact List.take_of_length_le (by omega)
    · obtain ⟨v', w', hrun, r1, r2⟩ := run_append_arg_grows (P := P) w t ty e i0 z size bytes ht hi hz0 hz1 hz2 hz hs0 ⟨g, 0, none⟩ n cap xs hxl (fun j u hj => by rw [Addr.add_lit]; exact holds j u hj) ad m c news hnl hnews (by omega) h63 hb
      exact ⟨v', w', hrun, grow v' w' r1 r2⟩

section
variable {P : Program} {ops : Array Oper} {o : Oper} {a : Act} {K : Act → World → Prop} {Q : Exit → Act → World → Prop}
/-- append(v, y), y one element that lies in a new block: the law at the operation. -/
theorem wp_append_row {w0 W : World} (base : Nat) (s x : Operand) (t e : TypeId) (z : Value) (size bytes : Nat) (ho : o.op = .call { callee := .builtin .append, args := #[s, x], argTypes := #[t, t] })
    (ht : P.underlying t = some (.slice e)) (hinfo : (P.info? e).map (fun i => (i.zero, i.size, i.bytes)) = some (some z, size, bytes)) (hz : z.cells.size = size) (hs0 : 0 < size) (hb0 : 0 < bytes)
    (v : Value) (n : Nat) (xs ys : List Value) (hs : a.eval s = v) (hx : a.eval x = .slice (some ⟨W.heap.size, 0, none⟩) 1 1) (hys : ys.length = size) (h1 : ∀ u ∈ ys, u.oneCell' = true)
    (HO : W.ownsRow base e size v n xs) (HB : Below base w0 W) (hbase : base ≤ W.heap.size) (hl : (n + 1) * bytes ≤ 140737488355328)
    (h : ∀ v1 w1, w1.ownsRow base e size v1 (n + 1) (xs ++ ys) → Below base w0 w1 → W.grownBy w1 v.ownBlock → w1.ownsRow base e size v n xs →
      ((∃ A c, v = .slice A n c ∧ v1 = .slice A (n + 1) c) ∨ ∃ k, v1.ownBlock = some k ∧ W.heap.size ≤ k) → K (a.put o.dst v1) w1) :
    o.wp P a (W.alloc (.cells ys.toArray e)) K Q := by
  have hnews : ∀ j u, ys[j]? = some u → (W.alloc (.cells ys.toArray e)).cell? ((⟨W.heap.size, 0, none⟩ : Addr).add j) = some u := by
    simpa using World.news_of_block (cs := ys.toArray) (t := e) (fr := (0, 0)) (heap_alloc_new W (.cells ys.toArray e))
  have HO' : (W.alloc (.cells ys.toArray e)).ownsRow base e size v n xs := pw_own_below HO (below_alloc (Below.refl _ _) _)
  obtain ⟨v1, w1, hrun, r1, r2, r3, r4⟩ := run_append_row (P := P) (W.alloc (.cells ys.toArray e)) base t o.type e z size bytes ht hinfo hz hs0 hb0 v n xs HO' ⟨W.heap.size, 0, none⟩ 1 1 ys (by rw [hys]; omega) hnews h1 (by omega) hl (by simp; omega)
  have hg2 : W.grownBy w1 v.ownBlock := World.grownBy.trans (World.grownBy_alloc W _ _) r2
  unfold Oper.wp
  simp only [execOp, ho, resolve, invoke, builtin, Sem.run_bind, Sem.run_pure, Result.andThen_ok, List.map_toArray, List.map_cons, List.map_nil, hs, hx, hrun]
  refine h v1 w1 r1 (HB.grown hg2 hbase (fun k hk => own_base HO k hk)) hg2 r3 ?_
  rcases r4 with r4 | ⟨k, hk, hlk⟩
  · exact .inl r4
  · exact .inr ⟨k, hk, by simp at hlk; omega⟩

theorem wpList_append_row {rest : List Oper} {w0 W : World} (base : Nat) (hgd : o.guard = none) (s x : Operand) (t e : TypeId) (z : Value) (size bytes : Nat) (ho : o.op = .call { callee := .builtin .append, args := #[s, x], argTypes := #[t, t] })
    (ht : P.underlying t = some (.slice e)) (hinfo : (P.info? e).map (fun i => (i.zero, i.size, i.bytes)) = some (some z, size, bytes)) (hz : z.cells.size = size) (hs0 : 0 < size) (hb0 : 0 < bytes)
    (v : Value) (n : Nat) (xs ys : List Value) (hs : a.eval s = v) (hx : a.eval x = .slice (some ⟨W.heap.size, 0, none⟩) 1 1) (hys : ys.length = size) (h1 : ∀ u ∈ ys, u.oneCell' = true)
    (HO : W.ownsRow base e size v n xs) (HB : Below base w0 W) (hbase : base ≤ W.heap.size) (hl : (n + 1) * bytes ≤ 140737488355328)
    (h : ∀ v1 w1, w1.ownsRow base e size v1 (n + 1) (xs ++ ys) → Below base w0 w1 → W.grownBy w1 v.ownBlock → w1.ownsRow base e size v n xs →
      ((∃ A c, v = .slice A n c ∧ v1 = .slice A (n + 1) c) ∨ ∃ k, v1.ownBlock = some k ∧ W.heap.size ≤ k) → wpList P ops Q rest (a.put o.dst v1) w1) :
    wpList P ops Q (o :: rest) a (W.alloc (.cells ys.toArray e)) :=
  wpList_plain hgd fun _ hK => wp_append_row base s x t e z size bytes ho ht hinfo hz hs0 hb0 v n xs ys hs hx hys h1 HO HB hbase hl fun v1 w1 g1 g2 g3 g4 g5 => hK _ _ (h v1 w1 g1 g2 g3 g4 g5)

theorem step_append_row {E : Prop} {w0 W : World} (base : Nat) (hgd : o.guard = none) (s x : Operand) (t e : TypeId) (z : Value) (size bytes : Nat) (ho : o.op = .call { callee := .builtin .append, args := #[s, x], argTypes := #[t, t] })
    (ht : P.underlying t = some (.slice e)) (hinfo : (P.info? e).map (fun i => (i.zero, i.size, i.bytes)) = some (some z, size, bytes)) (hz : z.cells.size = size) (hs0 : 0 < size) (hb0 : 0 < bytes)
    (v : Value) (n : Nat) (xs ys : List Value) (hs : a.eval s = v) (hx : a.eval x = .slice (some ⟨W.heap.size, 0, none⟩) 1 1) (hys : ys.length = size) (h1 : ∀ u ∈ ys, u.oneCell' = true)
    (HO : W.ownsRow base e size v n xs) (HB : Below base w0 W) (hbase : base ≤ W.heap.size) (hl : (n + 1) * bytes ≤ 140737488355328)
    (h : ∀ v1 w1, w1.ownsRow base e size v1 (n + 1) (xs ++ ys) → Below base w0 w1 → W.grownBy w1 v.ownBlock → w1.ownsRow base e size v n xs →
      ((∃ A c, v = .slice A n c ∧ v1 = .slice A (n + 1) c) ∨ ∃ k, v1.ownBlock = some k ∧ W.heap.size ≤ k) → K (a.put o.dst v1) w1) :
    if Region.wanted o (yielded ops a.tmps) = true then Oper.wp P o a (W.alloc (.cells ys.toArray e)) K Q else E := by
  have hw : Region.wanted o (yielded ops a.tmps) = true := by simp [Region.wanted, hgd]
  rw [if_pos hw]
  exact wp_append_row base s x t e z size bytes ho ht hinfo hz hs0 hb0 v n xs ys hs hx hys h1 HO HB hbase hl h
end
end Go.Proofs.YtdekmeanlcpenaaGreatDoor.Sep

namespace Go.Proofs.YtdekmeanlcpenaaGreatDoor.Sep
open Go.RowKit Go.Proofs.YtdekmeanlcpenaaGreatDoorW.PrintWords Go.Proofs.YtdekmeanlcpenaaGreatDoorW.PrintLast Go.Proofs.YtdekmeanlcpenaaGreatDoorW.PrintMore

/-- A slice's header. -/
structure SlV where
  A : Option Addr
  n : Nat
  c : Nat
def SlV.v (s : SlV) : Value := .slice s.A s.n s.c
/-- Slices' headers as a kind of scalars. -/
def skd : Kd SlV := Kd.scalar SlV.v (fun _ => rfl)

/-- What is told of some blocks alone. -/
structure Pr where
  p : (Nat → Prop) → World → Prop
  loc : ∀ {F F' : Nat → Prop} {W W' : World}, p F W → (∀ g, F g → g < W.heap.size → F' g ∧ W'.heap[g]? = W.heap[g]?) → p F' W'

theorem own_loc {W W' : World} {b e sz n : Nat} {v : Value} {xs : List Value} (h : W.ownsRow b e sz v n xs) (hm : ∀ g, v.ownBlock = some g → g < W.heap.size → W'.heap[g]? = W.heap[g]?) : W'.ownsRow b e sz v n xs :=
  own_move h (fun k hk => hm k hk (own_lt h k hk))

def empP : Pr := ⟨fun _ _ => True, fun _ _ => trivial⟩
/-- A row of one's own. -/
def rowP (b e sz : Nat) (u : SlV) (xs : List Value) : Pr where
  p F W := W.ownsRow b e sz u.v u.n xs ∧ ∀ g, u.v.ownBlock = some g → F g
  loc h hm := ⟨own_loc h.1 (fun g hg hl => (hm g (h.2 g hg) hl).2), fun g hg => (hm g (h.2 g hg) (own_lt h.1 g hg)).1⟩
/-- A block that is known whole. -/
def blkP (b kb t : Nat) (cs : Array Value) : Pr where
  p F W := W.heap[kb]? = some (.cells cs t (0, 0)) ∧ b ≤ kb ∧ F kb
  loc h hm := by
    have := hm kb h.2.2 (blk_lt h.1)
    exact ⟨this.2.trans h.1, h.2.1, this.1⟩
/-- n times these cells. -/
def reps (n : Nat) (p : List Value) : List Value := (List.replicate n p).flatten
theorem reps_length (n : Nat) (p : List Value) : (reps n p).length = n * p.length := by
  simp [reps]
theorem reps_succ (n : Nat) (p : List Value) : reps (n + 1) p = reps n p ++ p := by
  simp [reps, List.replicate_succ']
/-- A row that was written over (l, n times p), and what has grown from it (g, r times q more). -/
structure Ent (b e sz : Nat) (l g : SlV) (p q : List Value) (n r : Nat) (F : Nat → Prop) (W : World) : Prop where
  ln : l.n = n
  gn : g.n = n + r
  lo : W.ownsRow b e sz l.v n (reps n p)
  go : W.ownsRow b e sz g.v (n + r) (reps n p ++ reps r q)
  lF : ∀ k, l.v.ownBlock = some k → F k
  gF : ∀ k, g.v.ownBlock = some k → F k
  rel : (∀ k, g.v.ownBlock = some k → l.v.ownBlock ≠ some k) ∨ (l.A = g.A ∧ l.c = g.c)
def entP (b e sz : Nat) (l g : SlV) (p q : List Value) (R : Nat) : Pr where
  p F W := ∃ n r, r ≤ R ∧ n ≤ 1000000 ∧ Ent b e sz l g p q n r F W
  loc := fun ⟨n, r, hr, hn, h⟩ hm => ⟨n, r, hr, hn, h.ln, h.gn, own_loc h.lo (fun k hk hl => (hm k (h.lF k hk) hl).2), own_loc h.go (fun k hk hl => (hm k (h.gF k hk) hl).2),
    fun k hk => (hm k (h.lF k hk) (own_lt h.lo k hk)).1, fun k hk => (hm k (h.gF k hk) (own_lt h.go k hk)).1, h.rel⟩

theorem Ent.take {W : World} {b e sz n r : Nat} {A : Option Addr} {c : Nat} {p q : List Value} (hp : p.length = sz) (h : W.ownsRow b e sz (.slice A (n + r) c) (n + r) (reps n p ++ reps r q)) : W.ownsRow b e sz (.slice A n c) n (reps n p) := by
  have h1 := own_take (m := n) h (by omega)
  rw [List.take_append_of_le_length (by rw [reps_length, hp]; exact Nat.le_refl _), List.take_of_length_le (by rw [reps_length, hp]; exact Nat.le_refl _)] at h1
  exact h1

/-- It grows by one. -/
theorem Ent.grow {W W1 : World} {b e sz n r : Nat} {l g : SlV} {p q : List Value} {F F' : Nat → Prop} {v1 : Value} (hp : p.length = sz) (h : Ent b e sz l g p q n r F W) (hF : ∀ k, k < W.heap.size → F k → F' k) (hF2 : ∀ k, W.heap.size ≤ k → F' k)
    (h1 : W1.ownsRow b e sz v1 (n + r + 1) ((reps n p ++ reps r q) ++ q)) (hg : W.grownBy W1 g.v.ownBlock) (ho : W1.ownsRow b e sz g.v (n + r) (reps n p ++ reps r q))
    (hat : (∃ A c, g.v = .slice A (n + r) c ∧ v1 = .slice A (n + r + 1) c) ∨ ∃ k, v1.ownBlock = some k ∧ W.heap.size ≤ k) : ∃ g1 : SlV, v1 = g1.v ∧ Ent b e sz l g1 p q n (r + 1) F' W1 := by
  obtain ⟨A1, c1, rfl⟩ := own_slice h1
  refine ⟨⟨A1, n + r + 1, c1⟩, rfl, ?_⟩
  have hgo : W1.ownsRow b e sz (SlV.v ⟨A1, n + r + 1, c1⟩) (n + (r + 1)) (reps n p ++ reps (r + 1) q) := by
    rw [reps_succ, ← List.append_assoc]
    exact h1
  have hlF : ∀ k, l.v.ownBlock = some k → F' k := fun k hk => hF k (own_lt h.lo k hk) (h.lF k hk)
  have hlo : W1.ownsRow b e sz l.v n (reps n p) := by
    rcases h.rel with hr | ⟨e1, e2⟩
    · exact own_move h.lo (fun k hk => hg.block k (own_lt h.lo k hk) (fun e => hr k e.symm hk))
    · obtain ⟨gA, gn, gc⟩ := g
      obtain ⟨lA, ln, lc⟩ := l
      have e3 : ln = n := h.ln
      have e4 : gn = n + r := h.gn
      simp only at e1 e2
      subst e1 e2 e3 e4
      exact Ent.take hp ho
  refine ⟨h.ln, rfl, hlo, hgo, hlF, ?_, ?_⟩
  · intro k hk
    rcases hat with ⟨A, c, e1, e2⟩ | ⟨k', hk', hl⟩
    · injection e2 with e3 e4 e5
      subst e3 e5
      have hk2 : g.v.ownBlock = some k := by
        rw [e1]
        cases A1 with
        | none => simp [SlV.v, Value.ownBlock] at hk
        | some a => simpa [SlV.v, Value.ownBlock] using hk
      exact hF k (own_lt h.go k hk2) (h.gF k hk2)
    · have hk3 : (Value.slice A1 (n + r + 1) c1).ownBlock = some k := hk
      rw [hk'] at hk3
      cases hk3
      exact hF2 k hl
  · rcases hat with ⟨A, c, e1, e2⟩ | ⟨k', hk', hl⟩
    · injection e2 with e3 e4 e5
      subst e3 e5
      obtain ⟨gA, gn, gc⟩ := g
      injection e1 with e6 e7 e8
      subst e6 e8
      rcases h.rel with hr | hr
      · refine .inl (fun k hk => hr k ?_)
        cases gA with
        | none => simp [SlV.v, Value.ownBlock] at hk
        | some a => simpa [SlV.v, Value.ownBlock] using hk
      · exact .inr hr
    · left
      intro k hk e
      have hk3 : (Value.slice A1 (n + r + 1) c1).ownBlock = some k := hk
      rw [hk'] at hk3
      injection hk3 with e5
      have := own_lt h.lo k e
      omega

/-- A store of blocks by colours: to each colour what is told of its blocks. -/
structure Store {C : Type} (b : Nat) (w0 W : World) (c : Nat → C) (S : C → Pr) : Prop where
  bel : Below b w0 W
  all : ∀ K, (S K).p (fun g => c g = K) W

section
variable {C : Type} {b : Nat} {w0 W W1 : World} {c c' : Nat → C} {S : C → Pr}
/-- One colour's part changes. -/
theorem Store.mod [DecidableEq C] (h : Store b w0 W c S) (K0 : C) (T : Pr) (hB : Below b w0 W1) (hc : ∀ g, g < W.heap.size → c g ≠ K0 → c' g = c g) (hm : ∀ g, g < W.heap.size → c g ≠ K0 → W1.heap[g]? = W.heap[g]?) (hT : T.p (fun g => c' g = K0) W1) :
    Store b w0 W1 c' (fun K => if K = K0 then T else S K) := by
  refine ⟨hB, fun K => ?_⟩
  by_cases hK : K = K0
  · subst hK
    simp only [if_true]
    exact hT
  · simp only [if_neg hK]
    refine (S K).loc (h.all K) (fun g hg hl => ?_)
    replace hg : c g = K := hg
    have h1 : c g ≠ K0 := by rw [hg]; exact hK
    exact ⟨by rw [hc g hl h1]; exact hg, hm g hl h1⟩
theorem Store.below (h : Store b w0 W c S) (hb0 : b ≤ w0.heap.size) (hb : Below W.heap.size W W1) : Store b w0 W1 c S :=
  ⟨h.bel.trans (hb.mono (Nat.le_trans hb0 h.bel.size)), fun K => (S K).loc (h.all K) (fun g hg hl => ⟨hg, hb.block g hl⟩)⟩
/-- Blocks go over from one colour to another that had none. -/
theorem Store.move [DecidableEq C] (h : Store b w0 W c S) (K1 K2 : C) (hne : K1 ≠ K2) (T : Pr) (hT : T.p (fun g => c g = K1) W) : Store b w0 W (fun g => if c g = K1 then K2 else c g) (fun K => if K = K1 then empP else if K = K2 then T else S K) := by
  refine ⟨h.bel, fun K => ?_⟩
  by_cases hK1 : K = K1
  · subst hK1
    simp only [if_true]
    exact trivial
  · simp only [if_neg hK1]
    by_cases hK2 : K = K2
    · subst hK2
      simp only [if_true]
      exact T.loc hT (fun g hg hl => ⟨by replace hg : c g = K1 := hg; simp [hg], rfl⟩)
    · simp only [if_neg hK2]
      refine (S K).loc (h.all K) (fun g hg hl => ⟨?_, rfl⟩)
      replace hg : c g = K := hg
      rw [if_neg (by rw [hg]; exact hK1)]
      exact hg
/-- Something is made: new blocks have what colour one will. -/
theorem Store.fresh (h : Store b w0 W c S) (hb0 : b ≤ w0.heap.size) (hb : Below W.heap.size W W1) (d : Nat → C) : Store b w0 W1 (fun g => if g < W.heap.size then c g else d g) S :=
  ⟨h.bel.trans (hb.mono (Nat.le_trans hb0 h.bel.size)), fun K => (S K).loc (h.all K) (fun g hg hl => ⟨by rw [if_pos hl]; exact hg, hb.block g hl⟩)⟩
/-- And is told. -/
theorem Store.set [DecidableEq C] (h : Store b w0 W c S) (K0 : C) (T : Pr) (hT : T.p (fun g => c g = K0) W) : Store b w0 W c (fun K => if K = K0 then T else S K) :=
  h.mod K0 T h.bel (fun _ _ _ => rfl) (fun _ _ _ => rfl) hT
end
end Go.Proofs.YtdekmeanlcpenaaGreatDoor.Sep
