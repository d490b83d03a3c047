import Derived.Test.YtdekmeanlcpenaaGreatDoorCf1
import Derived.Test.YtdekmeanlcpenaaGreatDoorCf9
import Derived.Test.YtdekmeanlcpenaaGreatDoorCf4
import Derived.Test.YtdekmeanlcpenaaGreatDoorCf2
import Derived.Test.YtdekmeanlcpenaaGreatDoorProg
import Derived.Test.YtdekmeanlcpenaaGreatDoorWMore
import Derived.Deep.Slices
import Derived.ChangeSame
import Derived.SizedLaws
import Derived.OpenShut
namespace Go.Proofs.YtdekmeanlcpenaaGreatDoor.Law
open Go.RowKit Go.Proofs.YtdekmeanlcpenaaGreatDoorW.PrintWords Go.Proofs.YtdekmeanlcpenaaGreatDoor.Mid Go.Proofs.YtdekmeanlcpenaaGreatDoor.Pick Go.Proofs.YtdekmeanlcpenaaGreatDoor.Err
attribute [local go_sem ↓ high] load33_eq load29_eq build69_eq build33_eq build29_eq
attribute [local simp] rowOf_drew rowOf_drewN
attribute [local go_sem high] load33_row load29_row rowOf_drew rowOf_drewN
set_option maxHeartbeats 2000000
set_option maxRecDepth 100000

theorem isFault (v : Value) (w : World) : (Instr.typeAssert (.iface 79 v) 35 79 true).run Tryz.prog w = .ok (.tuple #[v, .bool true]) w := by kernel_rfl
theorem num_any (n : Int) (w : World) : Calls Tryz.prog 33 #[.int .i64 n] w fun e w' => e = .returned (.int .i64 n) ∧ Below w.heap.size w w' := by
  go_enter Tryz.func33, Tryz.ntmps33
  go_wp2
  go_ret
  exact ⟨rfl, Below.refl _ _⟩
theorem told_nil (op name : ByteArray) (id : List Int) (w : World) : Calls Tryz.prog 11 #[.nilIface, .string op, .string name, .int .i64 0, idv id] w fun e w' => e = .returned (.bool true) ∧ Below w.heap.size w w' := by
  go_enter Tryz.func11, Tryz.ntmps11
  go_wp2
  go_ret
  exact ⟨rfl, below_alloc (Below.refl _ _) _⟩
theorem handle_below {w w1 : World} (h : Handle w) (hb : Below w.heap.size w w1) : Handle w1 := by
  have := lt_of_cell h
  unfold Handle at h ⊢
  rw [hb.cell this]; exact h
theorem fault_cells {w : World} {g : Nat} {op name : ByteArray} {id : List Int} {err : Value} (hid : IdOk id) (h : w.heap[g]? = some (.cells (faultC op name id err).toArray 82 (0, 0))) :
    w.cell? ⟨g, 0, none⟩ = some (.string op) ∧ w.cell? ⟨g, 1, none⟩ = some (.string name) ∧ rowOf w ⟨g, 2, none⟩ 32 = some (u8s id) ∧ w.cell? ⟨g, 34, none⟩ = some err := by
  have hl : (u8s id).length = 32 := by rw [u8s_length, hid.len]
  have hat : At w ⟨g, 0, none⟩ (faultC op name id err) := At.blk h
  have h2 : At w ⟨g, 2, none⟩ (u8s id) := by
    intro j v hv
    have hj : j < (u8s id).length := (List.getElem?_eq_some_iff.1 hv).1
    have := hat (2 + j) v (by
      have e : faultC op name id err = [.string op, .string name] ++ (u8s id ++ [err]) := by simp [faultC]
      rw [e, List.getElem?_append_right (by simp), List.getElem?_append_left (by simp; omega)]
      simpa using hv)
    rw [Addr.add_mid] at this ⊢
    rwa [Nat.zero_add] at this
  refine ⟨?_, ?_, h2.id hid, ?_⟩
  · have := hat 0 (.string op) rfl
    rwa [Addr.add_mid] at this
  · have := hat 1 (.string name) rfl
    rwa [Addr.add_mid] at this
  · have := hat 34 err (by
      have e : faultC op name id err = ([.string op, .string name] ++ u8s id) ++ [err] := by simp [faultC]
      rw [e, List.getElem?_append_right (by simp; omega)]
      simp [hl])
    rwa [Addr.add_mid] at this
theorem told_some (op name : ByteArray) (id : List Int) (n : Int) (hn : n ≠ 0) (hid : IdOk id) (g : Nat) (w : World) (hH : Handle w) (hf : w.heap[g]? = some (.cells (faultC op name id (errno n)).toArray 82 (0, 0))) :
    Calls Tryz.prog 11 #[.iface 79 (.pointer (some ⟨g, 0, none⟩)), .string op, .string name, .int .i64 n, idv id] w fun e w' => e = .returned (.bool true) ∧ Below w.heap.size w w' := by
  obtain ⟨W, hW⟩ : ∃ W, W = w.alloc (.cells (u8s id).toArray 29) := ⟨_, rfl⟩
  have hBW : Below w.heap.size w W := hW ▸ below_alloc (Below.refl _ _) _
  have hbx : At W ⟨w.heap.size, 0, none⟩ (u8s id) := hW ▸ At.new w (u8s id) 29
  have hfW : W.heap[g]? = some (.cells (faultC op name id (errno n)).toArray 82 (0, 0)) := (hBW.block _ (blk_lt hf)).trans hf
  have hHW : Handle W := handle_below hH hBW
  have hfx : ∀ x : CW (Since W), x.w.heap[g]? = some (.cells (faultC op name id (errno n)).toArray 82 (0, 0)) := fun x => (x.h.block _ (blk_lt hfW)).trans hfW
  have c0 : ∀ x : CW (Since W), x.w.cell? ⟨g, 0, none⟩ = some (.string op) := fun x => (fault_cells hid (hfx x)).1
  have c1 : ∀ x : CW (Since W), x.w.cell? ⟨g, 1, none⟩ = some (.string name) := fun x => (fault_cells hid (hfx x)).2.1
  have c2 : ∀ x : CW (Since W), rowOf x.w ⟨g, 2, none⟩ 32 = some (u8s id) := fun x => (fault_cells hid (hfx x)).2.2.1
  have c4 : ∀ x : CW (Since W), rowOf x.w ⟨w.heap.size, 0, none⟩ 32 = some (u8s id) := fun x => (hbx.below x.h).id hid
  have c34 : Aside0 (∀ x : CW (Since W), x.w.cell? ⟨g, 34, none⟩ = some (.iface 80 (.int .i64 n))) := ⟨fun x => (fault_cells hid (hfx x)).2.2.2⟩
  have hHx : Aside0 (∀ x : CW (Since W), Handle x.w) := ⟨fun x => handle_below hHW x.h⟩
  have heq : ∀ u, (Op.equalIn 10000 29 (.agg (u8s id).toArray) (.agg (u8s id).toArray)).run Tryz.prog u = .ok true u := fun u => by rw [eqI29 u _ _ hid hid, decide_eq_true rfl]
  have HBW := Aside0.mk hBW
  have HW := Aside0.mk hW
  clear hbx hfW hHW hfx hH hf hBW hW
  have hta := isFault
  unfold idv
  go_enter Tryz.func11, Tryz.ntmps11
  go_wp2
  rw [← HW.out]
  refine wp_region_S (Since W) (by kernel_rfl) (by kernel_rfl) (since_drew W) ?_
  repeat (go_big_quiet_step (first
    | (go_at_call 34; refine calls_since (code_any g n _ (hHx.out _) (c34.out _)))
    | (go_at_call 33; refine calls_since (num_any n _))
    | (go_at_call 35; refine calls_since ((is32 g n _ (c34.out _)).mono (fun e w' ⟨he, hw⟩ => ⟨he, hw ▸ Below.refl _ _⟩)))))
  refine wpQuiet_nil ?_
  rintro w5 ⟨x5, e5⟩
  have hb5 : Since W w5 := e5 ▸ x5.h
  clear e5 x5
  go_wp2
  go_ret
  exact ⟨rfl, HBW.out.trans (hb5.mono HBW.out.size)⟩
end Go.Proofs.YtdekmeanlcpenaaGreatDoor.Law

namespace Go.Proofs.YtdekmeanlcpenaaGreatDoor.Law
open Go.RowKit Go.Proofs.YtdekmeanlcpenaaGreatDoorW.PrintWords Go.Proofs.YtdekmeanlcpenaaGreatDoor.Mid Go.Proofs.YtdekmeanlcpenaaGreatDoor.Pick Go.Proofs.YtdekmeanlcpenaaGreatDoor.Err
attribute [local go_sem ↓ high] load33_eq load29_eq build69_eq build33_eq build29_eq
attribute [local simp] rowOf_drew rowOf_drewN
attribute [local go_sem high] load33_row load29_row rowOf_drew rowOf_drewN
set_option maxHeartbeats 4000000
set_option maxRecDepth 100000
theorem grownSet (w : World) (p : Addr) (v : Value) : w.grownBy (w.setCell p v) (some p.block) := ⟨rfl, rfl, rfl, by simp [World.setCell], fun k _ hk => Below.heap_setCell w p v k (fun e => hk (by rw [e]))⟩
theorem says_nil (op name : ByteArray) (id : List Int) (w : World) : Calls Tryz.prog 21 #[.nilIface, .string op, .string name, .int .i64 0, idv id] w fun e w' => e = .returned (.bool true) ∧ Below w.heap.size w w' := by
  go_enter Tryz.func21, Tryz.ntmps21
  go_wp2
  go_ret
  exact ⟨rfl, below_alloc (Below.refl _ _) _⟩
theorem says_some (op name : ByteArray) (id : List Int) (n : Int) (hn : n ≠ 0) (hid : IdOk id) (g : Nat) (w : World) (hH : Handle w) (hf : w.heap[g]? = some (.cells (faultC op name id (errno n)).toArray 82 (0, 0))) :
    Calls Tryz.prog 21 #[.iface 79 (.pointer (some ⟨g, 0, none⟩)), .string op, .string name, .int .i64 n, idv id] w fun e w' => e = .returned (.bool true) ∧ Below w.heap.size w w' := by
  obtain ⟨W, hW⟩ : ∃ W, W = w.alloc (.cells (u8s id).toArray 29) := ⟨_, rfl⟩
  have hBW : Below w.heap.size w W := hW ▸ below_alloc (Below.refl _ _) _
  have hbx : At W ⟨w.heap.size, 0, none⟩ (u8s id) := hW ▸ At.new w (u8s id) 29
  obtain ⟨t, ht⟩ : ∃ t, w.heap.size + 1 = t := ⟨_, rfl⟩
  have hsz : W.heap.size = t := by rw [← ht, hW]; simp
  obtain ⟨V, hV⟩ : ∃ V, V = W.alloc (.cells #[.pointer none] 79) := ⟨_, rfl⟩
  have hWV : Below W.heap.size W V := hV ▸ below_alloc (Below.refl _ _) _
  have hBV : Below w.heap.size w V := below_step hBW hWV
  have hHV : Handle V := handle_below hH hBV
  have ht0 : V.cell? ⟨t, 0, none⟩ = some (.pointer none) := by rw [hV, ← hsz]; simp
  have hf0 : V.frozen? ⟨t, 0, none⟩ = false := by rw [hV, ← hsz]; simp
  have hbx1 : At V ⟨w.heap.size, 0, none⟩ (u8s id) := hbx.below hWV
  have hfV : V.heap[g]? = some (.cells (faultC op name id (errno n)).toArray 82 (0, 0)) := (hBV.block _ (blk_lt hf)).trans hf
  have hgl := blk_lt hf
  have HBV := Aside0.mk hBV
  have HV := Aside0.mk hV
  have HW := Aside0.mk hW
  have HT := Aside0.mk ht
  have HHV := Aside0.mk hHV
  have HT0 := Aside0.mk ht0
  have HF0 := Aside0.mk hf0
  have HBX := Aside0.mk hbx1
  have HFV := Aside0.mk hfV
  have HGL : Aside0 (g < w.heap.size ∧ t = w.heap.size + 1 ∧ V.heap.size = t + 1) := ⟨hgl, ht.symm, by rw [hV, ← hsz]; simp⟩
  clear hbx hBW hWV hBV hHV ht0 hf0 hbx1 hfV hgl hf hH hV hW hsz ht
  unfold idv
  go_enter Tryz.func21, Tryz.ntmps21
  go_upto_region 4 with (fail)
  rw [← HW.out, ← HV.out, HT.out]
  go_upto_region 6 with (first
    | (go_at_call 61; refine (asF61 g ⟨t, 0, none⟩ _ _ HHV.out HT0.out HF0.out).mono ?_; rintro e w1 ⟨rfl, w2, hb2, rfl⟩
       have ht2 : (w2.setCell ⟨t, 0, none⟩ (.pointer (some ⟨g, 0, none⟩))).cell? ⟨t, 0, none⟩ = some (.pointer (some ⟨g, 0, none⟩)) := World.cell?_setCell_same _ _ _ (pw_cell_below hb2 HT0.out)
       have HB2 := Aside0.mk hb2
       clear hb2)
    | go_in)
  obtain ⟨U, hU⟩ : ∃ U, w2.setCell ⟨t, 0, none⟩ (.pointer (some ⟨g, 0, none⟩)) = U := ⟨_, rfl⟩
  have hG : w2.grownBy U (some t) := by rw [← hU]; exact grownSet w2 ⟨t, 0, none⟩ _
  have hgl := HGL.out
  have hFU : U.heap[g]? = some (.cells (faultC op name id (errno n)).toArray 82 (0, 0)) := blk_grown ((HB2.out.block _ (by omega)).trans HFV.out) hG (fun e => absurd (Option.some.inj e) (by omega))
  have hHU : Handle U := by
    have h1 := handle_below HHV.out HB2.out
    have h2 := lt_of_cell HHV.out
    have h3 := lt_of_cell h1
    simp only at h2 h3
    unfold Handle at h1 ⊢
    exact (World.cell?_of_block (w := w2) (hG.block 0 h3 (fun e => absurd (Option.some.inj e) (by omega)))).trans h1
  have hXU : At U ⟨w.heap.size, 0, none⟩ (u8s id) := (HBX.out.below HB2.out).grown (by have := HB2.out.size; simp only; omega) hG (fun e => absurd (Option.some.inj e) (by simp only; omega))
  have hBU : Below w.heap.size w U := (HBV.out.trans (HB2.out.mono HBV.out.size)).grown hG (by have := HB2.out.size; omega) (fun k hk => by cases hk; omega)
  have htl : t < U.heap.size := by have := hG.size; have := HB2.out.size; omega
  rw [hU] at ht2 ⊢
  have hfx : ∀ x : CW (Since U), x.w.heap[g]? = some (.cells (faultC op name id (errno n)).toArray 82 (0, 0)) := fun x => (x.h.block _ (blk_lt hFU)).trans hFU
  have ct : ∀ x : CW (Since U), x.w.cell? ⟨t, 0, none⟩ = some (.pointer (some ⟨g, 0, none⟩)) := fun x => (x.h.cell (p := ⟨t, 0, none⟩) htl).trans ht2
  have c0 : ∀ x : CW (Since U), x.w.cell? ⟨g, 0, none⟩ = some (.string op) := fun x => (fault_cells hid (hfx x)).1
  have c1 : ∀ x : CW (Since U), x.w.cell? ⟨g, 1, none⟩ = some (.string name) := fun x => (fault_cells hid (hfx x)).2.1
  have c2 : ∀ x : CW (Since U), rowOf x.w ⟨g, 2, none⟩ 32 = some (u8s id) := fun x => (fault_cells hid (hfx x)).2.2.1
  have c4 : ∀ x : CW (Since U), rowOf x.w ⟨w.heap.size, 0, none⟩ 32 = some (u8s id) := fun x => (hXU.below x.h).id hid
  have c34 : Aside0 (∀ x : CW (Since U), x.w.cell? ⟨g, 34, none⟩ = some (.iface 80 (.int .i64 n))) := ⟨fun x => (fault_cells hid (hfx x)).2.2.2⟩
  have hHx : Aside0 (∀ x : CW (Since U), Handle x.w) := ⟨fun x => handle_below hHU x.h⟩
  have heq : ∀ u, (Op.equalIn 10000 29 (.agg (u8s id).toArray) (.agg (u8s id).toArray)).run Tryz.prog u = .ok true u := fun u => by rw [eqI29 u _ _ hid hid, decide_eq_true rfl]
  have HBU := Aside0.mk hBU
  clear hfx hU hG hgl hFU hHU hXU hBU htl ht2
  refine wp_region_S (Since U) (by kernel_rfl) (by kernel_rfl) (since_drew U) ?_
  repeat (go_big_quiet_step (first
    | (go_at_call 34; refine calls_since (code_any g n _ (hHx.out _) (c34.out _)))))
  refine wpQuiet_nil ?_
  rintro w5 ⟨x5, e5⟩
  have hb5 : Since U w5 := e5 ▸ x5.h
  clear e5 x5
  go_wp2
  go_ret
  exact ⟨rfl, HBU.out.trans (hb5.mono HBU.out.size)⟩
end Go.Proofs.YtdekmeanlcpenaaGreatDoor.Law

namespace Go.Proofs.YtdekmeanlcpenaaGreatDoor.Law
open Go.RowKit Go.Proofs.YtdekmeanlcpenaaGreatDoorW.PrintWords Go.Proofs.YtdekmeanlcpenaaGreatDoor.Mid Go.Proofs.YtdekmeanlcpenaaGreatDoor.Pick
attribute [local go_sem ↓ high] load33_eq load29_eq build69_eq build33_eq build29_eq
attribute [local simp] rowOf_drew rowOf_drewN
attribute [local go_sem high] load33_row load29_row rowOf_drew rowOf_drewN bld29_none
set_option maxHeartbeats 2000000
set_option maxRecDepth 100000

/-- restore.Restore's op, and the name that known asks with. -/
def opRestore : ByteArray := { data := #[114, 101, 115, 116, 111, 114, 101, 46, 114, 101, 115, 116, 111, 114, 101] }
def nameF : ByteArray := { data := #[102, 46, 120] }
theorem none_nil (w : World) : Calls Tryz.prog 78 #[.pointer none] w fun e w' => e = .returned (.bool true) ∧ Below w.heap.size w w' := by
  go_enter Tryz.func78, Tryz.ntmps78
  go_wp2
  go_ret
  exact ⟨rfl, Below.refl _ _⟩
theorem off_nil (w : World) : Calls Tryz.prog 38 #[.pointer none] w fun e w' => e = .returned (.bool true) ∧ Below w.heap.size w w' := by
  go_enter Tryz.func38, Tryz.ntmps38
  go_wp2_with (first
    | (go_at_call 78; refine (none_nil _).mono ?_; rintro e w1 ⟨rfl, hb1⟩; have HB1 := Aside0.mk hb1; clear hb1)
    | go_in)
  go_ret
  exact ⟨rfl, HB1.out⟩
theorem disk_nil (w : World) : Calls Tryz.prog 37 #[.pointer none] w fun e w' => e = .returned (.pointer none) ∧ Below w.heap.size w w' := by
  go_enter Tryz.func37, Tryz.ntmps37
  go_wp2
  go_ret
  exact ⟨rfl, Below.refl _ _⟩
theorem clo66 (x : List Int) (hx : IdOk x) (n : Int) (bb : Nat) (nm : ByteArray) (w : World) (hb : w.heap[bb]? = some (.cells #[.string nm] 9 (0, 0))) :
    Calls Tryz.prog 36 #[idv x, errno n, .pointer (some ⟨bb, 0, none⟩)] w fun e w' => (∃ v, e = .returned v ∧ ∃ g, v = .iface 79 (.pointer (some ⟨g, 0, none⟩)) ∧ w.heap.size ≤ g ∧ w'.heap[g]? = some (.cells (faultC opRestore nm x (errno n)).toArray 82 (0, 0))) ∧ Below w.heap.size w w' := by
  obtain ⟨W, hW⟩ : ∃ W, W = w.alloc (.cells (u8s x).toArray 29) := ⟨_, rfl⟩
  have hBW : Below w.heap.size w W := hW ▸ below_alloc (Below.refl _ _) _
  have hbx : rowOf W ⟨w.heap.size, 0, none⟩ 32 = some (u8s x) := (hW ▸ At.new w (u8s x) 29 : At W _ _).id hx
  have hc : W.cell? ⟨bb, 0, none⟩ = some (.string nm) := cell_of_one ((hBW.block _ (blk_lt hb)).trans hb)
  have hbb := fun u => bld69_four u opRestore nm x hx (errno n) rfl
  have HW := Aside0.mk hW
  have HBW := Aside0.mk hBW
  clear hW hBW hb
  unfold opRestore errno at hbb
  unfold idv errno
  go_enter Tryz.func36, Tryz.ntmps36
  go_upto_region 1 with (fail)
  rw [← HW.out]
  go_wp2
  go_ret
  exact ⟨⟨_, rfl, W.heap.size, rfl, HBW.out.size, heap_alloc_new W _⟩, HBW.out.trans ((below_alloc (Below.refl W.heap.size W) _).mono HBW.out.size)⟩
/-- What the restore of a cache that is nil answers. -/
theorem restore_nil (nm : ByteArray) (w : World) :
    Calls Tryz.prog 17 #[.pointer none, .string nm, .slice none 0 0, .int .i64 1] w fun e w' => (∃ v, e = .returned v ∧ ∃ g, v = .iface 79 (.pointer (some ⟨g, 0, none⟩)) ∧ w.heap.size ≤ g ∧ w'.heap[g]? = some (.cells (faultC opRestore nm z32 (errno 50)).toArray 82 (0, 0))) ∧ Below w.heap.size w w' := by
  obtain ⟨W, hW⟩ : ∃ W, W = w.alloc (.cells #[.string nm] 9) := ⟨_, rfl⟩
  have hBW : Below w.heap.size w W := hW ▸ below_alloc (Below.refl _ _) _
  have hc : W.heap[w.heap.size]? = some (.cells #[.string nm] 9 (0, 0)) := hW ▸ heap_alloc_new w _
  have HC := Aside0.mk hc
  have HW := Aside0.mk hW
  have HBW := Aside0.mk hBW
  have hmf : ∀ (fn : Fn) (first cap : Array Value) (w : World), (Instr.makeFunc fn first cap).run Tryz.prog w = .ok (.func fn first cap) w := fun _ _ _ _ => rfl
  clear hW hBW hc
  go_enter Tryz.func17, Tryz.ntmps17
  go_upto_region 1 with (fail)
  rw [← HW.out]
  go_wp2_with (first
    | (go_at_call 37; refine (disk_nil _).mono ?_; rintro e w1 ⟨rfl, hb1⟩; have HB1 := Aside0.mk hb1; clear hb1)
    | (go_at_call 38; refine (off_nil _).mono ?_; rintro e w2 ⟨rfl, hb2⟩; have HB2 := Aside0.mk (HB1.out.trans (hb2.mono HB1.out.size)); clear hb2)
    | (go_at_call 36; refine (clo66 z32 z32_ok 50 w.heap.size nm _ ((HB2.out.block _ (blk_lt HC.out)).trans HC.out)).mono ?_; rintro e w3 ⟨⟨v, rfl, hv⟩, hb3⟩; have HV := Aside0.mk hv; have HB3 := Aside0.mk (HB2.out.trans (hb3.mono HB2.out.size)); have HL := Aside0.mk HB2.out.size; clear hb3 hv)
    | go_in)
  go_ret
  refine ⟨⟨v, rfl, ?_⟩, HBW.out.trans (HB3.out.mono HBW.out.size)⟩
  obtain ⟨g, e, h1, h2⟩ := HV.out
  exact ⟨g, e, Nat.le_trans (Nat.le_trans HBW.out.size HL.out) h1, h2⟩
end Go.Proofs.YtdekmeanlcpenaaGreatDoor.Law

namespace Go.Proofs.YtdekmeanlcpenaaGreatDoor.Err
open Go.RowKit Go.Extern.Stop Go.Stop Go.Extern Go.Proofs.YtdekmeanlcpenaaGreatDoorW.PrintWords
set_option maxHeartbeats 4000000
set_option maxRecDepth 100000
theorem assignable8079 (w : World) : (ReflectliteType.relation "AssignableTo" ReflectliteType.assignableTo #[.agg #[.pointer (some ⟨4, 80, none⟩)], .iface 211 (.agg #[.pointer (some ⟨4, 79, none⟩)])]).run Tryz.prog w = .ok (.bool false) w := by kernel_rfl
theorem noAs80 (v : Value) (xT : TypeId) (w : World) : (Instr.typeAssert (.iface 80 v) xT 255 true).run Tryz.prog w = .ok (.tuple #[.nilIface, .bool false]) w := run_typeAssert_lacksB Tryz.underlying255 (by kernel_rfl) (by kernel_rfl) v xT w
theorem noUn80 (v : Value) (xT : TypeId) (w : World) : (Instr.typeAssert (.iface 80 v) xT 216 true).run Tryz.prog w = .ok (.tuple #[.nilIface, .bool false]) w := run_typeAssert_lacksB Tryz.underlying216 (by kernel_rfl) (by kernel_rfl) v xT w
theorem noUs80 (v : Value) (xT : TypeId) (w : World) : (Instr.typeAssert (.iface 80 v) xT 218 true).run Tryz.prog w = .ok (.tuple #[.nilIface, .bool false]) w := run_typeAssert_lacksB Tryz.underlying218 (by kernel_rfl) (by kernel_rfl) v xT w
/-- errors.as at a bare number, the target a fault's variable. -/
theorem asN106 (n : Int) (a t : Addr) (w : World) :
    Calls Tryz.prog 106 #[.iface 80 (.int .i64 n), .iface 126 (.pointer (some t)), .agg #[.pointer (some ⟨4, 126, none⟩), .pointer (some a), .int .u64 150], .iface 211 (.agg #[.pointer (some ⟨4, 79, none⟩)])] w
      fun e w' => e = .returned (.bool false) ∧ w' = w.alloc (.cells #[.pointer (some ⟨4, 126, none⟩), .pointer (some a), .int .u64 150] 192) := by
  have h64 := @run_callFunc_extern Tryz.prog 76 _ ReflectliteType.typeOf Tryz.func76 (by kernel_rfl) (by kernel_rfl) (by kernel_rfl) (by kernel_rfl)
  have h356 := @run_callFunc_extern Tryz.prog 358 _ (ReflectliteType.relation "AssignableTo" ReflectliteType.assignableTo) Tryz.func358 (by kernel_rfl) (by kernel_rfl) (by kernel_rfl) (by kernel_rfl)
  have tO7 := typeOf67
  have mA := methodAssignableTo
  have a1 := assignable8079
  have nA := noAs80
  have nU := noUn80
  have nV := noUs80
  go_enter Tryz.func106, Tryz.ntmps106
  go_wp2
  refine wp_loop_rounds 1 ?_
  rw [rounds_succ]
  go_wp2
  go_ret
  exact ⟨rfl, rfl⟩
theorem asN61 (n : Int) (t : Addr) (old : Value) (w : World) (hg : Handle w) (ht0 : w.cell? t = some old) :
    Calls Tryz.prog 61 #[.iface 80 (.int .i64 n), .iface 126 (.pointer (some t))] w
      fun e w' => e = .returned (.bool false) ∧ Below w.heap.size w w' := by
  have h85 := @run_callFunc_extern Tryz.prog 103 _ (fun args => ReflectliteValue.unpack (args.getD 0 (.tuple #[]))) Tryz.func103 (by kernel_rfl) (by kernel_rfl) (by kernel_rfl) (by kernel_rfl)
  have h86 := @run_callFunc_extern Tryz.prog 104 _ (ReflectliteValue.methodAny (ReflectliteValue.valueError "reflectlite.Value.Type" 0) (fun t _ _ _ => ReflectliteType.toType t)) Tryz.func104 (by kernel_rfl) (by kernel_rfl) (by kernel_rfl) (by kernel_rfl)
  have h87 := @run_callFunc_extern Tryz.prog 105 _ (ReflectliteValue.method (ReflectliteValue.valueError "reflectlite.Value.IsNil" 0) ReflectliteValue.isNil) Tryz.func105 (by kernel_rfl) (by kernel_rfl) (by kernel_rfl) (by kernel_rfl)
  have h345 := @run_callFunc_extern Tryz.prog 347 _ (ReflectliteType.abiMethod fun t => do pure (.int .u8 (← Rtype.kind t))) Tryz.func347 (by kernel_rfl) (by kernel_rfl) (by kernel_rfl) (by kernel_rfl)
  have h358 := @run_callFunc_extern Tryz.prog 360 _ (ReflectliteType.method ReflectliteType.elem) Tryz.func360 (by kernel_rfl) (by kernel_rfl) (by kernel_rfl) (by kernel_rfl)
  have h359 := @run_callFunc_extern Tryz.prog 361 _ (ReflectliteType.relation "Implements" ReflectliteType.implements_) Tryz.func361 (by kernel_rfl) (by kernel_rfl) (by kernel_rfl) (by kernel_rfl)
  have f6 := valueOf126
  have f7 := type126
  have mK := methodKind
  have mE := methodElem
  have mI := methodImplements
  have k1 := kind126
  have k2 := kind79
  have e1 := elem126
  have i1 := implements79
  have hlt : 0 < w.heap.size := lt_of_cell hg
  have htl := lt_of_cell ht0
  have n8 := isNil126 ⟨w.heap.size, 0, none⟩ t ((w.alloc (.cells #[.pointer (some t)] 126)).alloc (.cells #[.pointer (some ⟨4, 126, none⟩), .pointer (some ⟨w.heap.size, 0, none⟩), .int .u64 150] 192)) (by simp)
  have hg2 : ((w.alloc (.cells #[.pointer (some t)] 126)).alloc (.cells #[.pointer (some ⟨4, 126, none⟩), .pointer (some ⟨w.heap.size, 0, none⟩), .int .u64 150] 192)).cell? ⟨0, 0, none⟩ = some (.iface 211 (.agg #[.pointer (some ⟨4, 35, none⟩)])) := by
    rw [World.cell?_alloc_lt _ _ ⟨0, 0, none⟩ (by simp), World.cell?_alloc_lt _ _ ⟨0, 0, none⟩ hlt]; exact hg
  go_enter Tryz.func61, Tryz.ntmps61
  go_wp2_with (first
    | (go_at_call 106; refine (asN106 n ⟨w.heap.size, 0, none⟩ t _).mono ?_; rintro e w' ⟨rfl, rfl⟩)
    | go_in)
  go_ret
  exact ⟨rfl, below_alloc (below_alloc (below_alloc (Below.refl _ _) _) _) _⟩
end Go.Proofs.YtdekmeanlcpenaaGreatDoor.Err

namespace Go.Proofs.YtdekmeanlcpenaaGreatDoor.Law
open Go.RowKit Go.Proofs.YtdekmeanlcpenaaGreatDoorW.PrintWords Go.Proofs.YtdekmeanlcpenaaGreatDoor.Mid Go.Proofs.YtdekmeanlcpenaaGreatDoor.Pick Go.Proofs.YtdekmeanlcpenaaGreatDoor.Err Go.Proofs.YtdekmeanlcpenaaGreatDoor.Codec
attribute [local go_sem ↓ high] load33_eq load29_eq build69_eq build33_eq build29_eq
attribute [local simp] rowOf_drew rowOf_drewN
attribute [local go_sem high] load33_row load29_row rowOf_drew rowOf_drewN bld29_none
set_option maxHeartbeats 4000000
set_option maxRecDepth 100000
theorem name_nil (w : World) : Calls Tryz.prog 141 #[.pointer none] w fun e w' => e = .returned (.string ⟨#[]⟩) ∧ Below w.heap.size w w' := by
  go_enter Tryz.func141, Tryz.ntmps141
  go_wp2
  go_ret
  exact ⟨rfl, Below.refl _ _⟩
theorem bld82_s (w : World) (op nm : ByteArray) (err : Value) (he : err.cells = #[err]) : (bld 82 #[(0, .string op), (1, .string nm), (3, err)]).run Tryz.prog w = .ok (.agg (faultC op nm z32 err).toArray) w := by
  refine run_build69 w _ _ ?_
  have h1 := fill_part (place := (places69[·]?)) (i := 0) (off := 0) (sz := 1) (rest := [(1, .string nm), (3, err)]) rfl [] [.string .empty] ([.string .empty] ++ u8s z32 ++ [.nilIface]) [.string op] (.string op) rfl rfl rfl rfl
  have h0 := fill_part (place := (places69[·]?)) (i := 1) (off := 1) (sz := 1) (rest := [(3, err)]) rfl [.string op] [.string .empty] (u8s z32 ++ [.nilIface]) [.string nm] (.string nm) rfl rfl rfl rfl
  have h2 := fill_part (place := (places69[·]?)) (i := 3) (off := 34) (sz := 1) (rest := []) rfl ([.string op] ++ [.string nm] ++ u8s z32) [.nilIface] [] [err] err he (by simp [u8s_length, z32]) rfl rfl
  simp only [faultC, List.nil_append, List.append_nil, List.append_assoc, List.cons_append] at h1 h0 h2 ⊢
  rw [h1, h0, h2]
  rfl
/-- intake.refused of a bare number, without a cache. -/
theorem refused_nil (n : Int) (w : World) (hH : Handle w) : Calls Tryz.prog 93 #[.string ⟨#[105, 109, 112, 111, 114, 116]⟩, .pointer none, .iface 80 (.int .i64 n)] w fun e w' => ∃ g op, e = .returned (.iface 79 (.pointer (some ⟨g, 0, none⟩))) ∧ w'.heap[g]? = some (.cells (faultC op ⟨#[]⟩ z32 (errno n)).toArray 82 (0, 0)) ∧ Below w.heap.size w w' := by
  have hbb := fun u => bld82_s u (⟨#[105, 110, 116, 97, 107, 101, 46]⟩ ++ ⟨#[105, 109, 112, 111, 114, 116]⟩) ⟨#[]⟩ (errno n) rfl
  unfold errno at hbb
  have HHH := Aside0.mk hH
  clear hH
  go_enter Tryz.func93, Tryz.ntmps93
  go_wp2_with (first
    | (go_at_call 141; refine (name_nil _).mono ?_; rintro e w1 ⟨rfl, hb1⟩; have HB1 := Aside0.mk hb1; clear hb1)
    | (go_at_call 61; refine (asN61 n _ (.pointer none) _ (handle_below HHH.out (below_alloc (below_alloc HB1.out _) _)) (by simp)).mono ?_; rintro e w2 ⟨rfl, hb2⟩; have HB2 := Aside0.mk hb2; clear hb2)
    | go_in)
  go_ret
  exact ⟨_, _, rfl, blk_below (blk_below (heap_alloc_new w1 _) (below_alloc (Below.refl _ _) _)) HB2.out, below_step (below_alloc (below_alloc HB1.out _) _) HB2.out⟩
theorem policy_yes (w : World) : Calls Tryz.prog 134 #[.int .i64 1] w fun e w' => e = .returned (.bool true) ∧ w = w' := by
  go_enter Tryz.func134, Tryz.ntmps134
  go_wp2
  go_ret
  exact ⟨rfl, rfl⟩
theorem policy_no (w : World) : Calls Tryz.prog 134 #[.int .i64 0] w fun e w' => e = .returned (.bool false) ∧ w = w' := by
  go_enter Tryz.func134, Tryz.ntmps134
  go_wp2
  go_ret
  exact ⟨rfl, rfl⟩
theorem may_nil (w : World) : Calls Tryz.prog 136 #[.pointer none] w fun e w' => e = .returned (.iface 80 (.int .i64 50)) ∧ Below w.heap.size w w' := by
  go_enter Tryz.func136, Tryz.ntmps136
  go_wp2_with (first
    | (go_at_call 37; refine (disk_nil _).mono ?_; rintro e w1 ⟨rfl, hb1⟩; have HB1 := Aside0.mk hb1; clear hb1)
    | (go_at_call 38; refine (off_nil _).mono ?_; rintro e w2 ⟨rfl, hb2⟩; have HB2 := Aside0.mk (below_step HB1.out hb2); clear hb2)
    | go_in)
  go_ret
  exact ⟨rfl, HB2.out⟩
theorem fx_ok : NameOk nameF := ⟨by decide, by decide, fun i c h => by
  have h1 : c ∈ ([102, 46, 120] : List UInt8) := List.mem_of_getElem? h
  simp only [List.mem_cons, List.not_mem_nil, or_false] at h1
  rcases h1 with rfl | rfl | rfl <;> decide⟩
theorem empty_no : ¬ NameOk ⟨#[]⟩ := fun h => absurd h.pos (by decide)
theorem take_50 (w : World) : Calls Tryz.prog 107 #[.pointer none, .string ⟨#[102, 46, 120]⟩, .int .i64 1] w fun e w' => e = .returned (.iface 80 (.int .i64 50)) ∧ Below w.heap.size w w' := by
  go_enter Tryz.func107, Tryz.ntmps107
  go_wp2_with (first
    | (go_at_call 134; refine (policy_yes _).mono ?_; rintro e w1 ⟨rfl, rfl⟩)
    | (go_at_call 94; refine (isName_yes _ _ fx_ok).mono ?_; rintro e w2 ⟨rfl, rfl⟩)
    | (go_at_call 136; refine (may_nil _).mono ?_; rintro e w3 ⟨rfl, hb⟩; have HB := Aside0.mk hb; clear hb)
    | go_in)
  go_ret
  exact ⟨rfl, HB.out⟩
theorem take_51 (w : World) : Calls Tryz.prog 107 #[.pointer none, .string ⟨#[]⟩, .int .i64 1] w fun e w' => e = .returned (.iface 80 (.int .i64 51)) ∧ Below w.heap.size w w' := by
  go_enter Tryz.func107, Tryz.ntmps107
  go_wp2_with (first
    | (go_at_call 134; refine (policy_yes _).mono ?_; rintro e w1 ⟨rfl, rfl⟩)
    | (go_at_call 94; refine (isName_no _ _ empty_no).mono ?_; rintro e w2 ⟨rfl, rfl⟩)
    | go_in)
  go_ret
  exact ⟨rfl, Below.refl _ _⟩
theorem take_1 (w : World) : Calls Tryz.prog 107 #[.pointer none, .string ⟨#[]⟩, .int .i64 0] w fun e w' => e = .returned (.iface 80 (.int .i64 1)) ∧ Below w.heap.size w w' := by
  go_enter Tryz.func107, Tryz.ntmps107
  go_wp2_with (first
    | (go_at_call 134; refine (policy_no _).mono ?_; rintro e w1 ⟨rfl, rfl⟩)
    | go_in)
  go_ret
  exact ⟨rfl, Below.refl _ _⟩
theorem import_50 (w : World) (hH : Handle w) : Calls Tryz.prog 64 #[.pointer none, .string ⟨#[102, 46, 120]⟩, .int .i64 1] w fun e w' => ∃ g op, e = .returned (.iface 79 (.pointer (some ⟨g, 0, none⟩))) ∧ w'.heap[g]? = some (.cells (faultC op ⟨#[]⟩ z32 (errno 50)).toArray 82 (0, 0)) ∧ Below w.heap.size w w' := by
  have HHH := Aside0.mk hH
  clear hH
  go_enter Tryz.func64, Tryz.ntmps64
  go_wp2_with (first
    | (go_at_call 107; refine (take_50 _).mono ?_; rintro e w1 ⟨rfl, hb⟩; have HB := Aside0.mk hb; clear hb)
    | (go_at_call 93; refine (refused_nil 50 _ (handle_below HHH.out HB.out)).mono ?_; rintro e w2 ⟨g, op, rfl, hg, hb⟩; have HB2 := Aside0.mk (And.intro hg (below_step HB.out hb)); clear hb hg)
    | go_in)
  go_ret
  exact ⟨g, op, rfl, HB2.out.1, HB2.out.2⟩
theorem import_51 (w : World) (hH : Handle w) : Calls Tryz.prog 64 #[.pointer none, .string ⟨#[]⟩, .int .i64 1] w fun e w' => ∃ g op, e = .returned (.iface 79 (.pointer (some ⟨g, 0, none⟩))) ∧ w'.heap[g]? = some (.cells (faultC op ⟨#[]⟩ z32 (errno 51)).toArray 82 (0, 0)) ∧ Below w.heap.size w w' := by
  have HHH := Aside0.mk hH
  clear hH
  go_enter Tryz.func64, Tryz.ntmps64
  go_wp2_with (first
    | (go_at_call 107; refine (take_51 _).mono ?_; rintro e w1 ⟨rfl, hb⟩; have HB := Aside0.mk hb; clear hb)
    | (go_at_call 93; refine (refused_nil 51 _ (handle_below HHH.out HB.out)).mono ?_; rintro e w2 ⟨g, op, rfl, hg, hb⟩; have HB2 := Aside0.mk (And.intro hg (below_step HB.out hb)); clear hb hg)
    | go_in)
  go_ret
  exact ⟨g, op, rfl, HB2.out.1, HB2.out.2⟩
theorem import_1 (w : World) (hH : Handle w) : Calls Tryz.prog 64 #[.pointer none, .string ⟨#[]⟩, .int .i64 0] w fun e w' => ∃ g op, e = .returned (.iface 79 (.pointer (some ⟨g, 0, none⟩))) ∧ w'.heap[g]? = some (.cells (faultC op ⟨#[]⟩ z32 (errno 1)).toArray 82 (0, 0)) ∧ Below w.heap.size w w' := by
  have HHH := Aside0.mk hH
  clear hH
  go_enter Tryz.func64, Tryz.ntmps64
  go_wp2_with (first
    | (go_at_call 107; refine (take_1 _).mono ?_; rintro e w1 ⟨rfl, hb⟩; have HB := Aside0.mk hb; clear hb)
    | (go_at_call 93; refine (refused_nil 1 _ (handle_below HHH.out HB.out)).mono ?_; rintro e w2 ⟨g, op, rfl, hg, hb⟩; have HB2 := Aside0.mk (And.intro hg (below_step HB.out hb)); clear hb hg)
    | go_in)
  go_ret
  exact ⟨g, op, rfl, HB2.out.1, HB2.out.2⟩
end Go.Proofs.YtdekmeanlcpenaaGreatDoor.Law

namespace Go.Proofs.YtdekmeanlcpenaaGreatDoor.Law
open Go.RowKit Go.Proofs.YtdekmeanlcpenaaGreatDoorW.PrintWords Go.Proofs.YtdekmeanlcpenaaGreatDoor.Mid Go.Proofs.YtdekmeanlcpenaaGreatDoor.Pick Go.Proofs.YtdekmeanlcpenaaGreatDoor.Err Go.Proofs.YtdekmeanlcpenaaGreatDoor.Codec Go.Proofs.YtdekmeanlcpenaaGreatDoor.Block
attribute [local go_sem ↓ high] load33_eq load29_eq load60_eq build69_eq build29_eq
attribute [local simp] rowOf_drew rowOf_drewN
attribute [local go_sem high] load33_row load29_row load60_row rowOf_drew rowOf_drewN bld29_none
set_option maxHeartbeats 8000000
set_option maxRecDepth 100000
set_option linter.unusedVariables false
/-- No journal. -/
def j0 : Jn := ⟨⟨#[]⟩, 0, 0, [], [], []⟩
/-- A small one. -/
def j7 : Jn := ⟨nameF, 0, 7, [], [], []⟩
theorem tab_nil : Table [] := ⟨by decide, fun _ h => (by cases h), fun i r s h _ => (by simp at h)⟩
theorem j0_no : ¬ JnV j0 := fun V => absurd V.name.pos (by decide)
theorem j7_yes : JnV j7 := ⟨fx_ok, by decide, by decide, tab_nil, tab_nil, by decide, fun i x y h _ => (by simp [j7] at h)⟩
theorem j7_ok : JnOk j7 := ⟨fun _ h => (by cases h), fun _ h => (by cases h), fun _ h => (by cases h)⟩
theorem j7_len : (encW j7).length = 22 := by
  have h1 : sBytes nameF = [102, 46, 120] := by decide
  have h0 : tabW [] = [0] := by rw [tabW, List.length_nil, numW_small (by decide)]; rfl
  have e : encW j7 = (fixW 74 1 ++ (txtW (sBytes nameF) ++ (fixW 0 4 ++ (fixW 7 4 ++ (txtW (tabW []) ++ (numW 0 ++ ([] ++ txtW (tabW [])))))))) ++ fixW (sumS (bodyW j7)) 4 := rfl
  rw [e, h1, h0]
  simp only [List.length_append, fixW_length, txtW, List.length_cons, List.length_nil]
  rw [numW_small (v := 0 + 1 + 1 + 1) (by decide), numW_small (v := 0 + 1) (by decide), numW_small (v := 0) (by decide)]
  rfl
theorem j7_head : rd (encW j7) 0 = 74 := by rfl
theorem enc_pos (j : Jn) : 0 < (encW j).length := by simp only [encW, bodyW, List.length_append, fixW_length]; omega
theorem enc_ne_nil (j : Jn) : encW j ≠ [] := fun h => by have := enc_pos j; rw [h] at this; simp at this
theorem jat0 (w : World) (j : Jn) (h1 : j.res = []) (h2 : j.need = []) (h3 : j.tab = []) : JAt w j none 0 none 0 none 0 :=
  ⟨⟨by rw [h1]; exact fun _ h => (by cases h), by rw [h2]; exact fun _ h => (by cases h), by rw [h3]; exact fun _ h => (by cases h)⟩, by rw [h1]; exact Kd.C_nil _ _, by rw [h1]; exact Nat.le_refl _, by rw [h2]; exact Kd.C_nil _ _, by rw [h2]; exact Nat.le_refl _, by rw [h3]; exact Kd.C_nil _ _, by rw [h3]; exact Nat.le_refl _⟩
theorem dec_nil (w : World) : Calls Tryz.prog 26 #[.slice none 0 0] w fun e w' => ∃ g, e = .returned (.tuple #[.agg #[.string ⟨#[]⟩, .int .i64 0, .int .i64 0, .slice none 0 0, .slice none 0 0, .slice none 0 0], .iface 79 (.pointer (some ⟨g, 0, none⟩))]) ∧ w'.heap[g]? = some (.cells (faultC opDec .empty z32 (errno 161)).toArray 82 (0, 0)) ∧ Below w.heap.size w w' :=
  (dec_no w none 0 [] (Kd.C_nil _ _) (fun _ h => (by cases h)) (by decide) (by decide) (fun j _ _ => enc_ne_nil j)).mono fun e w' ⟨g, h1, _, h3, h4⟩ => ⟨g, h1, h3, h4⟩
theorem enc_zero (w : World) : Calls Tryz.prog 19 #[.agg #[.string ⟨#[]⟩, .int .i64 0, .int .i64 0, .slice none 0 0, .slice none 0 0, .slice none 0 0]] w fun e w' => ∃ g, e = .returned (.tuple #[.slice none 0 0, .iface 79 (.pointer (some ⟨g, 0, none⟩))]) ∧ w'.heap[g]? = some (.cells (faultC opEnc .empty z32 (errno 161)).toArray 82 (0, 0)) ∧ Below w.heap.size w w' :=
  (enc_no j0 none 0 none 0 none 0 w (jat0 w j0 rfl rfl rfl) j0_no).mono fun e w' ⟨⟨g, h1, _, h3⟩, h4⟩ => ⟨g, h1, h3, h4⟩
theorem enc_fx (w : World) : Calls Tryz.prog 19 #[.agg #[.string ⟨#[102, 46, 120]⟩, .int .i64 0, .int .i64 7, .slice none 0 0, .slice none 0 0, .slice none 0 0]] w fun e w' => ∃ a k, e = .returned (.tuple #[.slice (some a) 22 k, .nilIface]) ∧ Kd.C (Kd.int .u8) w' (some a) (encW j7).length (encW j7) ∧ (encW j7).length ≤ k ∧ w'.cell? a = some (.int .u8 74) ∧ Below w.heap.size w w' :=
  (enc_yes j7 none 0 none 0 none 0 w (jat0 w j7 rfl rfl rfl) j7_yes).mono fun e w' ⟨A, k, h1, h2, h3⟩ => by
    have h4 := Kd.R_reads' h2
    obtain ⟨ad, e0, hx⟩ := Kd.at_int h4.2.2 0 (by decide) (by rw [j7_len]; decide)
    subst e0
    rw [j7_head] at hx
    refine ⟨ad, k, ?_, h4.2.2, h4.2.1, ?_, h3⟩
    · rw [h1, j7_len]
    · rw [← hx]
      congr 1
theorem dec_fx (w : World) (a : Addr) (k : Nat) (hC : Kd.C (Kd.int .u8) w (some a) (encW j7).length (encW j7)) (hk : (encW j7).length ≤ k) : Calls Tryz.prog 26 #[.slice (some a) 22 k] w fun e w' => ∃ A1 c1 A2 c2 A3 c3, e = .returned (.tuple #[.agg #[.string ⟨#[102, 46, 120]⟩, .int .i64 0, .int .i64 7, .slice A1 0 c1, .slice A2 0 c2, .slice A3 0 c3], .nilIface]) ∧ Below w.heap.size w w' := by
  have h := dec_yes w (some a) k (encW j7) hC (enc_byt j7_yes j7_ok) (by rw [j7_len]; decide) hk j7 j7_yes j7_ok rfl
  rw [j7_len] at h
  exact h.mono fun e w' ⟨A1, c1, A2, c2, A3, c3, h1, _, _, _, h5⟩ => ⟨A1, c1, A2, c2, A3, c3, h1, h5⟩
end Go.Proofs.YtdekmeanlcpenaaGreatDoor.Law

namespace Go.Proofs.YtdekmeanlcpenaaGreatDoor.Law
open Go.RowKit Go.Proofs.YtdekmeanlcpenaaGreatDoorW.PrintWords Go.Proofs.YtdekmeanlcpenaaGreatDoor.Mid Go.Proofs.YtdekmeanlcpenaaGreatDoor.Pick Go.Proofs.YtdekmeanlcpenaaGreatDoor.Err Go.Proofs.YtdekmeanlcpenaaGreatDoor.Codec Go.Proofs.YtdekmeanlcpenaaGreatDoor.Block
attribute [local go_sem ↓ high] load33_eq load29_eq load60_eq build69_eq build29_eq
attribute [local simp] rowOf_drew rowOf_drewN
attribute [local go_sem high] load33_row load29_row load60_row rowOf_drew rowOf_drewN bld29_none
set_option maxHeartbeats 8000000
set_option maxRecDepth 100000
set_option linter.unusedVariables false
theorem awake_any (w : World) (hH : Handle w) : Calls Tryz.prog 25 #[] w fun e w' => e = .returned (.bool true) ∧ Below w.heap.size w w' := by
  have HH := Aside0.mk hH
  have hb60 : ∀ u : World, (Instr.build 60 #[]).run Tryz.prog u = .ok (.agg #[.string ⟨#[]⟩, .int .i64 0, .int .i64 0, .slice none 0 0, .slice none 0 0, .slice none 0 0]) u := fun u => by kernel_rfl
  have hb61 : ∀ u : World, (Instr.build 60 #[(0, .string ⟨#[102, 46, 120]⟩), (2, .int .i64 7)]).run Tryz.prog u = .ok (.agg #[.string ⟨#[102, 46, 120]⟩, .int .i64 0, .int .i64 7, .slice none 0 0, .slice none 0 0, .slice none 0 0]) u := fun u => by kernel_rfl
  clear hH
  go_enter Tryz.func25, Tryz.ntmps25
  go_upto_region 2 with (first
    | (go_at_call 26; refine (dec_nil _).mono ?_; rintro e w1 ⟨g1, rfl, hf1, hb⟩; have HF1 := Aside0.mk hf1; have HB1 := Aside0.mk hb; clear hb hf1)
    | go_in)
  obtain ⟨x1, hx1⟩ : ∃ x1, (w1.alloc (.cells #[.string ⟨#[]⟩, .int .i64 0, .int .i64 0, .slice none 0 0, .slice none 0 0, .slice none 0 0] 60)) = x1 := ⟨_, rfl⟩
  have hb1 : Below w1.heap.size w1 x1 := hx1 ▸ below_alloc (Below.refl _ _) _
  have X1 : Aside0 (x1.heap[g1]? = some (.cells (faultC opDec ⟨#[]⟩ z32 (errno 161)).toArray 82 (0, 0)) ∧ Below w.heap.size w x1) := ⟨blk_below HF1.out hb1, below_step HB1.out hb1⟩
  rw [hx1]
  clear hx1 hb1 HF1 HB1
  go_upto_region 5 with (first
    | (go_at_call 19; (with_reducible refine (enc_zero _).mono ?_); rintro e w2 ⟨g2, rfl, hf2, hb⟩
       have X2 : Aside0 (w2.heap[g1]? = some (.cells (faultC opDec ⟨#[]⟩ z32 (errno 161)).toArray 82 (0, 0)) ∧ w2.heap[g2]? = some (.cells (faultC opEnc ⟨#[]⟩ z32 (errno 161)).toArray 82 (0, 0)) ∧ Below w.heap.size w w2) := ⟨blk_below X1.out.1 hb, hf2, below_step X1.out.2 hb⟩
       clear hf2 hb)
    | (go_at_call 19; (with_reducible refine (enc_fx _).mono ?_); rintro e w3 ⟨a, k, rfl, hc, hk, ha, hb⟩
       have X3 : Aside0 (w3.heap[g1]? = some (.cells (faultC opDec ⟨#[]⟩ z32 (errno 161)).toArray 82 (0, 0)) ∧ w3.heap[g2]? = some (.cells (faultC opEnc ⟨#[]⟩ z32 (errno 161)).toArray 82 (0, 0)) ∧ Below w.heap.size w w3 ∧ Kd.C (Kd.int .u8) w3 (some a) (encW j7).length (encW j7) ∧ (encW j7).length ≤ k ∧ w3.cell? a = some (.int .u8 74)) := ⟨blk_below X2.out.1 hb, blk_below X2.out.2.1 hb, below_step X2.out.2.2 hb, hc, hk, ha⟩
       clear hc hk ha hb)
    | (go_at_call 26; refine (dec_fx _ a k X3.out.2.2.2.1 X3.out.2.2.2.2.1).mono ?_; rintro e w4 ⟨A1, c1, A2, c2, A3, c3, rfl, hb⟩
       have X4 : Aside0 (w4.heap[g1]? = some (.cells (faultC opDec ⟨#[]⟩ z32 (errno 161)).toArray 82 (0, 0)) ∧ w4.heap[g2]? = some (.cells (faultC opEnc ⟨#[]⟩ z32 (errno 161)).toArray 82 (0, 0)) ∧ Below w.heap.size w w4 ∧ w4.cell? a = some (.int .u8 74)) := ⟨blk_below X3.out.1 hb, blk_below X3.out.2.1 hb, below_step X3.out.2.2.1 hb, pw_cell_below hb X3.out.2.2.2.2.2⟩
       clear hb)
    | go_in)
  obtain ⟨x4, hx4⟩ : ∃ x4, (w4.alloc (.cells #[.string ⟨#[102, 46, 120]⟩, .int .i64 0, .int .i64 7, .slice A1 0 c1, .slice A2 0 c2, .slice A3 0 c3] 60)) = x4 := ⟨_, rfl⟩
  obtain ⟨q4, hq4⟩ : ∃ q4, w4.heap.size = q4 := ⟨_, rfl⟩
  have hb4 : Below w4.heap.size w4 x4 := hx4 ▸ below_alloc (Below.refl _ _) _
  have B4 : Aside0 (x4.heap[q4]? = some (.cells [.string ⟨#[102, 46, 120]⟩, .int .i64 0, .int .i64 7, .slice A1 0 c1, .slice A2 0 c2, .slice A3 0 c3].toArray 60 (0, 0))) := ⟨by rw [← hx4, ← hq4]; exact heap_alloc_new w4 _⟩
  have X5 : Aside0 (x4.heap[g1]? = some (.cells (faultC opDec ⟨#[]⟩ z32 (errno 161)).toArray 82 (0, 0)) ∧ x4.heap[g2]? = some (.cells (faultC opEnc ⟨#[]⟩ z32 (errno 161)).toArray 82 (0, 0)) ∧ Below w.heap.size w x4 ∧ x4.cell? a = some (.int .u8 74)) := ⟨blk_below X4.out.1 hb4, blk_below X4.out.2.1 hb4, below_step X4.out.2.2.1 hb4, pw_cell_below hb4 X4.out.2.2.2⟩
  rw [hx4, hq4]
  have hs1 := fun u => says_some opDec ⟨#[]⟩ z32 161 (by decide) z32_ok g1 u
  have hs2 := fun u => says_some opEnc ⟨#[]⟩ z32 161 (by decide) z32_ok g2 u
  have HS1 : Aside0 (∀ u, Handle u → u.heap[g1]? = some (.cells (faultC opDec ⟨#[]⟩ z32 (errno 161)).toArray 82 (0, 0)) → Calls Tryz.prog 21 #[.iface 79 (.pointer (some ⟨g1, 0, none⟩)), .string ⟨#[105, 110, 116, 97, 107, 101, 46, 100, 101, 99, 111, 100, 101]⟩, .string ⟨#[]⟩, .int .i64 161, .agg (u8s z32).toArray] u fun e w' => e = .returned (.bool true) ∧ Below u.heap.size u w') := ⟨hs1⟩
  have HS2 : Aside0 (∀ u, Handle u → u.heap[g2]? = some (.cells (faultC opEnc ⟨#[]⟩ z32 (errno 161)).toArray 82 (0, 0)) → Calls Tryz.prog 21 #[.iface 79 (.pointer (some ⟨g2, 0, none⟩)), .string ⟨#[105, 110, 116, 97, 107, 101, 46, 101, 110, 99, 111, 100, 101]⟩, .string ⟨#[]⟩, .int .i64 161, .agg (u8s z32).toArray] u fun e w' => e = .returned (.bool true) ∧ Below u.heap.size u w') := ⟨hs2⟩
  clear hx4 hq4 hb4 X1 X2 X3 X4 hs1 hs2
  go_upto_region 7 with (first
    | (go_at_call 21; (with_reducible refine (HS1.out _ (handle_below HH.out X5.out.2.2.1) X5.out.1).mono ?_); rintro e w5 ⟨rfl, hb⟩
       have X6 : Aside0 (w5.heap[g2]? = some (.cells (faultC opEnc ⟨#[]⟩ z32 (errno 161)).toArray 82 (0, 0)) ∧ Below w.heap.size w w5 ∧ w5.cell? a = some (.int .u8 74) ∧ w5.heap[q4]? = some (.cells [.string ⟨#[102, 46, 120]⟩, .int .i64 0, .int .i64 7, .slice A1 0 c1, .slice A2 0 c2, .slice A3 0 c3].toArray 60 (0, 0))) := ⟨blk_below X5.out.2.1 hb, below_step X5.out.2.2.1 hb, pw_cell_below hb X5.out.2.2.2, blk_below B4.out hb⟩
       clear hb)
    | (go_at_call 21; (with_reducible refine (HS2.out _ (handle_below HH.out X6.out.2.1) X6.out.1).mono ?_); rintro e w6 ⟨rfl, hb⟩
       have X7 : Aside0 (Below w.heap.size w w6 ∧ w6.cell? a = some (.int .u8 74) ∧ w6.heap[q4]? = some (.cells [.string ⟨#[102, 46, 120]⟩, .int .i64 0, .int .i64 7, .slice A1 0 c1, .slice A2 0 c2, .slice A3 0 c3].toArray 60 (0, 0))) := ⟨below_step X6.out.2.1 hb, pw_cell_below hb X6.out.2.2.1, blk_below X6.out.2.2.2 hb⟩
       clear hb)
    | go_in)
  have k0 : w6.cell? ⟨q4, 0, none⟩ = some (.string ⟨#[102, 46, 120]⟩) := (blk_cell X7.out.2.2 _).trans rfl
  have k2 : w6.cell? ⟨q4, 2, none⟩ = some (.int .i64 7) := (blk_cell X7.out.2.2 _).trans rfl
  have ka := X7.out.2.1
  go_wp2_with (first
    | (go_at_call 64; (with_reducible refine (import_50 _ (handle_below HH.out X7.out.1)).mono ?_); rintro e w7 ⟨g7, o7, rfl, hf, hb⟩; have X8 := Aside0.mk (And.intro hf (below_step X7.out.1 hb)); clear hf hb)
    | (have hcc : w7.cell? ⟨g7, 34, none⟩ = some (.iface 80 (.int .i64 50)) := (fault_cells z32_ok X8.out.1).2.2.2
       go_at_call 34; (with_reducible refine (code_any g7 50 _ (handle_below HH.out X8.out.2) hcc).mono ?_); clear hcc; rintro e w8 ⟨rfl, hb⟩; have X9 := Aside0.mk (below_step X8.out.2 hb); clear hb)
    | (go_at_call 64; (with_reducible refine (import_51 _ (handle_below HH.out X9.out)).mono ?_); rintro e w9 ⟨g9, o9, rfl, hf, hb⟩; have Y1 := Aside0.mk (And.intro hf (below_step X9.out hb)); clear hf hb)
    | (have hcc : w9.cell? ⟨g9, 34, none⟩ = some (.iface 80 (.int .i64 51)) := (fault_cells z32_ok Y1.out.1).2.2.2
       go_at_call 34; (with_reducible refine (code_any g9 51 _ (handle_below HH.out Y1.out.2) hcc).mono ?_); clear hcc; rintro e w10 ⟨rfl, hb⟩; have Y2 := Aside0.mk (below_step Y1.out.2 hb); clear hb)
    | (go_at_call 64; (with_reducible refine (import_1 _ (handle_below HH.out Y2.out)).mono ?_); rintro e w11 ⟨g11, o11, rfl, hf, hb⟩; have Y3 := Aside0.mk (And.intro hf (below_step Y2.out hb)); clear hf hb)
    | (have hcc : w11.cell? ⟨g11, 34, none⟩ = some (.iface 80 (.int .i64 1)) := (fault_cells z32_ok Y3.out.1).2.2.2
       go_at_call 34; (with_reducible refine (code_any g11 1 _ (handle_below HH.out Y3.out.2) hcc).mono ?_); clear hcc; rintro e w12 ⟨rfl, hb⟩; have Y4 := Aside0.mk (below_step Y3.out.2 hb); clear hb)
    | go_in)
  go_ret
  exact ⟨rfl, Y4.out⟩
end Go.Proofs.YtdekmeanlcpenaaGreatDoor.Law

namespace Go.Proofs.YtdekmeanlcpenaaGreatDoor.Law
open Go.RowKit Go.Proofs.YtdekmeanlcpenaaGreatDoorW.PrintWords Go.Proofs.YtdekmeanlcpenaaGreatDoorW.PrintLast Go.Proofs.YtdekmeanlcpenaaGreatDoorW.PrintMore Go.Proofs.YtdekmeanlcpenaaGreatDoor.Mid Go.Proofs.YtdekmeanlcpenaaGreatDoor.Codec
attribute [local go_sem ↓ high] load33_eq load29_eq
attribute [local simp] rowOf_drew rowOf_drewN
attribute [local go_sem high] load33_row load29_row rowOf_drew rowOf_drewN
set_option maxHeartbeats 4000000
set_option maxRecDepth 100000
theorem results_true (A0 : Option Addr) (c0 : Nat) (A1 : Option Addr) (c1 : Nat) (rs : List Res) (w : World) (h0 : resK.C w A0 rs.length rs) (h1 : resK.C w A1 rs.length rs) (hl : rs.length ≤ 140737488355328) :
    Calls Tryz.prog 62 #[.slice A0 rs.length c0, .slice A1 rs.length c1] w fun e w' => e = .returned (.bool true) ∧ Below w.heap.size w w' := by
  have H0 := Aside0.mk h0
  have H1 := Aside0.mk h1
  clear h0 h1
  go_enter Tryz.func62, Tryz.ntmps62
  go_wp2
  go_loopg [5] rs.length (fun k v5 w' => ∃ i : Nat, v5 = .int .i64 i ∧ i + k = rs.length ∧ Aside0 (Drawn0 w w'))
  case atStart => exact ⟨0, rfl, by omega, ⟨Drawn0.refl _⟩⟩
  case round =>
    obtain ⟨i, rfl, hik, HD⟩ := hrel
    cases gk with
    | zero =>
      have hd : decide (i < rs.length) = false := by simp; omega
      clear hik
      go_wp2
      go_ret
      exact ⟨rfl, HD.out.below⟩
    | succ k =>
      have hi : i < rs.length := by omega
      have hi1 : (i : Int) < (rs.length : Int) := by omega
      obtain ⟨ad, r, e0, hr, ho, hat⟩ := res_at (Kd.C_below H0.out HD.out.below) i hi
      subst e0
      obtain ⟨ad1, r1, e1, hr1, ho1, hat1⟩ := res_at (Kd.C_below H1.out HD.out.below) i hi
      subst e1
      have e : r1 = r := by rw [hr] at hr1; exact (Option.some.inj hr1).symm
      subst e
      have g1 := hat.res ho
      have g2 := hat1.res ho1
      have heq : ∀ u, (Op.equalIn 10000 33 (.agg (resC r1).toArray) (.agg (resC r1).toArray)).run Tryz.prog u = .ok true u := fun u => by rw [eqI33 u _ _ ho1 ho1, decide_eq_true rfl]
      clear hr hr1 ho ho1 hat hat1
      go_wp2
      go_quiet (fail)
      go_wp2
      go_roundg k
      case measure => omega
      case rel => exact ⟨i + 1, by go_num, by omega, ⟨HD.out.step _⟩⟩
theorem ids_true (A0 : Option Addr) (c0 : Nat) (A1 : Option Addr) (c1 : Nat) (rs : List (List Int)) (w : World) (h0 : idK.C w A0 rs.length rs) (h1 : idK.C w A1 rs.length rs) (hl : rs.length ≤ 140737488355328) :
    Calls Tryz.prog 63 #[.slice A0 rs.length c0, .slice A1 rs.length c1] w fun e w' => e = .returned (.bool true) ∧ Below w.heap.size w w' := by
  have H0 := Aside0.mk h0
  have H1 := Aside0.mk h1
  clear h0 h1
  go_enter Tryz.func63, Tryz.ntmps63
  go_wp2
  go_loopg [5] rs.length (fun k v5 w' => ∃ i : Nat, v5 = .int .i64 i ∧ i + k = rs.length ∧ Aside0 (Drawn0 w w'))
  case atStart => exact ⟨0, rfl, by omega, ⟨Drawn0.refl _⟩⟩
  case round =>
    obtain ⟨i, rfl, hik, HD⟩ := hrel
    cases gk with
    | zero =>
      have hd : decide (i < rs.length) = false := by simp; omega
      clear hik
      go_wp2
      go_ret
      exact ⟨rfl, HD.out.below⟩
    | succ k =>
      have hi : i < rs.length := by omega
      have hi1 : (i : Int) < (rs.length : Int) := by omega
      obtain ⟨ad, r, e0, hr, ho, hat⟩ := id_at (Kd.C_below H0.out HD.out.below) i hi
      subst e0
      obtain ⟨ad1, r1, e1, hr1, ho1, hat1⟩ := id_at (Kd.C_below H1.out HD.out.below) i hi
      subst e1
      have e : r1 = r := by rw [hr] at hr1; exact (Option.some.inj hr1).symm
      subst e
      have g1 := hat.id ho
      have g2 := hat1.id ho1
      have heq : ∀ u, (Op.equalIn 10000 29 (.agg (u8s r1).toArray) (.agg (u8s r1).toArray)).run Tryz.prog u = .ok true u := fun u => by rw [eqI29 u _ _ ho1 ho1, decide_eq_true rfl]
      clear hr hr1 ho ho1 hat hat1
      go_wp2
      go_quiet (fail)
      go_wp2
      go_roundg k
      case measure => omega
      case rel => exact ⟨i + 1, by go_num, by omega, ⟨HD.out.step _⟩⟩
theorem same_true (A0 : Option Addr) (c0 : Nat) (A1 : Option Addr) (c1 : Nat) (rs : List Int) (w : World) (h0 : (Kd.int .u8).C w A0 rs.length rs) (h1 : (Kd.int .u8).C w A1 rs.length rs) (hl : rs.length ≤ 140737488355328) :
    Calls Tryz.prog 22 #[.slice A0 rs.length c0, .slice A1 rs.length c1] w fun e w' => e = .returned (.bool true) ∧ Below w.heap.size w w' := by
  have H0 := Aside0.mk h0
  have H1 := Aside0.mk h1
  clear h0 h1
  go_enter Tryz.func22, Tryz.ntmps22
  go_wp2
  go_loopg [5] rs.length (fun k v5 w' => ∃ i : Nat, v5 = .int .i64 i ∧ i + k = rs.length ∧ Aside0 (Drawn0 w w'))
  case atStart => exact ⟨0, rfl, by omega, ⟨Drawn0.refl _⟩⟩
  case round =>
    obtain ⟨i, rfl, hik, HD⟩ := hrel
    cases gk with
    | zero =>
      have hd : decide (i < rs.length) = false := by simp; omega
      clear hik
      go_wp2
      go_ret
      exact ⟨rfl, HD.out.below⟩
    | succ k =>
      have hi : i < rs.length := by omega
      have hi1 : (i : Int) < (rs.length : Int) := by omega
      obtain ⟨ad, e0, hx⟩ := Kd.at_int (Kd.C_below H0.out HD.out.below) (i : Int) (by omega) (by omega)
      cases e0
      obtain ⟨ad1, e1, hy⟩ := Kd.at_int (Kd.C_below H1.out HD.out.below) (i : Int) (by omega) (by omega)
      cases e1
      simp only [Int.toNat_natCast] at hx hy
      generalize rd rs (i : Int) = x at hx hy
      go_wp2
      go_quiet (fail)
      go_wp2
      go_roundg k
      case measure => omega
      case rel => exact ⟨i + 1, by go_num, by omega, ⟨HD.out.step _⟩⟩
theorem journals_true (j : Jn) (A1 : Option Addr) (c1 : Nat) (A2 : Option Addr) (c2 : Nat) (A3 : Option Addr) (c3 : Nat) (B1 : Option Addr) (d1 : Nat) (B2 : Option Addr) (d2 : Nat) (B3 : Option Addr) (d3 : Nat) (w : World) (hJ : JAt w j A1 c1 A2 c2 A3 c3) (hK : JAt w j B1 d1 B2 d2 B3 d3)
    (l1 : j.res.length ≤ 140737488355328) (l2 : j.need.length ≤ 140737488355328) (l3 : j.tab.length ≤ 140737488355328) :
    Calls Tryz.prog 23 #[.agg (jC j A1 c1 A2 c2 A3 c3).toArray, .agg (jC j B1 d1 B2 d2 B3 d3).toArray] w fun e w' => e = .returned (.bool true) ∧ Below w.heap.size w w' := by
  obtain ⟨V, hV⟩ : ∃ V, V = w.alloc (.cells (jC j A1 c1 A2 c2 A3 c3).toArray 60) := ⟨_, rfl⟩
  have hbv : V.heap[w.heap.size]? = some (.cells (jC j A1 c1 A2 c2 A3 c3).toArray 60 (0, 0)) := hV ▸ heap_alloc_new w _
  have hBV : Below w.heap.size w V := hV ▸ below_alloc (Below.refl _ _) _
  obtain ⟨g, hg⟩ : ∃ g, w.heap.size + 1 = g := ⟨_, rfl⟩
  have hsz : V.heap.size = g := by rw [← hg, hV]; simp
  obtain ⟨W, hW⟩ : ∃ W, W = V.alloc (.cells (jC j B1 d1 B2 d2 B3 d3).toArray 60) := ⟨_, rfl⟩
  have hbk : W.heap[g]? = some (.cells (jC j B1 d1 B2 d2 B3 d3).toArray 60 (0, 0)) := hW ▸ hsz ▸ heap_alloc_new V _
  have hVW : Below V.heap.size V W := hW ▸ below_alloc (Below.refl _ _) _
  have hbw := blk_below hbv hVW
  have hBW : Below w.heap.size w W := below_step hBV hVW
  have a0 : W.cell? ⟨w.heap.size, 0, none⟩ = some (.string j.name) := (blk_cell hbw _).trans rfl
  have a1 : W.cell? ⟨w.heap.size, 1, none⟩ = some (.int .i64 j.ent) := (blk_cell hbw _).trans rfl
  have a2 : W.cell? ⟨w.heap.size, 2, none⟩ = some (.int .i64 j.idx) := (blk_cell hbw _).trans rfl
  have a3 : W.cell? ⟨w.heap.size, 3, none⟩ = some (.slice A1 j.res.length c1) := (blk_cell hbw _).trans rfl
  have a4 : W.cell? ⟨w.heap.size, 4, none⟩ = some (.slice A2 j.need.length c2) := (blk_cell hbw _).trans rfl
  have a5 : W.cell? ⟨w.heap.size, 5, none⟩ = some (.slice A3 j.tab.length c3) := (blk_cell hbw _).trans rfl
  have b0 : W.cell? ⟨g, 0, none⟩ = some (.string j.name) := (blk_cell hbk _).trans rfl
  have b1 : W.cell? ⟨g, 1, none⟩ = some (.int .i64 j.ent) := (blk_cell hbk _).trans rfl
  have b2 : W.cell? ⟨g, 2, none⟩ = some (.int .i64 j.idx) := (blk_cell hbk _).trans rfl
  have b3 : W.cell? ⟨g, 3, none⟩ = some (.slice B1 j.res.length d1) := (blk_cell hbk _).trans rfl
  have b4 : W.cell? ⟨g, 4, none⟩ = some (.slice B2 j.need.length d2) := (blk_cell hbk _).trans rfl
  have b5 : W.cell? ⟨g, 5, none⟩ = some (.slice B3 j.tab.length d3) := (blk_cell hbk _).trans rfl
  have HJ := Aside0.mk (hJ.below hBW)
  have HK := Aside0.mk (hK.below hBW)
  have HV := Aside0.mk hV
  have HW := Aside0.mk hW
  have HG := Aside0.mk hg
  have HBW := Aside0.mk hBW
  clear hV hW hg hsz hBV hVW hBW hbv hbk hbw hJ hK
  go_enter Tryz.func23, Tryz.ntmps23
  go_upto_region 1 with (fail)
  rw [← HV.out, ← HW.out, HG.out]
  go_wp2_with (first
    | (have X := HB2; go_at_call 62; (with_reducible refine (results_true A3 c3 B3 d3 j.tab _ (Kd.C_below HJ.out.r3 HB2.out) (Kd.C_below HK.out.r3 HB2.out) l3).mono ?_); rintro e w3 ⟨rfl, hb⟩; have HB3 := Aside0.mk (below_step HB2.out hb); clear hb)
    | (go_at_call 62; (with_reducible refine (results_true A1 c1 B1 d1 j.res _ HJ.out.r1 HK.out.r1 l1).mono ?_); rintro e w1 ⟨rfl, hb⟩
       have a4' := pw_cell_below hb a4
       have a5' := pw_cell_below hb a5
       have b4' := pw_cell_below hb b4
       have b5' := pw_cell_below hb b5
       have HB1 := Aside0.mk hb
       clear hb)
    | (go_at_call 63; (with_reducible refine (ids_true A2 c2 B2 d2 j.need _ (Kd.C_below HJ.out.r2 HB1.out) (Kd.C_below HK.out.r2 HB1.out) l2).mono ?_); rintro e w2 ⟨rfl, hb⟩
       have a5'' := pw_cell_below hb a5'
       have b5'' := pw_cell_below hb b5'
       have HB2 := Aside0.mk (below_step HB1.out hb)
       clear hb)
    | fail)
  go_ret
  exact ⟨rfl, HBW.out.trans (HB3.out.mono HBW.out.size)⟩
end Go.Proofs.YtdekmeanlcpenaaGreatDoor.Law

namespace Go.Proofs.YtdekmeanlcpenaaGreatDoor.Codec
open Go.Proofs.YtdekmeanlcpenaaGreatDoor.Mid Go.Proofs.YtdekmeanlcpenaaGreatDoor.Block

theorem sumR_append (a b : List Int) : ∀ r, sumR (a ++ b) r = sumR b (sumR a r) := by
  induction a with
  | nil => intro r; rfl
  | cons x t ih => intro r; exact ih _
theorem xor_byte_lt {r x : Nat} (hr : r < 4294967296) (hx : x ≤ 255) : r ^^^ x < 4294967296 := Nat.xor_lt_two_pow (n := 32) hr (by omega)
theorem xor_cancel {a b x : Nat} (h : a ^^^ x = b ^^^ x) : a = b := by
  have := congrArg (· ^^^ x) h
  simpa only [Nat.xor_assoc, Nat.xor_self, Nat.xor_zero] using this
theorem xor_cancel' {a x y : Nat} (h : a ^^^ x = a ^^^ y) : x = y := by
  have := congrArg (a ^^^ ·) h
  simpa only [← Nat.xor_assoc, Nat.xor_self, Nat.zero_xor] using this
theorem sumR_inj : ∀ (l : List Int) (r r' : Nat), (∀ x ∈ l, 0 ≤ x ∧ x ≤ 255) → r < 4294967296 → r' < 4294967296 → sumR l r = sumR l r' → r = r' := by
  intro l
  induction l with
  | nil => intro r r' _ _ _ h; exact h
  | cons x t ih =>
    intro r r' hb h0 h1 h
    have hx := hb x (by simp)
    have hx0 : x.toNat ≤ 255 := by omega
    have e := ih _ _ (fun y hy => hb y (by simp [hy])) (f4_lt (f4_lt (xor_byte_lt h0 hx0))) (f4_lt (f4_lt (xor_byte_lt h1 hx0))) h
    exact xor_cancel (f4_inj (xor_byte_lt h0 hx0) (xor_byte_lt h1 hx0) (f4_inj (f4_lt (xor_byte_lt h0 hx0)) (f4_lt (xor_byte_lt h1 hx0)) e))
/-- Another byte at a place: another sum. -/
theorem sum_set_ne {l : List Int} (hb : ∀ x ∈ l, 0 ≤ x ∧ x ≤ 255) {j : Nat} (hj : j < l.length) {y : Int} (hy : 0 ≤ y ∧ y ≤ 255) (hne : y ≠ l[j]) : sumS (l.set j y) ≠ sumS l := by
  have hx := hb l[j] (List.getElem_mem hj)
  have e1 : l = l.take j ++ l[j] :: l.drop (j + 1) := by rw [← List.drop_eq_getElem_cons hj, List.take_append_drop]
  have e2 : l.set j y = l.take j ++ y :: l.drop (j + 1) := by rw [List.set_eq_take_append_cons_drop, if_pos hj]
  have ht : ∀ x ∈ l.take j, 0 ≤ x ∧ x ≤ 255 := fun x h => hb x (List.mem_of_mem_take h)
  have hd : ∀ x ∈ l.drop (j + 1), 0 ≤ x ∧ x ≤ 255 := fun x h => hb x (List.mem_of_mem_drop h)
  intro h
  have hr := sumR_lt (l.take j) 4294967295 ht (by omega)
  have a1 : sumR l 4294967295 = sumR (l.drop (j + 1)) (f4 (f4 (sumR (l.take j) 4294967295 ^^^ l[j].toNat))) := by
    conv => lhs; rw [e1]
    rw [sumR_append]; rfl
  have a2 : sumR (l.set j y) 4294967295 = sumR (l.drop (j + 1)) (f4 (f4 (sumR (l.take j) 4294967295 ^^^ y.toNat))) := by
    rw [e2, sumR_append]; rfl
  have b1 := xor_byte_lt (x := l[j].toNat) hr (by omega)
  have b2 := xor_byte_lt (x := y.toNat) hr (by omega)
  have c1 := sumR_lt (l.drop (j + 1)) _ hd (f4_lt (f4_lt b1))
  have c2 := sumR_lt (l.drop (j + 1)) _ hd (f4_lt (f4_lt b2))
  unfold sumS at h
  rw [a1, a2] at h
  have h' : sumR (l.drop (j + 1)) (f4 (f4 (sumR (l.take j) 4294967295 ^^^ y.toNat))) = sumR (l.drop (j + 1)) (f4 (f4 (sumR (l.take j) 4294967295 ^^^ l[j].toNat))) := by omega
  have e := sumR_inj _ _ _ hd (f4_lt (f4_lt b2)) (f4_lt (f4_lt b1)) h'
  have := xor_cancel' (f4_inj b2 b1 (f4_inj (f4_lt b2) (f4_lt b1) e))
  omega

theorem fix_inj {a b k : Nat} (ha : a < 256 ^ k) (hb : b < 256 ^ k) (h : fixW a k = fixW b k) : a = b := by
  have h1 := foldB_fix k a
  have h2 := foldB_fix k b
  rw [h, h2, Nat.mod_eq_of_lt ha, Nat.mod_eq_of_lt hb] at h1
  omega
/-- A byte of a journal's form turned: no form. -/
theorem enc_turned {i j : Jn} (V' : JnV j) (K' : JnOk j) {m : Nat} (hm : m < (encW j).length) {y : Int} (hy : 0 ≤ y ∧ y ≤ 255) (hne : y ≠ (encW j)[m]) (h : encW i = (encW j).set m y) : False := by
  obtain ⟨L, hL⟩ : ∃ L, bodyW j = L := ⟨_, rfl⟩
  have hb : Byt L := by rw [← hL]; exact body_byt V' K'
  have e : encW j = L ++ fixW (sumS L) 4 := by rw [encW, hL]
  obtain ⟨M, hM⟩ : ∃ M, bodyW i = M := ⟨_, rfl⟩
  have e' : encW i = M ++ fixW (sumS M) 4 := by rw [encW, hM]
  rw [e'] at h
  simp only [e] at hm hne h
  by_cases hl : m < L.length
  · rw [List.set_append_left _ _ hl] at h
    obtain ⟨h1, h2⟩ := List.append_inj' h (by rw [fixW_length, fixW_length])
    have h3 := fix_inj (sumS_lt M) (sumS_lt L) h2
    rw [h1] at h3
    rw [List.getElem_append_left hl] at hne
    exact sum_set_ne hb hl hy hne h3
  · rw [List.set_append_right _ _ (by omega)] at h
    obtain ⟨h1, h2⟩ := List.append_inj' h (by rw [List.length_set, fixW_length, fixW_length])
    rw [h1] at h2
    rw [List.getElem_append_right (by omega)] at hne
    refine hne ?_
    have hk : m - L.length < (fixW (sumS L) 4).length := by rw [List.length_append] at hm; omega
    have h3 : (fixW (sumS L) 4)[m - L.length]'hk = ((fixW (sumS L) 4).set (m - L.length) y)[m - L.length]'(by rw [List.length_set]; exact hk) := by
      congr 1
    rw [List.getElem_set_self] at h3
    exact h3.symm
end Go.Proofs.YtdekmeanlcpenaaGreatDoor.Codec

namespace Go.Proofs.YtdekmeanlcpenaaGreatDoor.OpenK
open Go.ChangeShapes Go.WideShapes Go.Deep Go.Proofs.YtdekmeanlcpenaaGreatDoorW.PrintWords

/-- Whatever reads as a datum of a type reads as a value of a kind, and the value is good. -/
def Opens {α H : Type} (P : Program) (enc : TypeId × Value → H) (w : World) (d : Kd α) (e : TypeId) (good : α → Prop) : Prop :=
  ∀ (fuel : Nat) (cs : List Value) (x : DataW H × List MemPlace), DataW.trod enc P w 0 (fun _ => true) true fuel e cs = some x → (∀ n ∈ DataW.weights P e x.1, n ≤ reachBytes) → ∃ v, d.K w v cs ∧ good v

theorem opens_int {H : Type} {P : Program} {enc : TypeId × Value → H} {w : World} {e : TypeId} {k : IntKind} (he : P.underlying e = some (.int k)) : Opens P enc w (Kd.int k) e (fun n => (Lit.int k n).wf = true) := by
  intro fuel cs x h _
  obtain ⟨n, rfl, _, hw⟩ := DataW.trod_int he h
  exact ⟨n, rfl, hw⟩

theorem opens_slice {α H : Type} {P : Program} {enc : TypeId × Value → H} {w : World} {d : Kd α} {t e : TypeId} {good : α → Prop} [Inhabited α] (ht : P.underlying t = some (.slice e)) (hc : P.cellsOf e = d.sz) {B : Nat} (hB : P.bytesOf e = B) (h : Opens P enc w d e good) :
    Opens P enc w (Kd.slice e d) t (fun l => l.length * B ≤ 140737488351232 ∧ ∀ x ∈ l, good x) := by
  intro fuel cs x hx hw
  rcases open_slice ht hx with ⟨rfl, _⟩ | ⟨a, len, cap, m, n, D, Pl, rfl, _, hl, hm, rfl, rfl, hi⟩
  · exact ⟨[], ⟨none, 0, rfl, Nat.le_refl _, Kd.C_nil d w⟩, by simp, by simp⟩
  · simp only [] at hi hw
    simp only [DataW.weights, ht] at hw
    have hwl := hw _ (List.mem_cons_self)
    have hwe : ∀ i, i < len → ∀ z ∈ DataW.weights P e (D i), z ≤ reachBytes := by
      intro i hil z hz
      refine hw z (List.mem_cons_of_mem _ (List.mem_append_left _ ?_))
      have key : ∀ (l : List (DataW H)), D i ∈ l → z ∈ DataW.weightsAll P e l := by
        intro l
        induction l with
        | nil => intro h; simp at h
        | cons y r ih =>
          intro h
          rw [DataW.weightsAll, List.mem_append]
          rcases List.mem_cons.1 h with rfl | h
          · exact .inl hz
          · exact .inr (ih h)
      exact key _ (List.mem_map.2 ⟨i, List.mem_range.2 hil, rfl⟩)
    obtain ⟨f, hf⟩ := choose_lt (n := len) (p := fun i v => (∃ cs', w.cells? 0 (a.add (i * P.cellsOf e)) (P.cellsOf e) = some cs' ∧ d.K w v cs') ∧ good v) (fun i hil => by
      obtain ⟨cs', h1, h2⟩ := hi i (by omega)
      obtain ⟨v, hK, hg⟩ := h n cs' _ h2 (hwe i hil)
      exact ⟨v, ⟨cs', h1, hK⟩, hg⟩)
    refine ⟨(List.range len).map f, ⟨some a, m, by simp, by simpa using hl, ?_⟩, ?_, ?_⟩
    · refine ⟨rfl, by simp; unfold maxLen at hm; omega, fun hpos => ⟨a, rfl, fun j p hj => ?_⟩⟩
      simp only [List.length_map, List.length_range] at hpos
      rw [List.getElem?_map] at hj
      obtain ⟨i, hi1, rfl⟩ := Option.map_eq_some_iff.1 hj
      have hjl : j < len := by have := (List.getElem?_eq_some_iff.1 hi1).1; simpa using this
      have hij : i = j := by
        rw [List.getElem?_range hjl] at hi1
        simpa using hi1.symm
      subst hij
      obtain ⟨⟨cs', h1, hK⟩, _⟩ := hf i hjl
      rw [hc] at h1
      obtain ⟨_, hlen, hcell⟩ := World.cells?_some h1
      refine ⟨cs', hlen, hK, fun k u hk => ?_⟩
      have hkl : k < d.sz := by have := (List.getElem?_eq_some_iff.1 hk).1; omega
      rw [← Go.Deep.add_add, hcell k hkl]
      exact hk
    · simp only [List.length_map, List.length_range] at hwl ⊢
      rw [hB] at hwl
      refine Nat.le_trans (Nat.mul_le_mul_right _ ?_) (Nat.le_trans hwl (by decide))
      omega
    · intro x hx
      obtain ⟨i, hi1, rfl⟩ := List.mem_map.1 hx
      exact (hf i (List.mem_range.1 hi1)).2

theorem opens_pair {α β H : Type} {P : Program} {enc : TypeId × Value → H} {w : World} {a : Kd α} {b : Kd β} {e : TypeId} {f0 f1 : Field} {ga : α → Prop} {gb : β → Prop} (hs : P.underlying e = some (.struct #[f0, f1])) (o0 : f0.offset = 0) (o1 : f1.offset = a.sz)
    (c0 : P.cellsOf f0.type = a.sz) (c1 : P.cellsOf f1.type = b.sz) (hc : P.cellsOf e = a.sz + b.sz) (ha : Opens P enc w a f0.type ga) (hb : Opens P enc w b f1.type gb) : Opens P enc w (Kd.pair a b) e (fun x => ga x.1 ∧ gb x.2) := by
  intro fuel cs x h hw
  obtain ⟨y0, y1, n, rfl, hl, h0, h1⟩ := trod_struct2 hs h
  simp only [DataW.weights, hs] at hw
  rw [o0, c0, List.drop_zero] at h0
  rw [o1, c1] at h1
  have hcs : (cs.drop a.sz).take b.sz = cs.drop a.sz := List.take_of_length_le (by simp; omega)
  rw [hcs] at h1
  obtain ⟨v0, hK0, g0⟩ := ha _ _ _ h0 (fun z hz => hw z (by simp [DataW.weightsEach]; exact .inl hz))
  obtain ⟨v1, hK1, g1⟩ := hb _ _ _ h1 (fun z hz => hw z (by simp [DataW.weightsEach]; exact .inr hz))
  exact ⟨(v0, v1), ⟨_, _, (List.take_append_drop _ _).symm, hK0, hK1⟩, g0, g1⟩

/-- Another name of the values. -/
theorem opens_iso {α β H : Type} {P : Program} {enc : TypeId × Value → H} {w : World} {d : Kd α} {e : TypeId} {good : α → Prop} (f : β → α) (g : α → β) (hfg : ∀ x, f (g x) = x) (h : Opens P enc w d e good) : Opens P enc w (Kd.iso d f) e (fun x => good (f x)) := by
  intro fuel cs x hx hw
  obtain ⟨v, hK, hg⟩ := h fuel cs x hx hw
  exact ⟨g v, by show d.K w (f (g v)) cs; rw [hfg]; exact hK, by show good (f (g v)); rw [hfg]; exact hg⟩

/-- A slice among a law's arguments. -/
theorem arg_slice {α H : Type} {P : Program} {enc : TypeId × Value → H} {W : World} {d : Kd α} {t e : TypeId} {good : α → Prop} {B : Nat} {a : Option Addr} {len cap : Nat} {x : DataW H} {ps : List MemPlace} {ts : List TypeId} {ds : List (DataW H)} {j : Nat}
    (ho : Opens P enc W (Kd.slice e d) t (fun l => l.length * B ≤ 140737488351232 ∧ ∀ x ∈ l, good x)) (hsz : (DataW.weightsEach P ts ds).all (· ≤ reachBytes) = true) (ht : ts[j]? = some t) (hd : ds[j]? = some x)
    (h : DataW.Trod enc P W 0 (fun _ => true) true t (.slice a len cap) x ps) : ∃ l : List α, len = l.length ∧ l.length ≤ cap ∧ d.C W a l.length l ∧ l.length * B ≤ 140737488351232 ∧ ∀ x ∈ l, good x := by
  obtain ⟨fuel, hf⟩ := h
  obtain ⟨l, ⟨A, c, e1, h1, h2⟩, h3, h4⟩ := ho fuel _ _ hf (fun n hn => by
    have := List.all_eq_true.1 hsz _ (DataW.weights_mem_each ht hd n hn)
    simpa using this)
  simp [Value.cells] at e1
  obtain ⟨rfl, rfl, rfl⟩ := e1
  exact ⟨l, rfl, h1, h2, h3, h4⟩

end Go.Proofs.YtdekmeanlcpenaaGreatDoor.OpenK
