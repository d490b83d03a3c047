import Derived.Test.YtdekmeanlcpenaaGreatDoorCf10
import Derived.Test.YtdekmeanlcpenaaGreatDoorCf2
import Derived.Test.YtdekmeanlcpenaaGreatDoorCf4
namespace Go.Proofs.YtdekmeanlcpenaaGreatDoor.OpenK
open Go.ChangeShapes Go.WideShapes Go.Deep Go.Proofs.YtdekmeanlcpenaaGreatDoorW.PrintWords Go.Proofs.YtdekmeanlcpenaaGreatDoor.Mid

set_option maxRecDepth 100000
theorem arr29 : ∃ e, Tryz.prog.underlying 29 = some (.array 32 e) ∧ Tryz.prog.underlying e = some (.int .u8) ∧ Tryz.prog.cellsOf e = 1 := by
  refine ⟨5, ?_, ?_, ?_⟩ <;> kernel_rfl
theorem cells29 : Tryz.prog.cellsOf 29 = 32 := by kernel_rfl
theorem cells33 : Tryz.prog.cellsOf 33 = 65 := by kernel_rfl
theorem id_of_trod {H : Type} {enc : TypeId × Value → H} {w : World} {fuel : Nat} {cs : List Value} {x : DataW H × List MemPlace} (hx : DataW.trod enc Tryz.prog w 0 (fun _ => true) true fuel 29 cs = some x) : ∃ v, IdOk v ∧ cs = u8s v := by
  obtain ⟨e, hu, he, hc⟩ := arr29
  obtain ⟨xs, m, -, -, hl, hxl, hi⟩ := DataW.trod_array hu hx
  rw [cells29] at hl
  obtain ⟨f, hf⟩ := choose_lt (n := 32) (p := fun i (v : Int) => cs[i]? = some (.int .u8 v) ∧ 0 ≤ v ∧ v ≤ 255) (fun i hil => by
    have h1 := hi i hil
    rw [hc, Nat.mul_one, List.getElem?_eq_getElem (by omega)] at h1
    obtain ⟨n, e1, -, hw⟩ := DataW.trod_int he h1
    refine ⟨n, ?_, ?_⟩
    · rw [List.drop_eq_getElem_cons (by omega), List.take_succ_cons, List.take_zero] at e1
      rw [List.getElem?_eq_getElem (by omega)]
      injection e1 with e1
      rw [e1]
    · have h1 : IntKind.u8.min = 0 := rfl
      have h2 : IntKind.u8.max = 255 := rfl
      simp [Lit.wf, h1, h2] at hw
      omega)
  have hcs : cs = u8s ((List.range 32).map f) := by
    apply List.ext_getElem?
    intro i
    by_cases hil : i < 32
    · rw [(hf i hil).1, u8s, List.getElem?_map, List.getElem?_map, List.getElem?_range hil]
      rfl
    · rw [List.getElem?_eq_none (by omega), List.getElem?_eq_none (by simp [u8s]; omega)]
  have hok : IdOk ((List.range 32).map f) := ⟨by simp, fun u hu => by
    obtain ⟨i, hi, rfl⟩ := List.mem_map.1 hu
    exact (hf i (List.mem_range.1 hi)).2⟩
  exact ⟨_, hok, hcs⟩
theorem opens_id {H : Type} {enc : TypeId × Value → H} {w : World} : Opens Tryz.prog enc w idK 29 (fun x => IdOk x) := fun _ _ _ hx _ => by
  obtain ⟨v, h1, h2⟩ := id_of_trod hx
  exact ⟨v, ⟨h1, h2⟩, h1⟩
theorem opens23 {H : Type} {enc : TypeId × Value → H} {w : World} : Opens Tryz.prog enc w (Kd.slice 29 idK) 23 (fun l => l.length * 32 ≤ 140737488351232 ∧ ∀ x ∈ l, IdOk x) :=
  opens_slice Tryz.underlying23 cells29 (by kernel_rfl) opens_id
theorem str33 : ∃ f0 f1 f2 : Field, Tryz.prog.underlying 33 = some (.struct #[f0, f1, f2]) ∧ (f0.type = 29 ∧ f0.offset = 0) ∧ (f1.type = 29 ∧ f1.offset = 32) ∧ (f2.type = 3 ∧ f2.offset = 64) := by
  refine ⟨_, _, _, Tryz.underlying33, ?_, ?_, ?_⟩ <;> exact ⟨by kernel_rfl, by kernel_rfl⟩
theorem cells3 : Tryz.prog.cellsOf 3 = 1 := by kernel_rfl
theorem und3 : Tryz.prog.underlying 3 = some (.int .i64) := by kernel_rfl
theorem opens_res {H : Type} {enc : TypeId × Value → H} {w : World} : Opens Tryz.prog enc w resK 33 (fun x => ResOk x) := fun fuel cs x hx _ => by
  obtain ⟨f0, f1, f2, hu, ⟨t0, o0⟩, ⟨t1, o1⟩, ⟨t2, o2⟩⟩ := str33
  obtain ⟨xs, n, -, -, hl, hlen, hf⟩ := DataW.trod_struct hu hx
  rw [cells33] at hl
  match xs, hlen with
  | [y0, y1, y2], _ =>
    have h0 := hf 0 f0 rfl
    have h1 := hf 1 f1 rfl
    have h2 := hf 2 f2 rfl
    rw [t0, o0, cells29] at h0
    rw [t1, o1, cells29] at h1
    rw [t2, o2, cells3] at h2
    obtain ⟨a, ha, ea⟩ := id_of_trod h0
    obtain ⟨b, hb, eb⟩ := id_of_trod h1
    obtain ⟨m, em, -, hw⟩ := DataW.trod_int und3 h2
    have hm : -9223372036854775808 ≤ m ∧ m ≤ 9223372036854775807 := by
      have h1 : IntKind.i64.min = -9223372036854775808 := rfl
      have h2 : IntKind.i64.max = 9223372036854775807 := rfl
      simp [Lit.wf, h1, h2] at hw
      omega
    have hr : ResOk ⟨a, b, m⟩ := ⟨ha, hb, hm⟩
    refine ⟨⟨a, b, m⟩, ⟨hr, ?_⟩, hr⟩
    show cs = u8s a ++ (u8s b ++ [.int .i64 m])
    rw [← ea, ← eb, ← em, List.drop_zero]
    have e1 : cs = cs.take 32 ++ cs.drop 32 := (List.take_append_drop 32 cs).symm
    have e2 : cs.drop 32 = (cs.drop 32).take 32 ++ (cs.drop 32).drop 32 := (List.take_append_drop 32 _).symm
    have e3 : (cs.drop 32).drop 32 = (cs.drop 64).take 1 := by
      rw [List.drop_drop, List.take_of_length_le (by rw [List.length_drop]; omega)]
    rw [← e3, ← e2, ← e1]
theorem opens22 {H : Type} {enc : TypeId × Value → H} {w : World} : Opens Tryz.prog enc w (Kd.slice 33 resK) 22 (fun l => l.length * 72 ≤ 140737488351232 ∧ ∀ x ∈ l, ResOk x) :=
  haveI : Inhabited Res := ⟨⟨[], [], 0⟩⟩
  opens_slice Tryz.underlying22 cells33 (by kernel_rfl) opens_res
end Go.Proofs.YtdekmeanlcpenaaGreatDoor.OpenK

namespace Go.Proofs.YtdekmeanlcpenaaGreatDoor.OpenK
open Go.ChangeShapes Go.WideShapes Go.Deep Go.Proofs.YtdekmeanlcpenaaGreatDoorW.PrintWords Go.Proofs.YtdekmeanlcpenaaGreatDoor.Mid Go.Proofs.YtdekmeanlcpenaaGreatDoor.Codec
set_option maxRecDepth 100000
theorem arg_int {H : Type} {P : Program} {enc : TypeId × Value → H} {W : World} {r : Reach} {base : Nat} {t : TypeId} {k : IntKind} {v : Value} {x : DataW H} {ps : List MemPlace} (ht : P.underlying t = some (.int k)) (hv : Value.okWide P W r base t v)
    (h : DataW.Trod enc P W 0 (fun _ => true) true t v x ps) : ∃ n, v = .int k n ∧ (Lit.int k n).wf = true := by
  obtain ⟨n, rfl⟩ := okWide_int ht hv
  obtain ⟨fuel, hf⟩ := h
  obtain ⟨m, e, -, hw⟩ := DataW.trod_int ht hf
  simp [Value.cells] at e
  subst e
  exact ⟨_, rfl, hw⟩
theorem u8_wf {n : Int} (h : (Lit.int .u8 n).wf = true) : 0 ≤ n ∧ n ≤ 255 := by
  have h1 : IntKind.u8.min = 0 := rfl
  have h2 : IntKind.u8.max = 255 := rfl
  simp [Lit.wf, h1, h2] at h
  omega
theorem str60 : ∃ f0 f1 f2 f3 f4 f5 : Field, Tryz.prog.underlying 60 = some (.struct #[f0, f1, f2, f3, f4, f5]) ∧ (f0.type = 9 ∧ f0.offset = 0) ∧ (f1.type = 3 ∧ f1.offset = 1) ∧ (f2.type = 3 ∧ f2.offset = 2) ∧ (f3.type = 22 ∧ f3.offset = 3) ∧ (f4.type = 23 ∧ f4.offset = 4) ∧ (f5.type = 22 ∧ f5.offset = 5) := by
  refine ⟨_, _, _, _, _, _, Tryz.underlying60, ?_, ?_, ?_, ?_, ?_, ?_⟩ <;> exact ⟨by kernel_rfl, by kernel_rfl⟩
theorem cells9 : Tryz.prog.cellsOf 9 = 1 := by kernel_rfl
theorem str9 : Tryz.prog.underlying 9 = some .string := by kernel_rfl
theorem cells22 : Tryz.prog.cellsOf 22 = 1 := by kernel_rfl
theorem cells23 : Tryz.prog.cellsOf 23 = 1 := by kernel_rfl
theorem cells60 : Tryz.prog.cellsOf 60 = 6 := by kernel_rfl
/-- What a journal among a law's arguments has. -/
structure JnR (j : Jn) : Prop where
  name : j.name.size ≤ maxLen
  ent : (Lit.int .i64 j.ent).wf = true
  idx : (Lit.int .i64 j.idx).wf = true
  res : j.res.length * 72 ≤ 140737488351232
  need : j.need.length * 32 ≤ 140737488351232
  tab : j.tab.length * 72 ≤ 140737488351232
theorem slice_one {α : Type} {d : Kd α} {e : TypeId} {w : World} {l : List α} {cs : List Value} (h : (Kd.slice e d).K w l cs) : ∃ A c, cs = [.slice A l.length c] ∧ l.length ≤ c ∧ d.C w A l.length l := by
  obtain ⟨A, c, e1, h1, h2⟩ := h
  exact ⟨A, c, e1, h1, h2⟩
theorem jn_of_trod {H : Type} {enc : TypeId × Value → H} {w : World} {fuel : Nat} {cs : List Value} {x : DataW H × List MemPlace} (hx : DataW.trod enc Tryz.prog w 0 (fun _ => true) true fuel 60 cs = some x) (hw : ∀ n ∈ DataW.weights Tryz.prog 60 x.1, n ≤ reachBytes) :
    ∃ j A1 c1 A2 c2 A3 c3, cs = jC j A1 c1 A2 c2 A3 c3 ∧ JAt w j A1 c1 A2 c2 A3 c3 ∧ JnR j := by
  obtain ⟨f0, f1, f2, f3, f4, f5, hu, ⟨t0, o0⟩, ⟨t1, o1⟩, ⟨t2, o2⟩, ⟨t3, o3⟩, ⟨t4, o4⟩, ⟨t5, o5⟩⟩ := str60
  obtain ⟨xs, n, -, rfl, hl, hlen, hf⟩ := DataW.trod_struct hu hx
  rw [cells60] at hl
  match xs, hlen with
  | [y0, y1, y2, y3, y4, y5], _ =>
    have h0 := hf 0 f0 rfl
    have h1 := hf 1 f1 rfl
    have h2 := hf 2 f2 rfl
    have h3 := hf 3 f3 rfl
    have h4 := hf 4 f4 rfl
    have h5 := hf 5 f5 rfl
    rw [t0, o0, cells9] at h0
    rw [t1, o1, cells3] at h1
    rw [t2, o2, cells3] at h2
    rw [t3, o3, cells22] at h3
    rw [t4, o4, cells23] at h4
    rw [t5, o5, cells22] at h5
    match cs, hl with
    | [u0, u1, u2, u3, u4, u5], _ =>
      simp only [List.drop_zero, List.drop_succ_cons, List.take_succ_cons, List.take_zero, List.getElem?_cons_zero, List.getElem?_cons_succ] at h0 h1 h2 h3 h4 h5
      simp only [DataW.weights, hu] at hw
      obtain ⟨s, e0, -, hs⟩ := DataW.trod_string str9 h0
      obtain ⟨m1, e1, -, w1⟩ := DataW.trod_int und3 h1
      obtain ⟨m2, e2, -, w2⟩ := DataW.trod_int und3 h2
      obtain ⟨l3, ⟨k3, b3, ok3⟩⟩ := opens22 _ _ _ h3 (fun z hz => hw z (by simp [DataW.weightsEach, t0, t1, t2, t3, t4, t5, hz]))
      obtain ⟨l4, ⟨k4, b4, ok4⟩⟩ := opens23 _ _ _ h4 (fun z hz => hw z (by simp [DataW.weightsEach, t0, t1, t2, t3, t4, t5, hz]))
      obtain ⟨l5, ⟨k5, b5, ok5⟩⟩ := opens22 _ _ _ h5 (fun z hz => hw z (by simp [DataW.weightsEach, t0, t1, t2, t3, t4, t5, hz]))
      obtain ⟨A3, c3, e3, g3, C3⟩ := slice_one k3
      obtain ⟨A4, c4, e4, g4, C4⟩ := slice_one k4
      obtain ⟨A5, c5, e5, g5, C5⟩ := slice_one k5
      simp only [List.cons.injEq, and_true] at e0 e1 e2 e3 e4 e5
      subst e0 e1 e2 e3 e4 e5
      exact ⟨⟨s, m1, m2, l3, l4, l5⟩, A3, c3, A4, c4, A5, c5, rfl, ⟨⟨ok3, ok4, ok5⟩, C3, g3, C4, g4, C5, g5⟩, ⟨hs, w1, w2, b3, b4, b5⟩⟩
/-- A journal among a law's arguments. -/
theorem arg_jn {H : Type} {enc : TypeId × Value → H} {W : World} {r : Reach} {base : Nat} {v : Value} {x : DataW H} {ps : List MemPlace} {ts : List TypeId} {ds : List (DataW H)} {i : Nat}
    (hsz : (DataW.weightsEach Tryz.prog ts ds).all (· ≤ reachBytes) = true) (ht : ts[i]? = some 60) (hd : ds[i]? = some x) (hv : Value.okWide Tryz.prog W r base 60 v) (h : DataW.Trod enc Tryz.prog W 0 (fun _ => true) true 60 v x ps) :
    ∃ j A1 c1 A2 c2 A3 c3, v = .agg (jC j A1 c1 A2 c2 A3 c3).toArray ∧ JAt W j A1 c1 A2 c2 A3 c3 ∧ JnR j := by
  obtain ⟨cs, rfl, hcs⟩ := okWide_struct Tryz.underlying60 hv
  obtain ⟨fuel, hf⟩ := h
  obtain ⟨j, A1, c1, A2, c2, A3, c3, e, h1, h2⟩ := jn_of_trod hf (fun n hn => by
    have := List.all_eq_true.1 hsz _ (DataW.weights_mem_each ht hd n hn)
    simpa using this)
  refine ⟨j, A1, c1, A2, c2, A3, c3, ?_, h1, h2⟩
  rw [← e]
  simp [Value.cells]
end Go.Proofs.YtdekmeanlcpenaaGreatDoor.OpenK

namespace Go.Proofs.YtdekmeanlcpenaaGreatDoor.Law
open Go.RowKit Go.Proofs.YtdekmeanlcpenaaGreatDoorW.PrintWords Go.Proofs.YtdekmeanlcpenaaGreatDoorW.PrintLast Go.Proofs.YtdekmeanlcpenaaGreatDoorW.PrintMore Go.Proofs.YtdekmeanlcpenaaGreatDoor.Mid Go.Proofs.YtdekmeanlcpenaaGreatDoor.Pick Go.Proofs.YtdekmeanlcpenaaGreatDoor.Err Go.Proofs.YtdekmeanlcpenaaGreatDoor.Codec Go.Proofs.YtdekmeanlcpenaaGreatDoor.Block
attribute [local go_sem ↓ high] load33_eq load29_eq load60_eq
attribute [local simp] rowOf_drew rowOf_drewN
attribute [local go_sem high] load33_row load29_row load60_row rowOf_drew rowOf_drewN
set_option maxHeartbeats 8000000
set_option maxRecDepth 100000
set_option linter.unusedVariables false
theorem tm_two (n : Nat) (hn : 0 < n) (a x : Int) (h : x = a.tmod n + n) : ∃ i : Nat, x.tmod n = (i : Int) ∧ i < n := by
  have h1 := Int.tmod_lt_of_pos a (b := (n : Int)) (by omega)
  have h2 := Int.lt_tmod_of_pos a (b := (n : Int)) (by omega)
  have h3 := Int.tmod_nonneg (n : Int) (a := x) (by omega)
  have h4 := Int.tmod_lt_of_pos x (b := (n : Int)) (by omega)
  exact ⟨(x.tmod n).toNat, by omega, by omega⟩
theorem tm_at (n : Nat) (hn : 0 < n) (hl : n ≤ 1000000) (a : Int) : ∃ i : Nat, (wrap64 (a.tmod n + n)).tmod n = (i : Int) ∧ i < n := by
  have h1 := Int.tmod_lt_of_pos a (b := (n : Int)) (by omega)
  have h2 := Int.lt_tmod_of_pos a (b := (n : Int)) (by omega)
  rw [IntWalk.wrap64_in _ ⟨by omega, by omega⟩]
  exact tm_two n hn a _ rfl
theorem ofInt_u8 (a : Nat) (ha : a < 256) : (BitVec.ofInt 8 (a : Int)).toNat = a := by
  rw [BitVec.toNat_ofInt]
  omega
theorem u8_xor_nat (a b : Nat) (ha : a < 256) (hb : b < 256) : bits .xor .u8 (a : Int) (b : Int) = ((a ^^^ b : Nat) : Int) := by
  show IntKind.u8.wrap (((BitVec.ofInt 8 (a : Int)) ^^^ (BitVec.ofInt 8 (b : Int))).toNat : Int) = _
  have := Nat.xor_lt_two_pow (n := 8) ha hb
  rw [BitVec.toNat_xor, ofInt_u8 a ha, ofInt_u8 b hb]
  show ((a ^^^ b : Nat) : Int) % 256 = _
  omega
theorem xor_ne {x y : Nat} (hy : y ≠ 0) : x ^^^ y ≠ x := fun h => hy (xor_cancel' (a := x) (by rw [h, Nat.xor_zero]))
/-- What is known of a journal, of its copy and of its bytes. -/
structure FI (W : World) (j : Jn) (A1 : Option Addr) (c1 : Nat) (A2 : Option Addr) (c2 : Nat) (A3 : Option Addr) (c3 : Nat) (B1 : Option Addr) (d1 : Nat) (B2 : Option Addr) (d2 : Nat) (B3 : Option Addr) (d3 : Nat) (q q9 : Nat) (v : Value) (l : List Int) (u : World) : Prop where
  cA : u.heap[q]? = some (.cells (jC j A1 c1 A2 c2 A3 c3).toArray 60 (0, 0))
  cB : u.heap[q9]? = some (.cells (jC j B1 d1 B2 d2 B3 d3).toArray 60 (0, 0))
  jA : JAt u j A1 c1 A2 c2 A3 c3
  jB : JAt u j B1 d1 B2 d2 B3 d3
  r : Kd.R (Kd.int .u8) 5 u W.heap.size (fun _ => True) v l
  bel : Below W.heap.size W u
theorem FI.below {W : World} {j : Jn} {A1 : Option Addr} {c1 : Nat} {A2 : Option Addr} {c2 : Nat} {A3 : Option Addr} {c3 : Nat} {B1 : Option Addr} {d1 : Nat} {B2 : Option Addr} {d2 : Nat} {B3 : Option Addr} {d3 : Nat} {q q9 : Nat} {v : Value} {l : List Int} {u u1 : World} (h : FI W j A1 c1 A2 c2 A3 c3 B1 d1 B2 d2 B3 d3 q q9 v l u) (hb : Below u.heap.size u u1) : FI W j A1 c1 A2 c2 A3 c3 B1 d1 B2 d2 B3 d3 q q9 v l u1 :=
  ⟨blk_below h.cA hb, blk_below h.cB hb, h.jA.below hb, h.jB.below hb, Kd.R_below h.r hb, below_step h.bel hb⟩
theorem dec_no_n (W : World) (A : Option Addr) (c : Nat) (l : List Int) (n : Nat) (hn : l.length = n) (hC : Kd.C (Kd.int .u8) W A l.length l) (hb : Byt l) (hl : n ≤ 1000000000000) (hcp : n ≤ c) (hno : ∀ j, JnV j → JnOk j → encW j ≠ l) :
    Calls Tryz.prog 26 #[.slice A n c] W fun e w' => ∃ g, e = .returned (.tuple #[.agg #[.string ⟨#[]⟩, .int .i64 0, .int .i64 0, .slice none 0 0, .slice none 0 0, .slice none 0 0], .iface 79 (.pointer (some ⟨g, 0, none⟩))]) ∧ Below W.heap.size W w' := by
  subst hn
  exact (dec_no W A c l hC hb hl hcp hno).mono fun e w' ⟨g, h1, _, _, h4⟩ => ⟨g, h1, h4⟩
theorem dec_yes_n (W : World) (A : Option Addr) (c : Nat) (l : List Int) (n : Nat) (hn : l.length = n) (hC : Kd.C (Kd.int .u8) W A l.length l) (hb : Byt l) (hl : n ≤ 1000000000000) (hcp : n ≤ c) (j : Jn) (V : JnV j) (K : JnOk j) (he : encW j = l) :
    Calls Tryz.prog 26 #[.slice A n c] W fun e w' => ∃ A1 c1 A2 c2 A3 c3, e = .returned (.tuple #[.agg (jC j A1 c1 A2 c2 A3 c3).toArray, .nilIface]) ∧ Below W.heap.size W w' := by
  subst hn
  exact (dec_yes W A c l hC hb hl hcp j V K he).mono fun e w' ⟨A1, c1, A2, c2, A3, c3, h1, _, _, _, h4⟩ => ⟨A1, c1, A2, c2, A3, c3, h1, h4⟩
section
variable (j : Jn) (A1 : Option Addr) (c1 : Nat) (A2 : Option Addr) (c2 : Nat) (A3 : Option Addr) (c3 : Nat) (at_ by_ : Int) (w : World) (hJ : JAt w j A1 c1 A2 c2 A3 c3) (hy : 0 ≤ by_ ∧ by_ ≤ 255) (hH : Handle w)
include hJ hH
theorem form_no (V : ¬ JnV j) : Calls Tryz.prog 7 #[.agg (jC j A1 c1 A2 c2 A3 c3).toArray, .int .i64 at_, .int .u8 by_] w fun e w' => e = .returned (.bool true) ∧ Below w.heap.size w w' := by
  obtain ⟨W, hW⟩ : ∃ W, W = w.alloc (.cells (jC j A1 c1 A2 c2 A3 c3).toArray 60) := ⟨_, rfl⟩
  have hbk : W.heap[w.heap.size]? = some (.cells (jC j A1 c1 A2 c2 A3 c3).toArray 60 (0, 0)) := hW ▸ heap_alloc_new w _
  have hBW : Below w.heap.size w W := hW ▸ below_alloc (Below.refl _ _) _
  have hld := jrow hbk
  have HW := Aside0.mk hW
  have HBW := Aside0.mk hBW
  have HJ := Aside0.mk (hJ.below hBW)
  have HH := Aside0.mk (handle_below hH hBW)
  have HV := Aside0.mk V
  clear hW hBW hbk hJ hH V
  go_enter Tryz.func7, Tryz.ntmps7
  go_upto_region 1 with (fail)
  rw [← HW.out]
  go_wp2_with (first
    | (go_at_call 19; refine (enc_no j A1 c1 A2 c2 A3 c3 W HJ.out HV.out).mono ?_; rintro e w1 ⟨⟨g, rfl, hf1, hf2⟩, hb1⟩; have HB1 := Aside0.mk hb1; clear hf1 hf2 hb1)
    | (go_at_call 25; refine (awake_any _ (handle_below HH.out HB1.out)).mono ?_; rintro e w2 ⟨rfl, hb2⟩; have HB2 := Aside0.mk (below_step HB1.out hb2); clear hb2)
    | go_in)
  go_ret
  exact ⟨rfl, HBW.out.trans (HB2.out.mono HBW.out.size)⟩
include hy
theorem form_yes (V : JnV j) : Calls Tryz.prog 7 #[.agg (jC j A1 c1 A2 c2 A3 c3).toArray, .int .i64 at_, .int .u8 by_] w fun e w' => e = .returned (.bool true) ∧ Below w.heap.size w w' := by
  obtain ⟨W, hW⟩ : ∃ W, W = w.alloc (.cells (jC j A1 c1 A2 c2 A3 c3).toArray 60) := ⟨_, rfl⟩
  have hbk : W.heap[w.heap.size]? = some (.cells (jC j A1 c1 A2 c2 A3 c3).toArray 60 (0, 0)) := hW ▸ heap_alloc_new w _
  have hBW : Below w.heap.size w W := hW ▸ below_alloc (Below.refl _ _) _
  obtain ⟨q, hq⟩ : ∃ q, w.heap.size = q := ⟨_, rfl⟩
  rw [hq] at hbk
  have hld := jrow hbk
  obtain ⟨l, hl⟩ : ∃ l, encW j = l := ⟨_, rfl⟩
  have hby : Byt l := by rw [← hl]; exact enc_byt V hJ.ok
  have hle : l.length ≤ 8004 := by rw [← hl]; exact enc_le V hJ.ok
  have hpos : 0 < l.length := by rw [← hl]; exact enc_pos j
  have HW := Aside0.mk hW
  have HBW := Aside0.mk hBW
  have HBK := Aside0.mk hbk
  have HJ := Aside0.mk (hJ.below hBW)
  have HH := Aside0.mk (handle_below hH hBW)
  have HV := Aside0.mk V
  have HL := Aside0.mk hl
  have HBY := Aside0.mk hby
  have HQ := Aside0.mk hq
  have HLE := Aside0.mk hle
  have HP := Aside0.mk hpos
  have L1 : Aside0 (j.res.length ≤ 140737488355328 ∧ j.need.length ≤ 140737488355328 ∧ j.tab.length ≤ 140737488355328) := ⟨by have := V.res.most; omega, by have := V.most; omega, by have := V.tab.most; omega⟩
  clear hW hBW hbk hJ hH V hl hby hq hle hpos
  go_enter Tryz.func7, Tryz.ntmps7
  go_upto_region 1 with (fail)
  rw [← HW.out, HQ.out]
  go_upto_region 5 with (first
    | (have X := S2; refine wpList_store_blk rfl rfl 60 _ _ rfl (heap_alloc_new w2 (.cells (jV .empty 0 0 nilS nilS nilS).toArray 60)) (jC j B1 d1 B2 d2 B3 d3) rfl rfl rfl info60 jC_one ?_
       intro wy y1 y2 y3
       have S4 := Aside0.mk (And.intro y1 y2)
       clear y1 y2 y3)
    | (go_at_call 19; refine (enc_yes j A1 c1 A2 c2 A3 c3 W HJ.out HV.out).mono ?_; rw [HL.out]; rintro e w1 ⟨A, k, rfl, hR1, hb1⟩; have HB1 := Aside0.mk hb1; have R1 := Aside0.mk hR1; clear hR1 hb1)
    | (go_at_call 26; refine (dec_yes w1 A k l (Kd.R_reads' R1.out).2.2 HBY.out (by have := HLE.out; omega) (Kd.R_reads' R1.out).2.1 j HV.out HJ.out.ok HL.out).mono ?_; rintro e w2 ⟨B1, d1, B2, d2, B3, d3, rfl, r1, r2, r3, hb2⟩
       have S2 := Aside0.mk (⟨r1, r2, r3, hb2⟩ : _ ∧ _ ∧ _ ∧ _)
       clear r1 r2 r3 hb2)
    | go_in)
  obtain ⟨q9, hq9⟩ : ∃ q9, w2.heap.size = q9 := ⟨_, rfl⟩
  have F : Aside0 (FI W j A1 c1 A2 c2 A3 c3 B1 d1 B2 d2 B3 d3 q q9 (.slice A l.length k) l wy) := ⟨by
    have hs1 := HB1.out.size
    have hs2 := S2.out.2.2.2.size
    have hqW := blk_lt HBK.out
    have hG := S4.out.2
    have hb0 : Below W.heap.size W (w2.alloc (.cells (jV .empty 0 0 nilS nilS nilS).toArray 60)) := below_alloc (below_step HB1.out S2.out.2.2.2) _
    have hn : ∀ x, x < w2.heap.size → some x ≠ some w2.heap.size := fun x h e => absurd (Option.some.inj e) (by omega)
    have hby : Below W.heap.size W wy := hb0.grown hG hb0.size (fun k hk => by cases hk; omega)
    refine ⟨blk_grown (blk_below HBK.out hb0) hG (hn _ (by omega)), by rw [← hq9]; exact S4.out.1, HJ.out.below hby, ⟨HJ.out.ok, ?_, ?_, ?_, ?_, ?_, ?_⟩, Kd.R_grown1 (Kd.R_alloc (Kd.R_below R1.out S2.out.2.2.2) _) rfl hG (fun e => absurd (Kd.R_lt (Kd.R_below R1.out S2.out.2.2.2) _ e.symm) (Nat.lt_irrefl _)), hby⟩
    · exact (Kd.R_reads' (Kd.R_grown1 (Kd.R_alloc S2.out.1 _) rfl hG (fun e => absurd (Kd.R_lt S2.out.1 _ e.symm) (Nat.lt_irrefl _)))).2.2
    · exact (Kd.R_reads' S2.out.1).2.1
    · exact (Kd.R_reads' (Kd.R_grown1 (Kd.R_alloc S2.out.2.1 _) rfl hG (fun e => absurd (Kd.R_lt S2.out.2.1 _ e.symm) (Nat.lt_irrefl _)))).2.2
    · exact (Kd.R_reads' S2.out.2.1).2.1
    · exact (Kd.R_reads' (Kd.R_grown1 (Kd.R_alloc S2.out.2.2.1 _) rfl hG (fun e => absurd (Kd.R_lt S2.out.2.2.1 _ e.symm) (Nat.lt_irrefl _)))).2.2
    · exact (Kd.R_reads' S2.out.2.2.1).2.1⟩
  rw [hq9]
  clear S4 S2 R1 HB1 hq9 hld
  have hA := jrow F.out.cA
  have hB := jrow F.out.cB
  have hp0 := HP.out
  have hle := HLE.out
  have hz1 : ((l.length : Int) == 0) = false := by rw [beq_eq_false_iff_ne]; omega
  have hz2 : (l.length == 0) = false := by rw [beq_eq_false_iff_ne]; omega
  have hz3 : ¬ l.length = 0 := by omega
  have hz4 : ¬ (l.length : Int) = 0 := by omega
  go_upto_region 13 with (first
    | (go_at_call 23; refine (journals_true j A1 c1 A2 c2 A3 c3 B1 d1 B2 d2 B3 d3 wy F.out.jA F.out.jB L1.out.1 L1.out.2.1 L1.out.2.2).mono ?_; rintro e w3 ⟨rfl, hb⟩; have F3 := Aside0.mk (F.out.below hb); have hB3 := jrow F3.out.cB; clear hb)
    | (go_at_call 19; refine (enc_yes j B1 d1 B2 d2 B3 d3 w3 F3.out.jB HV.out).mono ?_; rw [HL.out]; rintro e w4 ⟨A4, k4, rfl, hR4, hb⟩; have F4 := Aside0.mk (And.intro (F3.out.below hb) hR4); clear hR4 hb)
    | (go_at_call 22; refine (same_true A4 k4 A k l w4 (Kd.R_reads' F4.out.2).2.2 (Kd.R_reads' F4.out.1.r).2.2 (by omega)).mono ?_; rintro e w5 ⟨rfl, hb⟩; have F5 := Aside0.mk (F4.out.1.below hb); clear hb)
    | go_in)
  obtain ⟨m, hm1, hm2⟩ := tm_at l.length (by omega) (by omega) at_
  rw [hm1]
  clear hm1 hA hB hB3 hz1 hz2 hz3 hz4
  obtain ⟨g, cap, ev1, hgb, hglt, cells, hcells⟩ := Kd.R_form F5.out.r (by omega)
  injection ev1 with e1 e2 e3
  subst e1 e3
  obtain ⟨hc, hz⟩ := Kd.R_celln (0 : Int) F5.out.r (m : Int) (by omega) (by omega)
  simp only [Int.toNat_natCast] at hc hz
  obtain ⟨yb, rfl⟩ : ∃ yb : Nat, by_ = (yb : Int) := ⟨by_.toNat, by omega⟩
  have hlm := HBY.out l[m] (List.getElem_mem hm2)
  obtain ⟨xb, hxb⟩ : ∃ xb : Nat, l[m] = (xb : Int) := ⟨l[m].toNat, by omega⟩
  have hrd : rdOf 0 l (m : Int) = (xb : Int) := by
    rw [rdOf, Int.toNat_natCast, List.getD_eq_getElem?_getD, List.getElem?_eq_getElem hm2, ← hxb]; rfl
  rw [hrd] at hc
  have hxor : bits .xor .u8 (xb : Int) (yb : Int) = ((xb ^^^ yb : Nat) : Int) := u8_xor_nat xb yb (by omega) (by omega)
  obtain ⟨z, hzz⟩ : ∃ z : Nat, xb ^^^ yb = z := ⟨_, rfl⟩
  rw [hzz] at hxor
  have hzl : z ≤ 255 := by have := Nat.xor_lt_two_pow (n := 8) (show xb < 2 ^ 8 by omega) (show yb < 2 ^ 8 by omega); omega
  have hR6 := Kd.R_putn (enc := Value.int .u8) (h1 := fun _ => rfl) F5.out.r (m : Int) (z : Int)
  simp only [Int.toNat_natCast] at hR6
  obtain ⟨l1, hl1⟩ : ∃ l1, l.set m (z : Int) = l1 := ⟨_, rfl⟩
  rw [hl1] at hR6
  have hlen : l1.length = l.length := by rw [← hl1, List.length_set]
  have hb1 : Byt l1 := by
    rw [← hl1]
    intro x hx
    rcases List.mem_or_eq_of_mem_set hx with h | rfl
    · exact HBY.out x h
    · omega
  have htk : l1.take m = l.take m := by rw [← hl1, List.take_set_of_le (Nat.le_refl _)]
  have HNT : Aside0 (∀ i, JnV i → JnOk i → encW i ≠ l1.take m) := ⟨fun i V K h => enc_cut V K HV.out HJ.out.ok (m := m) (by rw [HL.out]; exact hm2) (by rw [h, htk, HL.out])⟩
  have G6 := Aside0.mk (⟨hR6, F5.out.bel.setCell (p := ⟨g, m, none⟩) hgb (.int .u8 (z : Int))⟩ : _ ∧ _)
  have HLN := Aside0.mk (And.intro hlen hb1)
  have hcap := (Kd.R_reads' F5.out.r).2.1
  have i1 : (m : Int) < (l.length : Int) := by omega
  have i2 : (m : Int) ≤ (k : Int) := by omega
  have i3 : m ≤ k := by omega
  have i4 : m ≤ l.length := by omega
  have HXB := Aside0.mk (And.intro hxb (And.intro hzz hl1))
  clear hR6 hlen hb1 htk hcells hgb hglt cells hxb hzz hl1 hrd hlm F F3 F4 e2
  go_upto_region 14 with (fail)
  clear hc hz hxor F5
  generalize World.setCell w5 ⟨g, m, none⟩ (.int .u8 (z : Int)) = w6 at G6 ⊢
  by_cases hy0 : yb = 0
  case pos =>
    subst hy0
    have hle1 : l1 = l := by
      rw [← HXB.out.2.2, ← HXB.out.2.1, Nat.xor_zero, ← HXB.out.1, List.set_getElem_self]
    go_wp2_with (first
      | (have X := G7s; go_at_call 26; refine (dec_no_n _ (some ⟨g, 0, none⟩) k (l1.take m) m (by rw [List.length_take]; have := HLN.out.1; omega) (Kd.C_take (Kd.C_below (Kd.R_reads' G6.out.1).2.2 G7s.out) (by have := HLN.out.1; omega)) (fun x hx => HLN.out.2 x (List.mem_of_mem_take hx)) (by omega) (by omega) HNT.out).mono ?_; rintro e w8 ⟨g8, rfl, hb⟩; have G8 := Aside0.mk (below_step (below_step G6.out.2 G7s.out) hb); clear hb)
      | (have X := G7; refine wpList_store_blk rfl rfl 60 _ _ rfl (heap_alloc_new w7 (.cells (jV .empty 0 0 nilS nilS nilS).toArray 60)) (jC j E1 f1 E2 f2 E3 f3) rfl rfl rfl info60 jC_one ?_
         intro wv y1 y2 y3
         have G7s := Aside0.mk ((below_alloc G7.out (.cells (jV .empty 0 0 nilS nilS nilS).toArray 60)).grown y2 (below_alloc G7.out _).size (fun k hk => by cases hk; exact G7.out.size))
         clear y1 y2 y3)
      | (go_at_call 26; refine (dec_yes_n w6 (some ⟨g, 0, none⟩) k l1 l.length HLN.out.1 (Kd.R_reads' G6.out.1).2.2 HLN.out.2 (by omega) (Kd.R_reads' G6.out.1).2.1 j HV.out HJ.out.ok (by rw [hle1]; exact HL.out)).mono ?_; rintro e w7 ⟨E1, f1, E2, f2, E3, f3, rfl, hb⟩; have G7 := Aside0.mk hb; clear hb)
      | (go_at_call 25; refine (awake_any _ (handle_below HH.out (below_alloc G8.out _))).mono ?_; rintro e w9 ⟨rfl, hb⟩; have G9 := Aside0.mk (below_step (below_alloc G8.out _) hb); clear hb)
      | go_in)
    go_ret
    exact ⟨rfl, HBW.out.trans (G9.out.mono HBW.out.size)⟩
  case neg =>
    have HN1 : Aside0 (∀ i, JnV i → JnOk i → encW i ≠ l1) := ⟨fun i V K h => enc_turned HV.out HJ.out.ok (m := m) (y := (z : Int)) (by rw [HL.out]; exact hm2) (by omega) (by
      have e1 : (encW j)[m]'(by rw [HL.out]; exact hm2) = l[m] := by congr 1; exact HL.out
      rw [e1, HXB.out.1, ← HXB.out.2.1]
      intro e
      exact xor_ne hy0 (Int.ofNat.inj e)) (by rw [h, HL.out, HXB.out.2.2])⟩
    go_wp2_with (first
      | (have X := G7; go_at_call 26; refine (dec_no_n _ (some ⟨g, 0, none⟩) k (l1.take m) m (by rw [List.length_take]; have := HLN.out.1; omega) (Kd.C_take (Kd.C_below (Kd.R_reads' G6.out.1).2.2 (below_alloc G7.out _)) (by have := HLN.out.1; omega)) (fun x hx => HLN.out.2 x (List.mem_of_mem_take hx)) (by omega) (by omega) HNT.out).mono ?_; rintro e w8 ⟨g8, rfl, hb⟩; have G8 := Aside0.mk (below_step (below_alloc (below_step G6.out.2 G7.out) _) hb); clear hb)
      | (go_at_call 26; refine (dec_no_n w6 (some ⟨g, 0, none⟩) k l1 l.length HLN.out.1 (Kd.R_reads' G6.out.1).2.2 HLN.out.2 (by omega) (Kd.R_reads' G6.out.1).2.1 HN1.out).mono ?_; rintro e w7 ⟨g7, rfl, hb⟩; have G7 := Aside0.mk hb; clear hb)
      | (go_at_call 25; refine (awake_any _ (handle_below HH.out (below_alloc G8.out _))).mono ?_; rintro e w9 ⟨rfl, hb⟩; have G9 := Aside0.mk (below_step (below_alloc G8.out _) hb); clear hb)
      | go_in)
    go_ret
    exact ⟨rfl, HBW.out.trans (G9.out.mono HBW.out.size)⟩
theorem law_form : Calls Tryz.prog 7 #[.agg (jC j A1 c1 A2 c2 A3 c3).toArray, .int .i64 at_, .int .u8 by_] w fun e w' => e = .returned (.bool true) ∧ Below w.heap.size w w' := by
  by_cases V : JnV j
  · exact form_yes j A1 c1 A2 c2 A3 c3 at_ by_ w hJ hy hH V
  · exact form_no j A1 c1 A2 c2 A3 c3 at_ by_ w hJ hH V
end
end Go.Proofs.YtdekmeanlcpenaaGreatDoor.Law
