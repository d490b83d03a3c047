import Derived.Test.YtdekmeanlcpenaaGreatDoorCg13
import Derived.Test.YtdekmeanlcpenaaGreatDoorCg5
import Derived.Test.YtdekmeanlcpenaaGreatDoorCg1
import Derived.Test.YtdekmeanlcpenaaGreatDoorCg11
import Derived.Test.YtdekmeanlcpenaaGreatDoorCg6
set_option linter.unusedSimpArgs false
set_option linter.unusedVariables false
namespace Go.Proofs.YtdekmeanlcpenaaGreatDoor.Block
end Go.Proofs.YtdekmeanlcpenaaGreatDoor.Block
namespace Go.Proofs.YtdekmeanlcpenaaGreatDoor.Codec
end Go.Proofs.YtdekmeanlcpenaaGreatDoor.Codec
namespace Go.Proofs.YtdekmeanlcpenaaGreatDoor.Err
end Go.Proofs.YtdekmeanlcpenaaGreatDoor.Err
namespace Go.Proofs.YtdekmeanlcpenaaGreatDoor.Mid
end Go.Proofs.YtdekmeanlcpenaaGreatDoor.Mid
namespace Go.Proofs.YtdekmeanlcpenaaGreatDoor.Pick
end Go.Proofs.YtdekmeanlcpenaaGreatDoor.Pick
namespace Go.Proofs.YtdekmeanlcpenaaGreatDoor.Codec
open Go.RowKit Go.Proofs.YtdekmeanlcpenaaGreatDoorW.PrintWords Go.Proofs.YtdekmeanlcpenaaGreatDoor.Mid Go.Proofs.YtdekmeanlcpenaaGreatDoor.Pick Go.Proofs.YtdekmeanlcpenaaGreatDoor.Block
attribute [local go_sem ↓ high] load33_eq load29_eq load60_eq build69_eq build29_eq
attribute [local simp] rowOf_drew rowOf_drewN
attribute [local go_sem high] load33_row load29_row load60_row rowOf_drew rowOf_drewN bld29_none
set_option maxHeartbeats 4000000
set_option maxRecDepth 100000
def opDec : ByteArray := { data := #[105, 110, 116, 97, 107, 101, 46, 100, 101, 99, 111, 100, 101] }
section
variable (W : World) (A : Option Addr) (c : Nat) (l : List Int) (hC : Kd.C (Kd.int .u8) W A l.length l) (hb : Byt l) (hl : l.length ≤ 140737488351232) (hcp : l.length ≤ c)
include hC hb hl hcp
theorem jread_yes (j : Jn) (V : JnV j) (K : JnOk j) (he : encW j = l) :
    Calls Tryz.prog 65 #[.slice A l.length c] W fun e w' => ∃ A1 c1 A2 c2 A3 c3, e = .returned (.tuple #[.agg (jC j A1 c1 A2 c2 A3 c3).toArray, .bool true]) ∧ Kd.R resK 33 w' W.heap.size (fun _ => True) (.slice A1 j.res.length c1) j.res ∧ Kd.R idK 29 w' W.heap.size (fun _ => True) (.slice A2 j.need.length c2) j.need ∧ Kd.R resK 33 w' W.heap.size (fun _ => True) (.slice A3 j.tab.length c3) j.tab ∧ Below W.heap.size W w' :=
  (jread_any W A c l hC hb hl hcp).mono fun e w' h => by
    cases h with
    | yes i A1 c1 A2 c2 A3 c3 V' K' hl' he' h1 h2 h3 hB =>
      obtain rfl := enc_inj V' K' V K (hl'.trans he.symm)
      exact ⟨A1, c1, A2, c2, A3, c3, he', h1, h2, h3, hB⟩
    | no hn _ _ _ _ _ => exact absurd he (hn j V K)
theorem jread_no (hn : ∀ j, JnV j → JnOk j → encW j ≠ l) :
    Calls Tryz.prog 65 #[.slice A l.length c] W fun e w' => ∃ cs : List Value, cs.length = 6 ∧ (∀ v ∈ cs, v.oneCell' = true) ∧ e = .returned (.tuple #[.agg cs.toArray, .bool false]) ∧ Below W.heap.size W w' :=
  (jread_any W A c l hC hb hl hcp).mono fun e w' h => by
    cases h with
    | yes i A1 c1 A2 c2 A3 c3 V' K' hl' he' h1 h2 h3 hB => exact absurd hl' (hn i V' K')
    | no _ cs h1 h2 h3 h4 => exact ⟨cs, h1, h2, h3, h4⟩
theorem dec_yes (j : Jn) (V : JnV j) (K : JnOk j) (he : encW j = l) :
    Calls Tryz.prog 26 #[.slice A l.length c] W fun e w' => ∃ A1 c1 A2 c2 A3 c3, e = .returned (.tuple #[.agg (jC j A1 c1 A2 c2 A3 c3).toArray, .nilIface]) ∧ Kd.R resK 33 w' W.heap.size (fun _ => True) (.slice A1 j.res.length c1) j.res ∧ Kd.R idK 29 w' W.heap.size (fun _ => True) (.slice A2 j.need.length c2) j.need ∧ Kd.R resK 33 w' W.heap.size (fun _ => True) (.slice A3 j.tab.length c3) j.tab ∧ Below W.heap.size W w' := by
  have HC := Aside0.mk hC
  have HB := Aside0.mk hb
  have HV := Aside0.mk V
  have HK := Aside0.mk K
  have HE := Aside0.mk he
  have HCP := Aside0.mk hcp
  clear hC hb V K he hcp
  go_enter Tryz.func26, Tryz.ntmps26
  go_upto_region 1 with (fail)
  obtain ⟨q2, hq2⟩ : ∃ q2, W.heap.size = q2 := ⟨_, rfl⟩
  obtain ⟨W1, hW1⟩ : ∃ W1, W.alloc (.cells (jV .empty 0 0 nilS nilS nilS).toArray 60) = W1 := ⟨_, rfl⟩
  have HO1 : Aside0 (W1.heap[q2]? = some (.cells (jV .empty 0 0 nilS nilS nilS).toArray 60 (0, 0)) ∧ Below W.heap.size W W1 ∧ W.heap.size = q2 ∧ q2 < W1.heap.size) := ⟨by rw [← hW1, ← hq2]; exact ⟨heap_alloc_new W _, below_alloc (Below.refl _ _) _, rfl, by simp⟩⟩
  unfold jV nilS at hW1
  have hW1' : W.alloc (.cells #[.string ⟨#[]⟩, .int .i64 0, .int .i64 0, .slice none 0 0, .slice none 0 0, .slice none 0 0] 60) = W1 := hW1
  rw [hW1', hq2]
  clear hW1 hW1' hq2
  go_upto_region 2 with (first
    | (have X := S1; refine wpList_store_blk rfl rfl 60 _ _ rfl (heap_alloc_new w1 (.cells (jV .empty 0 0 nilS nilS nilS).toArray 60)) (jC j A1 c1 A2 c2 A3 c3) rfl rfl rfl info60 jC_one ?_
       intro wy y1 y2 y3
       have S4 := Aside0.mk (And.intro y1 y2)
       clear y1 y2 y3)
    | (go_at_call 65; refine (jread_yes W1 A c l (Kd.C_below HC.out HO1.out.2.1) HB.out hl HCP.out j HV.out HK.out HE.out).mono ?_
       rintro e w1 ⟨A1, c1, A2, c2, A3, c3, rfl, r1, r2, r3, hb1⟩
       have S1 := Aside0.mk (⟨r1, r2, r3, hb1⟩ : _ ∧ _ ∧ _ ∧ _)
       clear r1 r2 r3 hb1)
    | go_in)
  have hld : rowOf wy ⟨w1.heap.size, 0, none⟩ 6 = some (jC j A1 c1 A2 c2 A3 c3) := jrow S4.out.1
  have hs1 := S1.out.2.2.2.size
  have hq2 := HO1.out.2.2
  have H2 := Aside0.mk (blk_grown (blk_below (blk_below HO1.out.1 S1.out.2.2.2) (below_alloc (Below.refl _ _) _)) S4.out.2 (fun e => absurd (Option.some.inj e) (by omega)))
  have R1 := Aside0.mk (Kd.R_grown1 (Kd.R_alloc S1.out.1 _) rfl S4.out.2 (fun e => absurd (Kd.R_lt S1.out.1 _ e.symm) (Nat.lt_irrefl _)))
  have R2 := Aside0.mk (Kd.R_grown1 (Kd.R_alloc S1.out.2.1 _) rfl S4.out.2 (fun e => absurd (Kd.R_lt S1.out.2.1 _ e.symm) (Nat.lt_irrefl _)))
  have R3 := Aside0.mk (Kd.R_grown1 (Kd.R_alloc S1.out.2.2.1 _) rfl S4.out.2 (fun e => absurd (Kd.R_lt S1.out.2.2.1 _ e.symm) (Nat.lt_irrefl _)))
  have BY := Aside0.mk ((HO1.out.2.1.trans ((below_alloc S1.out.2.2.2 _).mono HO1.out.2.1.size)).grown S4.out.2 (by have := HO1.out.2.1.size; simp; omega) (fun k hk => by cases hk; omega))
  clear hs1 hq2
  go_wp2_with (first
    | (refine wpList_store_blk rfl rfl 60 _ _ rfl H2.out (jC j A1 c1 A2 c2 A3 c3) rfl rfl rfl info60 jC_one ?_
       intro wz z1 z2 z3
       have HZ := Aside0.mk (And.intro z1 z2)
       clear z1 z2 z3)
    | go_in)
  refine bodyPost_ret (results_ct60 (by rfl) rfl _ _ q2 rfl HZ.out.1) rfl ?_
  have hlo := HO1.out.2.1.size
  have hq := HO1.out.2.2
  have hne : ∀ k, W1.heap.size ≤ k → some q2 ≠ some k := fun k h1 e => by have := Option.some.inj e; omega
  exact ⟨A1, c1, A2, c2, A3, c3, rfl, Kd.R_lower (Kd.R_grown1 R1.out rfl HZ.out.2 (fun e => by have h1 := Kd.R_base S1.out.1 _ e.symm; omega)) hlo, Kd.R_lower (Kd.R_grown1 R2.out rfl HZ.out.2 (fun e => by have h1 := Kd.R_base S1.out.2.1 _ e.symm; omega)) hlo, Kd.R_lower (Kd.R_grown1 R3.out rfl HZ.out.2 (fun e => by have h1 := Kd.R_base S1.out.2.2.1 _ e.symm; omega)) hlo,
    BY.out.grown HZ.out.2 BY.out.size (fun k hk => by cases hk; omega)⟩
theorem dec_no (hn : ∀ j, JnV j → JnOk j → encW j ≠ l) :
    Calls Tryz.prog 26 #[.slice A l.length c] W fun e w' => ∃ g, e = .returned (.tuple #[.agg (jV .empty 0 0 nilS nilS nilS).toArray, .iface 79 (.pointer (some ⟨g, 0, none⟩))]) ∧ W.heap.size ≤ g ∧ w'.heap[g]? = some (.cells (faultC opDec .empty z32 (errno 161)).toArray 82 (0, 0)) ∧ Below W.heap.size W w' := by
  have HC := Aside0.mk hC
  have HB := Aside0.mk hb
  have HN := Aside0.mk hn
  have HCP := Aside0.mk hcp
  have hbb := fun u => bld69_two u opDec (errno 161) rfl
  unfold opDec errno at hbb
  have hb60 : ∀ u : World, (Instr.build 60 #[]).run Tryz.prog u = .ok (.agg #[.string ⟨#[]⟩, .int .i64 0, .int .i64 0, .slice none 0 0, .slice none 0 0, .slice none 0 0]) u := fun u => by kernel_rfl
  clear hC hb hn hcp
  go_enter Tryz.func26, Tryz.ntmps26
  go_upto_region 1 with (fail)
  obtain ⟨q2, hq2⟩ : ∃ q2, W.heap.size = q2 := ⟨_, rfl⟩
  obtain ⟨W1, hW1⟩ : ∃ W1, W.alloc (.cells (jV .empty 0 0 nilS nilS nilS).toArray 60) = W1 := ⟨_, rfl⟩
  have HO1 : Aside0 (W1.heap[q2]? = some (.cells (jV .empty 0 0 nilS nilS nilS).toArray 60 (0, 0)) ∧ Below W.heap.size W W1 ∧ W.heap.size = q2 ∧ q2 < W1.heap.size) := ⟨by rw [← hW1, ← hq2]; exact ⟨heap_alloc_new W _, below_alloc (Below.refl _ _) _, rfl, by simp⟩⟩
  unfold jV nilS at hW1
  have hW1' : W.alloc (.cells #[.string ⟨#[]⟩, .int .i64 0, .int .i64 0, .slice none 0 0, .slice none 0 0, .slice none 0 0] 60) = W1 := hW1
  rw [hW1', hq2]
  clear hW1 hW1' hq2
  go_upto_region 2 with (first
    | (have X := S1; refine wpList_store_blk rfl rfl 60 _ _ rfl (heap_alloc_new w1 (.cells (jV .empty 0 0 nilS nilS nilS).toArray 60)) cs rfl rfl (by rw [S1.out.1]; rfl) (by rw [S1.out.1]; exact info60) S1.out.2.1 ?_
       intro wy y1 y2 y3
       have S4 := Aside0.mk (And.intro y1 y2)
       clear y1 y2 y3)
    | (go_at_call 65; refine (jread_no W1 A c l (Kd.C_below HC.out HO1.out.2.1) HB.out hl HCP.out HN.out).mono ?_
       rintro e w1 ⟨cs, h1, h2, rfl, hb1⟩
       have S1 := Aside0.mk (⟨h1, h2, hb1⟩ : _ ∧ _ ∧ _)
       clear h1 h2 hb1)
    | go_in)
  have hs1 := S1.out.2.2.size
  have hq2 := HO1.out.2.2
  have H2 := Aside0.mk (blk_grown (blk_below (blk_below HO1.out.1 S1.out.2.2) (below_alloc (Below.refl _ _) _)) S4.out.2 (fun e => absurd (Option.some.inj e) (by omega)))
  have BY := Aside0.mk ((HO1.out.2.1.trans ((below_alloc S1.out.2.2 _).mono HO1.out.2.1.size)).grown S4.out.2 (by have := HO1.out.2.1.size; simp; omega) (fun k hk => by cases hk; omega))
  clear hs1 hq2
  go_wp2_with (first
    | (refine wpList_store_blk rfl rfl 60 _ _ rfl (blk_below H2.out (below_alloc (Below.refl _ _) _)) (jV .empty 0 0 nilS nilS nilS) rfl rfl rfl info60 (jV_one rfl rfl rfl) ?_
       intro wz z1 z2 z3
       have HZ := Aside0.mk (And.intro z1 z2)
       clear z1 z2 z3)
    | go_in)
  refine bodyPost_ret (results_ct60 (by rfl) rfl _ _ q2 rfl HZ.out.1) rfl ?_
  have hq := HO1.out.2.2
  have hqy := blk_lt H2.out
  exact ⟨wy.heap.size, rfl, BY.out.size, blk_grown (heap_alloc_new wy _) HZ.out.2 (fun e => absurd (Option.some.inj e) (by omega)), (below_alloc BY.out _).grown HZ.out.2 (below_alloc BY.out _).size (fun k hk => by cases hk; omega)⟩
end
end Go.Proofs.YtdekmeanlcpenaaGreatDoor.Codec

namespace Go.Proofs.YtdekmeanlcpenaaGreatDoor.Err
open Go.RowKit Go.Extern.Stop Go.Stop Go.Extern Go.Proofs.YtdekmeanlcpenaaGreatDoorW.PrintWords
set_option maxHeartbeats 4000000
set_option maxRecDepth 100000
theorem valueOf126 (t : Addr) (w : World) : (ReflectliteValue.unpack (.iface 126 (.pointer (some t)))).run Tryz.prog w
    = .ok (.agg #[.pointer (some ⟨4, 126, none⟩), .pointer (some ⟨w.heap.size, 0, none⟩), .int .u64 150]) (w.alloc (.cells #[.pointer (some t)] 126)) := by kernel_rfl
theorem valueOf79 (t : Addr) (w : World) : (ReflectliteValue.unpack (.iface 79 (.pointer (some t)))).run Tryz.prog w
    = .ok (.agg #[.pointer (some ⟨4, 79, none⟩), .pointer (some ⟨w.heap.size, 0, none⟩), .int .u64 150]) (w.alloc (.cells #[.pointer (some t)] 79)) := by kernel_rfl
theorem type126 (a : Addr) (w : World) : (ReflectliteValue.methodAny (ReflectliteValue.valueError "reflectlite.Value.Type" 0) (fun t _ _ _ => ReflectliteType.toType t) #[.agg #[.pointer (some ⟨4, 126, none⟩), .pointer (some a), .int .u64 150]]).run Tryz.prog w
    = .ok (.iface 211 (.agg #[.pointer (some ⟨4, 126, none⟩)])) w := by kernel_rfl
theorem kind126 (w : World) : ((ReflectliteType.abiMethod fun t => (fun a : Nat => Value.int IntKind.u8 (a : Int)) <$> Rtype.kind t) #[.pointer (some ⟨4, 126, none⟩)]).run Tryz.prog w = .ok (.int .u8 22) w := by kernel_rfl
theorem kind79 (w : World) : ((ReflectliteType.abiMethod fun t => (fun a : Nat => Value.int IntKind.u8 (a : Int)) <$> Rtype.kind t) #[.pointer (some ⟨4, 79, none⟩)]).run Tryz.prog w = .ok (.int .u8 22) w := by kernel_rfl
theorem parts126 (a : Addr) (w : World) : (ReflectliteValue.parts (.agg #[.pointer (some ⟨4, 126, none⟩), .pointer (some a), .int .u64 150])).run Tryz.prog w = .ok (some (126, a, 150)) w := by kernel_rfl
theorem isNil126 (a p : Addr) (W : World) (ha : W.cell? a = some (.pointer (some p))) :
    (ReflectliteValue.method (ReflectliteValue.valueError "reflectlite.Value.IsNil" 0) ReflectliteValue.isNil #[.agg #[.pointer (some ⟨4, 126, none⟩), .pointer (some a), .int .u64 150]]).run Tryz.prog W = .ok (.bool false) W := by
  rw [rlm]
  simp only [Sem.run_bind, parts126, Result.andThen]
  simp [ReflectliteValue.isNil, loadVar, isAgg, underlying, Tryz.underlying126, ha, Result.andThen]
theorem elem126 (w : World) : (ReflectliteType.method ReflectliteType.elem #[.agg #[.pointer (some ⟨4, 126, none⟩)]]).run Tryz.prog w = .ok (.iface 211 (.agg #[.pointer (some ⟨4, 79, none⟩)])) w := by kernel_rfl
theorem implements79 (w : World) : (ReflectliteType.relation "Implements" ReflectliteType.implements_ #[.agg #[.pointer (some ⟨4, 79, none⟩)], .iface 211 (.agg #[.pointer (some ⟨4, 35, none⟩)])]).run Tryz.prog w = .ok (.bool true) w := by kernel_rfl
theorem assignable7979 (w : World) : (ReflectliteType.relation "AssignableTo" ReflectliteType.assignableTo #[.agg #[.pointer (some ⟨4, 79, none⟩)], .iface 211 (.agg #[.pointer (some ⟨4, 79, none⟩)])]).run Tryz.prog w = .ok (.bool true) w := by kernel_rfl
theorem elemOf126 (w : World) : (Rtype.elem? 126).run Tryz.prog w = .ok (some 79) w := by kernel_rfl
theorem mk79 (p : Addr) (w : World) : (ReflectliteValue.mk 79 p ReflectliteValue.flagAddr).run Tryz.prog w = .ok (.agg #[.pointer (some ⟨4, 79, none⟩), .pointer (some p), .int .u64 406]) w := by kernel_rfl
theorem elemV126 (a p : Addr) (W : World) (ha : W.cell? a = some (.pointer (some p))) :
    (ReflectliteValue.method (ReflectliteValue.valueError "reflectlite.Value.Elem" 0) ReflectliteValue.elem #[.agg #[.pointer (some ⟨4, 126, none⟩), .pointer (some a), .int .u64 150]]).run Tryz.prog W
      = .ok (.agg #[.pointer (some ⟨4, 79, none⟩), .pointer (some p), .int .u64 406]) W := by
  rw [rlm]
  simp only [Sem.run_bind, parts126, Result.andThen]
  simp [ReflectliteValue.elem, loadVar, isAgg, underlying, Tryz.underlying126, ha, Result.andThen, elemOf126, mk79]
theorem parts79a (a : Addr) (w : World) : (ReflectliteValue.parts (.agg #[.pointer (some ⟨4, 79, none⟩), .pointer (some a), .int .u64 406])).run Tryz.prog w = .ok (some (79, a, 406)) w := by kernel_rfl
theorem parts79 (a : Addr) (w : World) : (ReflectliteValue.parts (.agg #[.pointer (some ⟨4, 79, none⟩), .pointer (some a), .int .u64 150])).run Tryz.prog w = .ok (some (79, a, 150)) w := by kernel_rfl
theorem direct79 (w : World) : (Rtype.directlyAssignable 79 79).run Tryz.prog w = .ok true w := by kernel_rfl
theorem set79 (ta b : Addr) (p : Addr) (old : Value) (W : World) (hb : W.cell? b = some (.pointer (some p))) (ht : W.cell? ta = some old) (hf : W.frozen? ta = false) :
    (ReflectliteValue.set #[.agg #[.pointer (some ⟨4, 79, none⟩), .pointer (some ta), .int .u64 406], .agg #[.pointer (some ⟨4, 79, none⟩), .pointer (some b), .int .u64 150]]).run Tryz.prog W
      = .ok (.tuple #[]) (W.setCell ta (.pointer (some p))) := by
  rw [rls]
  simp only [Sem.run_bind, parts79a, parts79, Result.andThen]
  simp [ReflectliteValue.flagAddr, loadVar, isAgg, underlying, Tryz.underlying79, hb, Result.andThen, direct79, storeVar, Value.cells, storeCells, Addr.add]
  rw [run_store Tryz.prog W ta _ _ (by rfl)]
  simp [ht, hf]
/-- errors.as at a fault, the target a fault's variable. -/
theorem asF106 (g : Nat) (a t : Addr) (old : Value) (w : World) (ha : w.cell? a = some (.pointer (some t))) (ht0 : w.cell? t = some old) (hf0 : w.frozen? t = false) :
    Calls Tryz.prog 106 #[.iface 79 (.pointer (some ⟨g, 0, none⟩)), .iface 126 (.pointer (some t)), .agg #[.pointer (some ⟨4, 126, none⟩), .pointer (some a), .int .u64 150], .iface 211 (.agg #[.pointer (some ⟨4, 79, none⟩)])] w
      fun e w' => e = .returned (.bool true) ∧ w' = ((w.alloc (.cells #[.pointer (some ⟨4, 126, none⟩), .pointer (some a), .int .u64 150] 192)).alloc (.cells #[.pointer (some ⟨g, 0, none⟩)] 79)).setCell t (.pointer (some ⟨g, 0, none⟩)) := by
  have h64 := @run_callFunc_extern Tryz.prog 76 _ ReflectliteType.typeOf Tryz.func76 (by kernel_rfl) (by kernel_rfl) (by kernel_rfl) (by kernel_rfl)
  have h356 := @run_callFunc_extern Tryz.prog 358 _ (ReflectliteType.relation "AssignableTo" ReflectliteType.assignableTo) Tryz.func358 (by kernel_rfl) (by kernel_rfl) (by kernel_rfl) (by kernel_rfl)
  have h119 := @run_callFunc_extern Tryz.prog 143 _ (ReflectliteValue.method (ReflectliteValue.valueError "reflectlite.Value.Elem" 0) ReflectliteValue.elem) Tryz.func143 (by kernel_rfl) (by kernel_rfl) (by kernel_rfl) (by kernel_rfl)
  have h120 := @run_callFunc_extern Tryz.prog 144 _ ReflectliteValue.set Tryz.func144 (by kernel_rfl) (by kernel_rfl) (by kernel_rfl) (by kernel_rfl)
  have h85 := @run_callFunc_extern Tryz.prog 103 _ (fun args => ReflectliteValue.unpack (args.getD 0 (.tuple #[]))) Tryz.func103 (by kernel_rfl) (by kernel_rfl) (by kernel_rfl) (by kernel_rfl)
  have tO6 := typeOf66
  have mA := methodAssignableTo
  have a1 := assignable7979
  have v79 := valueOf79
  have halt := lt_of_cell ha
  have htl := lt_of_cell ht0
  have el := elemV126 a t (w.alloc (.cells #[.pointer (some ⟨4, 126, none⟩), .pointer (some a), .int .u64 150] 192)) (by rw [World.cell?_alloc_lt _ _ a halt]; exact ha)
  have st := set79 t ⟨w.heap.size + 1, 0, none⟩ ⟨g, 0, none⟩ old ((w.alloc (.cells #[.pointer (some ⟨4, 126, none⟩), .pointer (some a), .int .u64 150] 192)).alloc (.cells #[.pointer (some ⟨g, 0, none⟩)] 79))
    (by rw [World.cell?_alloc_at _ _ _ _ (by simp)]; rfl)
    (by rw [World.cell?_alloc_lt _ _ t (by simp; omega), World.cell?_alloc_lt _ _ t htl]; exact ht0)
    (by rw [World.frozen?_alloc_old _ _ t (by simp; omega), World.frozen?_alloc_old _ _ t (Nat.ne_of_lt htl)]; exact hf0)
  go_enter Tryz.func106, Tryz.ntmps106
  go_wp2
  refine wp_loop_rounds 1 ?_
  rw [rounds_succ]
  go_wp2
  go_ret
  exact ⟨rfl, rfl⟩
/-- errors.As at a fault, the target a fault's variable. -/
theorem asF61 (g : Nat) (t : Addr) (old : Value) (w : World) (hg : Handle w) (ht0 : w.cell? t = some old) (hf0 : w.frozen? t = false) :
    Calls Tryz.prog 61 #[.iface 79 (.pointer (some ⟨g, 0, none⟩)), .iface 126 (.pointer (some t))] w
      fun e w' => e = .returned (.bool true) ∧ ∃ w2 : World, Below w.heap.size w w2 ∧ w' = w2.setCell t (.pointer (some ⟨g, 0, none⟩)) := by
  have h85 := @run_callFunc_extern Tryz.prog 103 _ (fun args => ReflectliteValue.unpack (args.getD 0 (.tuple #[]))) Tryz.func103 (by kernel_rfl) (by kernel_rfl) (by kernel_rfl) (by kernel_rfl)
  have h86 := @run_callFunc_extern Tryz.prog 104 _ (ReflectliteValue.methodAny (ReflectliteValue.valueError "reflectlite.Value.Type" 0) (fun t _ _ _ => ReflectliteType.toType t)) Tryz.func104 (by kernel_rfl) (by kernel_rfl) (by kernel_rfl) (by kernel_rfl)
  have h87 := @run_callFunc_extern Tryz.prog 105 _ (ReflectliteValue.method (ReflectliteValue.valueError "reflectlite.Value.IsNil" 0) ReflectliteValue.isNil) Tryz.func105 (by kernel_rfl) (by kernel_rfl) (by kernel_rfl) (by kernel_rfl)
  have h345 := @run_callFunc_extern Tryz.prog 347 _ (ReflectliteType.abiMethod fun t => do pure (.int .u8 (← Rtype.kind t))) Tryz.func347 (by kernel_rfl) (by kernel_rfl) (by kernel_rfl) (by kernel_rfl)
  have h358 := @run_callFunc_extern Tryz.prog 360 _ (ReflectliteType.method ReflectliteType.elem) Tryz.func360 (by kernel_rfl) (by kernel_rfl) (by kernel_rfl) (by kernel_rfl)
  have h359 := @run_callFunc_extern Tryz.prog 361 _ (ReflectliteType.relation "Implements" ReflectliteType.implements_) Tryz.func361 (by kernel_rfl) (by kernel_rfl) (by kernel_rfl) (by kernel_rfl)
  have f6 := valueOf126
  have f7 := type126
  have mK := methodKind
  have mE := methodElem
  have mI := methodImplements
  have k1 := kind126
  have k2 := kind79
  have e1 := elem126
  have i1 := implements79
  have hlt : 0 < w.heap.size := lt_of_cell hg
  have htl := lt_of_cell ht0
  have n8 := isNil126 ⟨w.heap.size, 0, none⟩ t ((w.alloc (.cells #[.pointer (some t)] 126)).alloc (.cells #[.pointer (some ⟨4, 126, none⟩), .pointer (some ⟨w.heap.size, 0, none⟩), .int .u64 150] 192)) (by simp)
  have hg2 : ((w.alloc (.cells #[.pointer (some t)] 126)).alloc (.cells #[.pointer (some ⟨4, 126, none⟩), .pointer (some ⟨w.heap.size, 0, none⟩), .int .u64 150] 192)).cell? ⟨0, 0, none⟩ = some (.iface 211 (.agg #[.pointer (some ⟨4, 35, none⟩)])) := by
    rw [World.cell?_alloc_lt _ _ ⟨0, 0, none⟩ (by simp), World.cell?_alloc_lt _ _ ⟨0, 0, none⟩ hlt]; exact hg
  have ha2 : ((w.alloc (.cells #[.pointer (some t)] 126)).alloc (.cells #[.pointer (some ⟨4, 126, none⟩), .pointer (some ⟨w.heap.size, 0, none⟩), .int .u64 150] 192)).cell? ⟨w.heap.size, 0, none⟩ = some (.pointer (some t)) := by simp
  have ht2 : ((w.alloc (.cells #[.pointer (some t)] 126)).alloc (.cells #[.pointer (some ⟨4, 126, none⟩), .pointer (some ⟨w.heap.size, 0, none⟩), .int .u64 150] 192)).cell? t = some old := by
    rw [World.cell?_alloc_lt _ _ t (by simp; omega), World.cell?_alloc_lt _ _ t htl]; exact ht0
  have hf2 : ((w.alloc (.cells #[.pointer (some t)] 126)).alloc (.cells #[.pointer (some ⟨4, 126, none⟩), .pointer (some ⟨w.heap.size, 0, none⟩), .int .u64 150] 192)).frozen? t = false := by
    rw [World.frozen?_alloc_old _ _ t (by simp; omega), World.frozen?_alloc_old _ _ t (Nat.ne_of_lt htl)]; exact hf0
  go_enter Tryz.func61, Tryz.ntmps61
  go_wp2_with (first
    | (go_at_call 106; refine (asF106 g ⟨w.heap.size, 0, none⟩ t old _ ha2 ht2 hf2).mono ?_; rintro e w' ⟨rfl, rfl⟩)
    | go_in)
  go_ret
  exact ⟨rfl, _, below_alloc (below_alloc (below_alloc (below_alloc (Below.refl _ _) _) _) _) _, rfl⟩
end Go.Proofs.YtdekmeanlcpenaaGreatDoor.Err

namespace Go.Proofs.YtdekmeanlcpenaaGreatDoor.Law
open Go.RowKit Go.Proofs.YtdekmeanlcpenaaGreatDoorW.PrintWords Go.Proofs.YtdekmeanlcpenaaGreatDoor.Mid Go.Proofs.YtdekmeanlcpenaaGreatDoor.Pick Go.Proofs.YtdekmeanlcpenaaGreatDoor.Err
attribute [local go_sem ↓ high] load33_eq load29_eq build69_eq build33_eq build29_eq
attribute [local simp] rowOf_drew rowOf_drewN
attribute [local go_sem high] load33_row load29_row rowOf_drew rowOf_drewN
set_option maxHeartbeats 4000000
set_option maxRecDepth 100000
theorem grownSet (w : World) (p : Addr) (v : Value) : w.grownBy (w.setCell p v) (some p.block) := ⟨rfl, rfl, rfl, by simp [World.setCell], fun k _ hk => Below.heap_setCell w p v k (fun e => hk (by rw [e]))⟩
theorem says_nil (op name : ByteArray) (id : List Int) (w : World) : Calls Tryz.prog 21 #[.nilIface, .string op, .string name, .int .i64 0, idv id] w fun e w' => e = .returned (.bool true) ∧ Below w.heap.size w w' := by
  go_enter Tryz.func21, Tryz.ntmps21
  go_wp2
  go_ret
  exact ⟨rfl, below_alloc (Below.refl _ _) _⟩
theorem says_some (op name : ByteArray) (id : List Int) (n : Int) (hn : n ≠ 0) (hid : IdOk id) (g : Nat) (w : World) (hH : Handle w) (hf : w.heap[g]? = some (.cells (faultC op name id (errno n)).toArray 82 (0, 0))) :
    Calls Tryz.prog 21 #[.iface 79 (.pointer (some ⟨g, 0, none⟩)), .string op, .string name, .int .i64 n, idv id] w fun e w' => e = .returned (.bool true) ∧ Below w.heap.size w w' := by
  obtain ⟨W, hW⟩ : ∃ W, W = w.alloc (.cells (u8s id).toArray 29) := ⟨_, rfl⟩
  have hBW : Below w.heap.size w W := hW ▸ below_alloc (Below.refl _ _) _
  have hbx : At W ⟨w.heap.size, 0, none⟩ (u8s id) := hW ▸ At.new w (u8s id) 29
  obtain ⟨t, ht⟩ : ∃ t, w.heap.size + 1 = t := ⟨_, rfl⟩
  have hsz : W.heap.size = t := by rw [← ht, hW]; simp
  obtain ⟨V, hV⟩ : ∃ V, V = W.alloc (.cells #[.pointer none] 79) := ⟨_, rfl⟩
  have hWV : Below W.heap.size W V := hV ▸ below_alloc (Below.refl _ _) _
  have hBV : Below w.heap.size w V := below_step hBW hWV
  have hHV : Handle V := handle_below hH hBV
  have ht0 : V.cell? ⟨t, 0, none⟩ = some (.pointer none) := by rw [hV, ← hsz]; simp
  have hf0 : V.frozen? ⟨t, 0, none⟩ = false := by rw [hV, ← hsz]; simp
  have hbx1 : At V ⟨w.heap.size, 0, none⟩ (u8s id) := hbx.below hWV
  have hfV : V.heap[g]? = some (.cells (faultC op name id (errno n)).toArray 82 (0, 0)) := (hBV.block _ (blk_lt hf)).trans hf
  have hgl := blk_lt hf
  have HBV := Aside0.mk hBV
  have HV := Aside0.mk hV
  have HW := Aside0.mk hW
  have HT := Aside0.mk ht
  have HHV := Aside0.mk hHV
  have HT0 := Aside0.mk ht0
  have HF0 := Aside0.mk hf0
  have HBX := Aside0.mk hbx1
  have HFV := Aside0.mk hfV
  have HGL : Aside0 (g < w.heap.size ∧ t = w.heap.size + 1 ∧ V.heap.size = t + 1) := ⟨hgl, ht.symm, by rw [hV, ← hsz]; simp⟩
  clear hbx hBW hWV hBV hHV ht0 hf0 hbx1 hfV hgl hf hH hV hW hsz ht
  unfold idv
  go_enter Tryz.func21, Tryz.ntmps21
  go_upto_region 4 with (fail)
  rw [← HW.out, ← HV.out, HT.out]
  go_upto_region 6 with (first
    | (go_at_call 61; refine (asF61 g ⟨t, 0, none⟩ _ _ HHV.out HT0.out HF0.out).mono ?_; rintro e w1 ⟨rfl, w2, hb2, rfl⟩
       have ht2 : (w2.setCell ⟨t, 0, none⟩ (.pointer (some ⟨g, 0, none⟩))).cell? ⟨t, 0, none⟩ = some (.pointer (some ⟨g, 0, none⟩)) := World.cell?_setCell_same _ _ _ (pw_cell_below hb2 HT0.out)
       have HB2 := Aside0.mk hb2
       clear hb2)
    | go_in)
  obtain ⟨U, hU⟩ : ∃ U, w2.setCell ⟨t, 0, none⟩ (.pointer (some ⟨g, 0, none⟩)) = U := ⟨_, rfl⟩
  have hG : w2.grownBy U (some t) := by rw [← hU]; exact grownSet w2 ⟨t, 0, none⟩ _
  have hgl := HGL.out
  have hFU : U.heap[g]? = some (.cells (faultC op name id (errno n)).toArray 82 (0, 0)) := blk_grown ((HB2.out.block _ (by omega)).trans HFV.out) hG (fun e => absurd (Option.some.inj e) (by omega))
  have hHU : Handle U := by
    have h1 := handle_below HHV.out HB2.out
    have h2 := lt_of_cell HHV.out
    have h3 := lt_of_cell h1
    simp only at h2 h3
    unfold Handle at h1 ⊢
    exact (World.cell?_of_block (w := w2) (hG.block 0 h3 (fun e => absurd (Option.some.inj e) (by omega)))).trans h1
  have hXU : At U ⟨w.heap.size, 0, none⟩ (u8s id) := (HBX.out.below HB2.out).grown (by have := HB2.out.size; simp only; omega) hG (fun e => absurd (Option.some.inj e) (by simp only; omega))
  have hBU : Below w.heap.size w U := (HBV.out.trans (HB2.out.mono HBV.out.size)).grown hG (by have := HB2.out.size; omega) (fun k hk => by cases hk; omega)
  have htl : t < U.heap.size := by have := hG.size; have := HB2.out.size; omega
  rw [hU] at ht2 ⊢
  have hfx : ∀ x : CW (Since U), x.w.heap[g]? = some (.cells (faultC op name id (errno n)).toArray 82 (0, 0)) := fun x => (x.h.block _ (blk_lt hFU)).trans hFU
  have ct : ∀ x : CW (Since U), x.w.cell? ⟨t, 0, none⟩ = some (.pointer (some ⟨g, 0, none⟩)) := fun x => (x.h.cell (p := ⟨t, 0, none⟩) htl).trans ht2
  have c0 : ∀ x : CW (Since U), x.w.cell? ⟨g, 0, none⟩ = some (.string op) := fun x => (fault_cells hid (hfx x)).1
  have c1 : ∀ x : CW (Since U), x.w.cell? ⟨g, 1, none⟩ = some (.string name) := fun x => (fault_cells hid (hfx x)).2.1
  have c2 : ∀ x : CW (Since U), rowOf x.w ⟨g, 2, none⟩ 32 = some (u8s id) := fun x => (fault_cells hid (hfx x)).2.2.1
  have c4 : ∀ x : CW (Since U), rowOf x.w ⟨w.heap.size, 0, none⟩ 32 = some (u8s id) := fun x => (hXU.below x.h).id hid
  have c34 : Aside0 (∀ x : CW (Since U), x.w.cell? ⟨g, 34, none⟩ = some (.iface 80 (.int .i64 n))) := ⟨fun x => (fault_cells hid (hfx x)).2.2.2⟩
  have hHx : Aside0 (∀ x : CW (Since U), Handle x.w) := ⟨fun x => handle_below hHU x.h⟩
  have heq : ∀ u, (Op.equalIn 10000 29 (.agg (u8s id).toArray) (.agg (u8s id).toArray)).run Tryz.prog u = .ok true u := fun u => by rw [eqI29 u _ _ hid hid, decide_eq_true rfl]
  have HBU := Aside0.mk hBU
  clear hfx hU hG hgl hFU hHU hXU hBU htl ht2
  refine wp_region_S (Since U) (by kernel_rfl) (by kernel_rfl) (since_drew U) ?_
  repeat (go_big_quiet_step (first
    | (go_at_call 34; refine calls_since (code_any g n _ (hHx.out _) (c34.out _)))))
  refine wpQuiet_nil ?_
  rintro w5 ⟨x5, e5⟩
  have hb5 : Since U w5 := e5 ▸ x5.h
  clear e5 x5
  go_wp2
  go_ret
  exact ⟨rfl, HBU.out.trans (hb5.mono HBU.out.size)⟩
end Go.Proofs.YtdekmeanlcpenaaGreatDoor.Law

namespace Go.Proofs.YtdekmeanlcpenaaGreatDoor.Err
open Go.RowKit Go.Extern.Stop Go.Stop Go.Extern Go.Proofs.YtdekmeanlcpenaaGreatDoorW.PrintWords
set_option maxHeartbeats 4000000
set_option maxRecDepth 100000
theorem assignable8079 (w : World) : (ReflectliteType.relation "AssignableTo" ReflectliteType.assignableTo #[.agg #[.pointer (some ⟨4, 80, none⟩)], .iface 211 (.agg #[.pointer (some ⟨4, 79, none⟩)])]).run Tryz.prog w = .ok (.bool false) w := by kernel_rfl
theorem noAs80 (v : Value) (xT : TypeId) (w : World) : (Instr.typeAssert (.iface 80 v) xT 255 true).run Tryz.prog w = .ok (.tuple #[.nilIface, .bool false]) w := run_typeAssert_lacksB Tryz.underlying255 (by kernel_rfl) (by kernel_rfl) v xT w
theorem noUn80 (v : Value) (xT : TypeId) (w : World) : (Instr.typeAssert (.iface 80 v) xT 216 true).run Tryz.prog w = .ok (.tuple #[.nilIface, .bool false]) w := run_typeAssert_lacksB Tryz.underlying216 (by kernel_rfl) (by kernel_rfl) v xT w
theorem noUs80 (v : Value) (xT : TypeId) (w : World) : (Instr.typeAssert (.iface 80 v) xT 218 true).run Tryz.prog w = .ok (.tuple #[.nilIface, .bool false]) w := run_typeAssert_lacksB Tryz.underlying218 (by kernel_rfl) (by kernel_rfl) v xT w
/-- errors.as at a bare number, the target a fault's variable. -/
theorem asN106 (n : Int) (a t : Addr) (w : World) :
    Calls Tryz.prog 106 #[.iface 80 (.int .i64 n), .iface 126 (.pointer (some t)), .agg #[.pointer (some ⟨4, 126, none⟩), .pointer (some a), .int .u64 150], .iface 211 (.agg #[.pointer (some ⟨4, 79, none⟩)])] w
      fun e w' => e = .returned (.bool false) ∧ w' = w.alloc (.cells #[.pointer (some ⟨4, 126, none⟩), .pointer (some a), .int .u64 150] 192) := by
  have h64 := @run_callFunc_extern Tryz.prog 76 _ ReflectliteType.typeOf Tryz.func76 (by kernel_rfl) (by kernel_rfl) (by kernel_rfl) (by kernel_rfl)
  have h356 := @run_callFunc_extern Tryz.prog 358 _ (ReflectliteType.relation "AssignableTo" ReflectliteType.assignableTo) Tryz.func358 (by kernel_rfl) (by kernel_rfl) (by kernel_rfl) (by kernel_rfl)
  have tO7 := typeOf67
  have mA := methodAssignableTo
  have a1 := assignable8079
  have nA := noAs80
  have nU := noUn80
  have nV := noUs80
  go_enter Tryz.func106, Tryz.ntmps106
  go_wp2
  refine wp_loop_rounds 1 ?_
  rw [rounds_succ]
  go_wp2
  go_ret
  exact ⟨rfl, rfl⟩
theorem asN61 (n : Int) (t : Addr) (old : Value) (w : World) (hg : Handle w) (ht0 : w.cell? t = some old) :
    Calls Tryz.prog 61 #[.iface 80 (.int .i64 n), .iface 126 (.pointer (some t))] w
      fun e w' => e = .returned (.bool false) ∧ Below w.heap.size w w' := by
  have h85 := @run_callFunc_extern Tryz.prog 103 _ (fun args => ReflectliteValue.unpack (args.getD 0 (.tuple #[]))) Tryz.func103 (by kernel_rfl) (by kernel_rfl) (by kernel_rfl) (by kernel_rfl)
  have h86 := @run_callFunc_extern Tryz.prog 104 _ (ReflectliteValue.methodAny (ReflectliteValue.valueError "reflectlite.Value.Type" 0) (fun t _ _ _ => ReflectliteType.toType t)) Tryz.func104 (by kernel_rfl) (by kernel_rfl) (by kernel_rfl) (by kernel_rfl)
  have h87 := @run_callFunc_extern Tryz.prog 105 _ (ReflectliteValue.method (ReflectliteValue.valueError "reflectlite.Value.IsNil" 0) ReflectliteValue.isNil) Tryz.func105 (by kernel_rfl) (by kernel_rfl) (by kernel_rfl) (by kernel_rfl)
  have h345 := @run_callFunc_extern Tryz.prog 347 _ (ReflectliteType.abiMethod fun t => do pure (.int .u8 (← Rtype.kind t))) Tryz.func347 (by kernel_rfl) (by kernel_rfl) (by kernel_rfl) (by kernel_rfl)
  have h358 := @run_callFunc_extern Tryz.prog 360 _ (ReflectliteType.method ReflectliteType.elem) Tryz.func360 (by kernel_rfl) (by kernel_rfl) (by kernel_rfl) (by kernel_rfl)
  have h359 := @run_callFunc_extern Tryz.prog 361 _ (ReflectliteType.relation "Implements" ReflectliteType.implements_) Tryz.func361 (by kernel_rfl) (by kernel_rfl) (by kernel_rfl) (by kernel_rfl)
  have f6 := valueOf126
  have f7 := type126
  have mK := methodKind
  have mE := methodElem
  have mI := methodImplements
  have k1 := kind126
  have k2 := kind79
  have e1 := elem126
  have i1 := implements79
  have hlt : 0 < w.heap.size := lt_of_cell hg
  have htl := lt_of_cell ht0
  have n8 := isNil126 ⟨w.heap.size, 0, none⟩ t ((w.alloc (.cells #[.pointer (some t)] 126)).alloc (.cells #[.pointer (some ⟨4, 126, none⟩), .pointer (some ⟨w.heap.size, 0, none⟩), .int .u64 150] 192)) (by simp)
  have hg2 : ((w.alloc (.cells #[.pointer (some t)] 126)).alloc (.cells #[.pointer (some ⟨4, 126, none⟩), .pointer (some ⟨w.heap.size, 0, none⟩), .int .u64 150] 192)).cell? ⟨0, 0, none⟩ = some (.iface 211 (.agg #[.pointer (some ⟨4, 35, none⟩)])) := by
    rw [World.cell?_alloc_lt _ _ ⟨0, 0, none⟩ (by simp), World.cell?_alloc_lt _ _ ⟨0, 0, none⟩ hlt]; exact hg
  go_enter Tryz.func61, Tryz.ntmps61
  go_wp2_with (first
    | (go_at_call 106; refine (asN106 n ⟨w.heap.size, 0, none⟩ t _).mono ?_; rintro e w' ⟨rfl, rfl⟩)
    | go_in)
  go_ret
  exact ⟨rfl, below_alloc (below_alloc (below_alloc (Below.refl _ _) _) _) _⟩
end Go.Proofs.YtdekmeanlcpenaaGreatDoor.Err

namespace Go.Proofs.YtdekmeanlcpenaaGreatDoor.Law
open Go.RowKit Go.Proofs.YtdekmeanlcpenaaGreatDoorW.PrintWords Go.Proofs.YtdekmeanlcpenaaGreatDoor.Mid Go.Proofs.YtdekmeanlcpenaaGreatDoor.Pick Go.Proofs.YtdekmeanlcpenaaGreatDoor.Err Go.Proofs.YtdekmeanlcpenaaGreatDoor.Codec
attribute [local go_sem ↓ high] load33_eq load29_eq build69_eq build33_eq build29_eq
attribute [local simp] rowOf_drew rowOf_drewN
attribute [local go_sem high] load33_row load29_row rowOf_drew rowOf_drewN bld29_none
set_option maxHeartbeats 4000000
set_option maxRecDepth 100000
theorem name_nil (w : World) : Calls Tryz.prog 141 #[.pointer none] w fun e w' => e = .returned (.string ⟨#[]⟩) ∧ Below w.heap.size w w' := by
  go_enter Tryz.func141, Tryz.ntmps141
  go_wp2
  go_ret
  exact ⟨rfl, Below.refl _ _⟩
theorem bld82_s (w : World) (op nm : ByteArray) (err : Value) (he : err.cells = #[err]) : (bld 82 #[(0, .string op), (1, .string nm), (3, err)]).run Tryz.prog w = .ok (.agg (faultC op nm z32 err).toArray) w := by
  refine run_build69 w _ _ ?_
  have h1 := fill_part (place := (places69[·]?)) (i := 0) (off := 0) (sz := 1) (rest := [(1, .string nm), (3, err)]) rfl [] [.string .empty] ([.string .empty] ++ u8s z32 ++ [.nilIface]) [.string op] (.string op) rfl rfl rfl rfl
  have h0 := fill_part (place := (places69[·]?)) (i := 1) (off := 1) (sz := 1) (rest := [(3, err)]) rfl [.string op] [.string .empty] (u8s z32 ++ [.nilIface]) [.string nm] (.string nm) rfl rfl rfl rfl
  have h2 := fill_part (place := (places69[·]?)) (i := 3) (off := 34) (sz := 1) (rest := []) rfl ([.string op] ++ [.string nm] ++ u8s z32) [.nilIface] [] [err] err he (by simp [u8s_length, z32]) rfl rfl
  simp only [faultC, List.nil_append, List.append_nil, List.append_assoc, List.cons_append] at h1 h0 h2 ⊢
  rw [h1, h0, h2]
  rfl
/-- intake.refused of a bare number, without a cache. -/
theorem refused_nil (n : Int) (w : World) (hH : Handle w) : Calls Tryz.prog 93 #[.string ⟨#[105, 109, 112, 111, 114, 116]⟩, .pointer none, .iface 80 (.int .i64 n)] w fun e w' => ∃ g op, e = .returned (.iface 79 (.pointer (some ⟨g, 0, none⟩))) ∧ w'.heap[g]? = some (.cells (faultC op ⟨#[]⟩ z32 (errno n)).toArray 82 (0, 0)) ∧ Below w.heap.size w w' := by
  have hbb := fun u => bld82_s u (⟨#[105, 110, 116, 97, 107, 101, 46]⟩ ++ ⟨#[105, 109, 112, 111, 114, 116]⟩) ⟨#[]⟩ (errno n) rfl
  unfold errno at hbb
  have HHH := Aside0.mk hH
  clear hH
  go_enter Tryz.func93, Tryz.ntmps93
  go_wp2_with (first
    | (go_at_call 141; refine (name_nil _).mono ?_; rintro e w1 ⟨rfl, hb1⟩; have HB1 := Aside0.mk hb1; clear hb1)
    | (go_at_call 61; refine (asN61 n _ (.pointer none) _ (handle_below HHH.out (below_alloc (below_alloc HB1.out _) _)) (by simp)).mono ?_; rintro e w2 ⟨rfl, hb2⟩; have HB2 := Aside0.mk hb2; clear hb2)
    | go_in)
  go_ret
  exact ⟨_, _, rfl, blk_below (blk_below (heap_alloc_new w1 _) (below_alloc (Below.refl _ _) _)) HB2.out, below_step (below_alloc (below_alloc HB1.out _) _) HB2.out⟩
theorem policy_yes (w : World) : Calls Tryz.prog 134 #[.int .i64 1] w fun e w' => e = .returned (.bool true) ∧ w = w' := by
  go_enter Tryz.func134, Tryz.ntmps134
  go_wp2
  go_ret
  exact ⟨rfl, rfl⟩
theorem policy_no (w : World) : Calls Tryz.prog 134 #[.int .i64 0] w fun e w' => e = .returned (.bool false) ∧ w = w' := by
  go_enter Tryz.func134, Tryz.ntmps134
  go_wp2
  go_ret
  exact ⟨rfl, rfl⟩
theorem may_nil (w : World) : Calls Tryz.prog 136 #[.pointer none] w fun e w' => e = .returned (.iface 80 (.int .i64 50)) ∧ Below w.heap.size w w' := by
  go_enter Tryz.func136, Tryz.ntmps136
  go_wp2_with (first
    | (go_at_call 37; refine (disk_nil _).mono ?_; rintro e w1 ⟨rfl, hb1⟩; have HB1 := Aside0.mk hb1; clear hb1)
    | (go_at_call 38; refine (off_nil _).mono ?_; rintro e w2 ⟨rfl, hb2⟩; have HB2 := Aside0.mk (below_step HB1.out hb2); clear hb2)
    | go_in)
  go_ret
  exact ⟨rfl, HB2.out⟩
theorem fx_ok : NameOk nameF := ⟨by decide, by decide, fun i c h => by
  have h1 : c ∈ ([102, 46, 120] : List UInt8) := List.mem_of_getElem? h
  simp only [List.mem_cons, List.not_mem_nil, or_false] at h1
  rcases h1 with rfl | rfl | rfl <;> decide⟩
theorem empty_no : ¬ NameOk ⟨#[]⟩ := fun h => absurd h.pos (by decide)
theorem take_50 (w : World) : Calls Tryz.prog 107 #[.pointer none, .string ⟨#[102, 46, 120]⟩, .int .i64 1] w fun e w' => e = .returned (.iface 80 (.int .i64 50)) ∧ Below w.heap.size w w' := by
  go_enter Tryz.func107, Tryz.ntmps107
  go_wp2_with (first
    | (go_at_call 134; refine (policy_yes _).mono ?_; rintro e w1 ⟨rfl, rfl⟩)
    | (go_at_call 94; refine (isName_yes _ _ fx_ok).mono ?_; rintro e w2 ⟨rfl, rfl⟩)
    | (go_at_call 136; refine (may_nil _).mono ?_; rintro e w3 ⟨rfl, hb⟩; have HB := Aside0.mk hb; clear hb)
    | go_in)
  go_ret
  exact ⟨rfl, HB.out⟩
theorem take_51 (w : World) : Calls Tryz.prog 107 #[.pointer none, .string ⟨#[]⟩, .int .i64 1] w fun e w' => e = .returned (.iface 80 (.int .i64 51)) ∧ Below w.heap.size w w' := by
  go_enter Tryz.func107, Tryz.ntmps107
  go_wp2_with (first
    | (go_at_call 134; refine (policy_yes _).mono ?_; rintro e w1 ⟨rfl, rfl⟩)
    | (go_at_call 94; refine (isName_no _ _ empty_no).mono ?_; rintro e w2 ⟨rfl, rfl⟩)
    | go_in)
  go_ret
  exact ⟨rfl, Below.refl _ _⟩
theorem take_1 (w : World) : Calls Tryz.prog 107 #[.pointer none, .string ⟨#[]⟩, .int .i64 0] w fun e w' => e = .returned (.iface 80 (.int .i64 1)) ∧ Below w.heap.size w w' := by
  go_enter Tryz.func107, Tryz.ntmps107
  go_wp2_with (first
    | (go_at_call 134; refine (policy_no _).mono ?_; rintro e w1 ⟨rfl, rfl⟩)
    | go_in)
  go_ret
  exact ⟨rfl, Below.refl _ _⟩
theorem import_50 (w : World) (hH : Handle w) : Calls Tryz.prog 64 #[.pointer none, .string ⟨#[102, 46, 120]⟩, .int .i64 1] w fun e w' => ∃ g op, e = .returned (.iface 79 (.pointer (some ⟨g, 0, none⟩))) ∧ w'.heap[g]? = some (.cells (faultC op ⟨#[]⟩ z32 (errno 50)).toArray 82 (0, 0)) ∧ Below w.heap.size w w' := by
  have HHH := Aside0.mk hH
  clear hH
  go_enter Tryz.func64, Tryz.ntmps64
  go_wp2_with (first
    | (go_at_call 107; refine (take_50 _).mono ?_; rintro e w1 ⟨rfl, hb⟩; have HB := Aside0.mk hb; clear hb)
    | (go_at_call 93; refine (refused_nil 50 _ (handle_below HHH.out HB.out)).mono ?_; rintro e w2 ⟨g, op, rfl, hg, hb⟩; have HB2 := Aside0.mk (And.intro hg (below_step HB.out hb)); clear hb hg)
    | go_in)
  go_ret
  exact ⟨g, op, rfl, HB2.out.1, HB2.out.2⟩
theorem import_51 (w : World) (hH : Handle w) : Calls Tryz.prog 64 #[.pointer none, .string ⟨#[]⟩, .int .i64 1] w fun e w' => ∃ g op, e = .returned (.iface 79 (.pointer (some ⟨g, 0, none⟩))) ∧ w'.heap[g]? = some (.cells (faultC op ⟨#[]⟩ z32 (errno 51)).toArray 82 (0, 0)) ∧ Below w.heap.size w w' := by
  have HHH := Aside0.mk hH
  clear hH
  go_enter Tryz.func64, Tryz.ntmps64
  go_wp2_with (first
    | (go_at_call 107; refine (take_51 _).mono ?_; rintro e w1 ⟨rfl, hb⟩; have HB := Aside0.mk hb; clear hb)
    | (go_at_call 93; refine (refused_nil 51 _ (handle_below HHH.out HB.out)).mono ?_; rintro e w2 ⟨g, op, rfl, hg, hb⟩; have HB2 := Aside0.mk (And.intro hg (below_step HB.out hb)); clear hb hg)
    | go_in)
  go_ret
  exact ⟨g, op, rfl, HB2.out.1, HB2.out.2⟩
theorem import_1 (w : World) (hH : Handle w) : Calls Tryz.prog 64 #[.pointer none, .string ⟨#[]⟩, .int .i64 0] w fun e w' => ∃ g op, e = .returned (.iface 79 (.pointer (some ⟨g, 0, none⟩))) ∧ w'.heap[g]? = some (.cells (faultC op ⟨#[]⟩ z32 (errno 1)).toArray 82 (0, 0)) ∧ Below w.heap.size w w' := by
  have HHH := Aside0.mk hH
  clear hH
  go_enter Tryz.func64, Tryz.ntmps64
  go_wp2_with (first
    | (go_at_call 107; refine (take_1 _).mono ?_; rintro e w1 ⟨rfl, hb⟩; have HB := Aside0.mk hb; clear hb)
    | (go_at_call 93; refine (refused_nil 1 _ (handle_below HHH.out HB.out)).mono ?_; rintro e w2 ⟨g, op, rfl, hg, hb⟩; have HB2 := Aside0.mk (And.intro hg (below_step HB.out hb)); clear hb hg)
    | go_in)
  go_ret
  exact ⟨g, op, rfl, HB2.out.1, HB2.out.2⟩
end Go.Proofs.YtdekmeanlcpenaaGreatDoor.Law

namespace Go.Proofs.YtdekmeanlcpenaaGreatDoor.Law
open Go.RowKit Go.Proofs.YtdekmeanlcpenaaGreatDoorW.PrintWords Go.Proofs.YtdekmeanlcpenaaGreatDoor.Mid Go.Proofs.YtdekmeanlcpenaaGreatDoor.Pick Go.Proofs.YtdekmeanlcpenaaGreatDoor.Err Go.Proofs.YtdekmeanlcpenaaGreatDoor.Codec Go.Proofs.YtdekmeanlcpenaaGreatDoor.Block
attribute [local go_sem ↓ high] load33_eq load29_eq load60_eq build69_eq build29_eq
attribute [local simp] rowOf_drew rowOf_drewN
attribute [local go_sem high] load33_row load29_row load60_row rowOf_drew rowOf_drewN bld29_none
set_option maxHeartbeats 8000000
set_option maxRecDepth 100000
set_option linter.unusedVariables false
/-- No journal. -/
def j0 : Jn := ⟨⟨#[]⟩, 0, 0, [], [], []⟩
/-- A small one. -/
def j7 : Jn := ⟨nameF, 0, 7, [], [], []⟩
theorem tab_nil : Table [] := ⟨by decide, fun _ h => (by cases h), fun i r s h _ => (by simp at h)⟩
theorem j0_no : ¬ JnV j0 := fun V => absurd V.name.pos (by decide)
theorem j7_yes : JnV j7 := ⟨fx_ok, by decide, by decide, tab_nil, tab_nil, by decide, fun i x y h _ => (by simp [j7] at h)⟩
theorem j7_ok : JnOk j7 := ⟨fun _ h => (by cases h), fun _ h => (by cases h), fun _ h => (by cases h)⟩
theorem j7_len : (encW j7).length = 22 := by
  have h1 : sBytes nameF = [102, 46, 120] := by decide
  have h0 : tabW [] = [0] := by rw [tabW, List.length_nil, numW_small (by decide)]; rfl
  have e : encW j7 = (fixW 74 1 ++ (txtW (sBytes nameF) ++ (fixW 0 4 ++ (fixW 7 4 ++ (txtW (tabW []) ++ (numW 0 ++ ([] ++ txtW (tabW [])))))))) ++ fixW (sumS (bodyW j7)) 4 := rfl
  rw [e, h1, h0]
  simp only [List.length_append, fixW_length, txtW, List.length_cons, List.length_nil]
  rw [numW_small (v := 0 + 1 + 1 + 1) (by decide), numW_small (v := 0 + 1) (by decide), numW_small (v := 0) (by decide)]
  rfl
theorem j7_head : rd (encW j7) 0 = 74 := by rfl
theorem enc_pos (j : Jn) : 0 < (encW j).length := by simp only [encW, bodyW, List.length_append, fixW_length]; omega
theorem enc_ne_nil (j : Jn) : encW j ≠ [] := fun h => by have := enc_pos j; rw [h] at this; simp at this
theorem jat0 (w : World) (j : Jn) (h1 : j.res = []) (h2 : j.need = []) (h3 : j.tab = []) : JAt w j none 0 none 0 none 0 :=
  ⟨⟨by rw [h1]; exact fun _ h => (by cases h), by rw [h2]; exact fun _ h => (by cases h), by rw [h3]; exact fun _ h => (by cases h)⟩, by rw [h1]; exact Kd.C_nil _ _, by rw [h1]; exact Nat.le_refl _, by rw [h2]; exact Kd.C_nil _ _, by rw [h2]; exact Nat.le_refl _, by rw [h3]; exact Kd.C_nil _ _, by rw [h3]; exact Nat.le_refl _⟩
theorem dec_nil (w : World) : Calls Tryz.prog 26 #[.slice none 0 0] w fun e w' => ∃ g, e = .returned (.tuple #[.agg #[.string ⟨#[]⟩, .int .i64 0, .int .i64 0, .slice none 0 0, .slice none 0 0, .slice none 0 0], .iface 79 (.pointer (some ⟨g, 0, none⟩))]) ∧ w'.heap[g]? = some (.cells (faultC opDec .empty z32 (errno 161)).toArray 82 (0, 0)) ∧ Below w.heap.size w w' :=
  (dec_no w none 0 [] (Kd.C_nil _ _) (fun _ h => (by cases h)) (by decide) (by decide) (fun j _ _ => enc_ne_nil j)).mono fun e w' ⟨g, h1, _, h3, h4⟩ => ⟨g, h1, h3, h4⟩
theorem enc_zero (w : World) : Calls Tryz.prog 19 #[.agg #[.string ⟨#[]⟩, .int .i64 0, .int .i64 0, .slice none 0 0, .slice none 0 0, .slice none 0 0]] w fun e w' => ∃ g, e = .returned (.tuple #[.slice none 0 0, .iface 79 (.pointer (some ⟨g, 0, none⟩))]) ∧ w'.heap[g]? = some (.cells (faultC opEnc .empty z32 (errno 161)).toArray 82 (0, 0)) ∧ Below w.heap.size w w' :=
  (enc_no j0 none 0 none 0 none 0 w (jat0 w j0 rfl rfl rfl) j0_no).mono fun e w' ⟨⟨g, h1, _, h3⟩, h4⟩ => ⟨g, h1, h3, h4⟩
theorem enc_fx (w : World) : Calls Tryz.prog 19 #[.agg #[.string ⟨#[102, 46, 120]⟩, .int .i64 0, .int .i64 7, .slice none 0 0, .slice none 0 0, .slice none 0 0]] w fun e w' => ∃ a k, e = .returned (.tuple #[.slice (some a) 22 k, .nilIface]) ∧ Kd.C (Kd.int .u8) w' (some a) (encW j7).length (encW j7) ∧ (encW j7).length ≤ k ∧ w'.cell? a = some (.int .u8 74) ∧ Below w.heap.size w w' :=
  (enc_yes j7 none 0 none 0 none 0 w (jat0 w j7 rfl rfl rfl) j7_yes).mono fun e w' ⟨A, k, h1, h2, h3⟩ => by
    have h4 := Kd.R_reads' h2
    obtain ⟨ad, e0, hx⟩ := Kd.at_int h4.2.2 0 (by decide) (by rw [j7_len]; decide)
    subst e0
    rw [j7_head] at hx
    refine ⟨ad, k, ?_, h4.2.2, h4.2.1, ?_, h3⟩
    · rw [h1, j7_len]
    · rw [← hx]
      congr 1
theorem dec_fx (w : World) (a : Addr) (k : Nat) (hC : Kd.C (Kd.int .u8) w (some a) (encW j7).length (encW j7)) (hk : (encW j7).length ≤ k) : Calls Tryz.prog 26 #[.slice (some a) 22 k] w fun e w' => ∃ A1 c1 A2 c2 A3 c3, e = .returned (.tuple #[.agg #[.string ⟨#[102, 46, 120]⟩, .int .i64 0, .int .i64 7, .slice A1 0 c1, .slice A2 0 c2, .slice A3 0 c3], .nilIface]) ∧ Below w.heap.size w w' := by
  have h := dec_yes w (some a) k (encW j7) hC (enc_byt j7_yes j7_ok) (by rw [j7_len]; decide) hk j7 j7_yes j7_ok rfl
  rw [j7_len] at h
  exact h.mono fun e w' ⟨A1, c1, A2, c2, A3, c3, h1, _, _, _, h5⟩ => ⟨A1, c1, A2, c2, A3, c3, h1, h5⟩
end Go.Proofs.YtdekmeanlcpenaaGreatDoor.Law

namespace Go.Proofs.YtdekmeanlcpenaaGreatDoor.Law
open Go.RowKit Go.Proofs.YtdekmeanlcpenaaGreatDoorW.PrintWords Go.Proofs.YtdekmeanlcpenaaGreatDoor.Mid Go.Proofs.YtdekmeanlcpenaaGreatDoor.Pick Go.Proofs.YtdekmeanlcpenaaGreatDoor.Err Go.Proofs.YtdekmeanlcpenaaGreatDoor.Codec Go.Proofs.YtdekmeanlcpenaaGreatDoor.Block
attribute [local go_sem ↓ high] load33_eq load29_eq load60_eq build69_eq build29_eq
attribute [local simp] rowOf_drew rowOf_drewN
attribute [local go_sem high] load33_row load29_row load60_row rowOf_drew rowOf_drewN bld29_none
set_option maxHeartbeats 8000000
set_option maxRecDepth 100000
set_option linter.unusedVariables false
theorem awake_any (w : World) (hH : Handle w) : Calls Tryz.prog 25 #[] w fun e w' => e = .returned (.bool true) ∧ Below w.heap.size w w' := by
  have HH := Aside0.mk hH
  have hb60 : ∀ u : World, (Instr.build 60 #[]).run Tryz.prog u = .ok (.agg #[.string ⟨#[]⟩, .int .i64 0, .int .i64 0, .slice none 0 0, .slice none 0 0, .slice none 0 0]) u := fun u => by kernel_rfl
  have hb61 : ∀ u : World, (Instr.build 60 #[(0, .string ⟨#[102, 46, 120]⟩), (2, .int .i64 7)]).run Tryz.prog u = .ok (.agg #[.string ⟨#[102, 46, 120]⟩, .int .i64 0, .int .i64 7, .slice none 0 0, .slice none 0 0, .slice none 0 0]) u := fun u => by kernel_rfl
  clear hH
  go_enter Tryz.func25, Tryz.ntmps25
  go_upto_region 2 with (first
    | (go_at_call 26; refine (dec_nil _).mono ?_; rintro e w1 ⟨g1, rfl, hf1, hb⟩; have HF1 := Aside0.mk hf1; have HB1 := Aside0.mk hb; clear hb hf1)
    | go_in)
  obtain ⟨x1, hx1⟩ : ∃ x1, (w1.alloc (.cells #[.string ⟨#[]⟩, .int .i64 0, .int .i64 0, .slice none 0 0, .slice none 0 0, .slice none 0 0] 60)) = x1 := ⟨_, rfl⟩
  have hb1 : Below w1.heap.size w1 x1 := hx1 ▸ below_alloc (Below.refl _ _) _
  have X1 : Aside0 (x1.heap[g1]? = some (.cells (faultC opDec ⟨#[]⟩ z32 (errno 161)).toArray 82 (0, 0)) ∧ Below w.heap.size w x1) := ⟨blk_below HF1.out hb1, below_step HB1.out hb1⟩
  rw [hx1]
  clear hx1 hb1 HF1 HB1
  go_upto_region 5 with (first
    | (go_at_call 19; (with_reducible refine (enc_zero _).mono ?_); rintro e w2 ⟨g2, rfl, hf2, hb⟩
       have X2 : Aside0 (w2.heap[g1]? = some (.cells (faultC opDec ⟨#[]⟩ z32 (errno 161)).toArray 82 (0, 0)) ∧ w2.heap[g2]? = some (.cells (faultC opEnc ⟨#[]⟩ z32 (errno 161)).toArray 82 (0, 0)) ∧ Below w.heap.size w w2) := ⟨blk_below X1.out.1 hb, hf2, below_step X1.out.2 hb⟩
       clear hf2 hb)
    | (go_at_call 19; (with_reducible refine (enc_fx _).mono ?_); rintro e w3 ⟨a, k, rfl, hc, hk, ha, hb⟩
       have X3 : Aside0 (w3.heap[g1]? = some (.cells (faultC opDec ⟨#[]⟩ z32 (errno 161)).toArray 82 (0, 0)) ∧ w3.heap[g2]? = some (.cells (faultC opEnc ⟨#[]⟩ z32 (errno 161)).toArray 82 (0, 0)) ∧ Below w.heap.size w w3 ∧ Kd.C (Kd.int .u8) w3 (some a) (encW j7).length (encW j7) ∧ (encW j7).length ≤ k ∧ w3.cell? a = some (.int .u8 74)) := ⟨blk_below X2.out.1 hb, blk_below X2.out.2.1 hb, below_step X2.out.2.2 hb, hc, hk, ha⟩
       clear hc hk ha hb)
    | (go_at_call 26; refine (dec_fx _ a k X3.out.2.2.2.1 X3.out.2.2.2.2.1).mono ?_; rintro e w4 ⟨A1, c1, A2, c2, A3, c3, rfl, hb⟩
       have X4 : Aside0 (w4.heap[g1]? = some (.cells (faultC opDec ⟨#[]⟩ z32 (errno 161)).toArray 82 (0, 0)) ∧ w4.heap[g2]? = some (.cells (faultC opEnc ⟨#[]⟩ z32 (errno 161)).toArray 82 (0, 0)) ∧ Below w.heap.size w w4 ∧ w4.cell? a = some (.int .u8 74)) := ⟨blk_below X3.out.1 hb, blk_below X3.out.2.1 hb, below_step X3.out.2.2.1 hb, pw_cell_below hb X3.out.2.2.2.2.2⟩
       clear hb)
    | go_in)
  obtain ⟨x4, hx4⟩ : ∃ x4, (w4.alloc (.cells #[.string ⟨#[102, 46, 120]⟩, .int .i64 0, .int .i64 7, .slice A1 0 c1, .slice A2 0 c2, .slice A3 0 c3] 60)) = x4 := ⟨_, rfl⟩
  obtain ⟨q4, hq4⟩ : ∃ q4, w4.heap.size = q4 := ⟨_, rfl⟩
  have hb4 : Below w4.heap.size w4 x4 := hx4 ▸ below_alloc (Below.refl _ _) _
  have B4 : Aside0 (x4.heap[q4]? = some (.cells [.string ⟨#[102, 46, 120]⟩, .int .i64 0, .int .i64 7, .slice A1 0 c1, .slice A2 0 c2, .slice A3 0 c3].toArray 60 (0, 0))) := ⟨by rw [← hx4, ← hq4]; exact heap_alloc_new w4 _⟩
  have X5 : Aside0 (x4.heap[g1]? = some (.cells (faultC opDec ⟨#[]⟩ z32 (errno 161)).toArray 82 (0, 0)) ∧ x4.heap[g2]? = some (.cells (faultC opEnc ⟨#[]⟩ z32 (errno 161)).toArray 82 (0, 0)) ∧ Below w.heap.size w x4 ∧ x4.cell? a = some (.int .u8 74)) := ⟨blk_below X4.out.1 hb4, blk_below X4.out.2.1 hb4, below_step X4.out.2.2.1 hb4, pw_cell_below hb4 X4.out.2.2.2⟩
  rw [hx4, hq4]
  have hs1 := fun u => says_some opDec ⟨#[]⟩ z32 161 (by decide) z32_ok g1 u
  have hs2 := fun u => says_some opEnc ⟨#[]⟩ z32 161 (by decide) z32_ok g2 u
  have HS1 : Aside0 (∀ u, Handle u → u.heap[g1]? = some (.cells (faultC opDec ⟨#[]⟩ z32 (errno 161)).toArray 82 (0, 0)) → Calls Tryz.prog 21 #[.iface 79 (.pointer (some ⟨g1, 0, none⟩)), .string ⟨#[105, 110, 116, 97, 107, 101, 46, 100, 101, 99, 111, 100, 101]⟩, .string ⟨#[]⟩, .int .i64 161, .agg (u8s z32).toArray] u fun e w' => e = .returned (.bool true) ∧ Below u.heap.size u w') := ⟨hs1⟩
  have HS2 : Aside0 (∀ u, Handle u → u.heap[g2]? = some (.cells (faultC opEnc ⟨#[]⟩ z32 (errno 161)).toArray 82 (0, 0)) → Calls Tryz.prog 21 #[.iface 79 (.pointer (some ⟨g2, 0, none⟩)), .string ⟨#[105, 110, 116, 97, 107, 101, 46, 101, 110, 99, 111, 100, 101]⟩, .string ⟨#[]⟩, .int .i64 161, .agg (u8s z32).toArray] u fun e w' => e = .returned (.bool true) ∧ Below u.heap.size u w') := ⟨hs2⟩
  clear hx4 hq4 hb4 X1 X2 X3 X4 hs1 hs2
  go_upto_region 7 with (first
    | (go_at_call 21; (with_reducible refine (HS1.out _ (handle_below HH.out X5.out.2.2.1) X5.out.1).mono ?_); rintro e w5 ⟨rfl, hb⟩
       have X6 : Aside0 (w5.heap[g2]? = some (.cells (faultC opEnc ⟨#[]⟩ z32 (errno 161)).toArray 82 (0, 0)) ∧ Below w.heap.size w w5 ∧ w5.cell? a = some (.int .u8 74) ∧ w5.heap[q4]? = some (.cells [.string ⟨#[102, 46, 120]⟩, .int .i64 0, .int .i64 7, .slice A1 0 c1, .slice A2 0 c2, .slice A3 0 c3].toArray 60 (0, 0))) := ⟨blk_below X5.out.2.1 hb, below_step X5.out.2.2.1 hb, pw_cell_below hb X5.out.2.2.2, blk_below B4.out hb⟩
       clear hb)
    | (go_at_call 21; (with_reducible refine (HS2.out _ (handle_below HH.out X6.out.2.1) X6.out.1).mono ?_); rintro e w6 ⟨rfl, hb⟩
       have X7 : Aside0 (Below w.heap.size w w6 ∧ w6.cell? a = some (.int .u8 74) ∧ w6.heap[q4]? = some (.cells [.string ⟨#[102, 46, 120]⟩, .int .i64 0, .int .i64 7, .slice A1 0 c1, .slice A2 0 c2, .slice A3 0 c3].toArray 60 (0, 0))) := ⟨below_step X6.out.2.1 hb, pw_cell_below hb X6.out.2.2.1, blk_below X6.out.2.2.2 hb⟩
       clear hb)
    | go_in)
  have k0 : w6.cell? ⟨q4, 0, none⟩ = some (.string ⟨#[102, 46, 120]⟩) := (blk_cell X7.out.2.2 _).trans rfl
  have k2 : w6.cell? ⟨q4, 2, none⟩ = some (.int .i64 7) := (blk_cell X7.out.2.2 _).trans rfl
  have ka := X7.out.2.1
  go_wp2_with (first
    | (go_at_call 64; (with_reducible refine (import_50 _ (handle_below HH.out X7.out.1)).mono ?_); rintro e w7 ⟨g7, o7, rfl, hf, hb⟩; have X8 := Aside0.mk (And.intro hf (below_step X7.out.1 hb)); clear hf hb)
    | (have hcc : w7.cell? ⟨g7, 34, none⟩ = some (.iface 80 (.int .i64 50)) := (fault_cells z32_ok X8.out.1).2.2.2
       go_at_call 34; (with_reducible refine (code_any g7 50 _ (handle_below HH.out X8.out.2) hcc).mono ?_); clear hcc; rintro e w8 ⟨rfl, hb⟩; have X9 := Aside0.mk (below_step X8.out.2 hb); clear hb)
    | (go_at_call 64; (with_reducible refine (import_51 _ (handle_below HH.out X9.out)).mono ?_); rintro e w9 ⟨g9, o9, rfl, hf, hb⟩; have Y1 := Aside0.mk (And.intro hf (below_step X9.out hb)); clear hf hb)
    | (have hcc : w9.cell? ⟨g9, 34, none⟩ = some (.iface 80 (.int .i64 51)) := (fault_cells z32_ok Y1.out.1).2.2.2
       go_at_call 34; (with_reducible refine (code_any g9 51 _ (handle_below HH.out Y1.out.2) hcc).mono ?_); clear hcc; rintro e w10 ⟨rfl, hb⟩; have Y2 := Aside0.mk (below_step Y1.out.2 hb); clear hb)
    | (go_at_call 64; (with_reducible refine (import_1 _ (handle_below HH.out Y2.out)).mono ?_); rintro e w11 ⟨g11, o11, rfl, hf, hb⟩; have Y3 := Aside0.mk (And.intro hf (below_step Y2.out hb)); clear hf hb)
    | (have hcc : w11.cell? ⟨g11, 34, none⟩ = some (.iface 80 (.int .i64 1)) := (fault_cells z32_ok Y3.out.1).2.2.2
       go_at_call 34; (with_reducible refine (code_any g11 1 _ (handle_below HH.out Y3.out.2) hcc).mono ?_); clear hcc; rintro e w12 ⟨rfl, hb⟩; have Y4 := Aside0.mk (below_step Y3.out.2 hb); clear hb)
    | go_in)
  go_ret
  exact ⟨rfl, Y4.out⟩
end Go.Proofs.YtdekmeanlcpenaaGreatDoor.Law

namespace Go.Proofs.YtdekmeanlcpenaaGreatDoor.Law
open Go.RowKit Go.Proofs.YtdekmeanlcpenaaGreatDoorW.PrintWords Go.Proofs.YtdekmeanlcpenaaGreatDoorW.PrintLast Go.Proofs.YtdekmeanlcpenaaGreatDoorW.PrintMore Go.Proofs.YtdekmeanlcpenaaGreatDoor.Mid Go.Proofs.YtdekmeanlcpenaaGreatDoor.Codec
attribute [local go_sem ↓ high] load33_eq load29_eq
attribute [local simp] rowOf_drew rowOf_drewN
attribute [local go_sem high] load33_row load29_row rowOf_drew rowOf_drewN
set_option maxHeartbeats 4000000
set_option maxRecDepth 100000
theorem results_true (A0 : Option Addr) (c0 : Nat) (A1 : Option Addr) (c1 : Nat) (rs : List Res) (w : World) (h0 : resK.C w A0 rs.length rs) (h1 : resK.C w A1 rs.length rs) (hl : rs.length ≤ 140737488355328) :
    Calls Tryz.prog 62 #[.slice A0 rs.length c0, .slice A1 rs.length c1] w fun e w' => e = .returned (.bool true) ∧ Below w.heap.size w w' := by
  have H0 := Aside0.mk h0
  have H1 := Aside0.mk h1
  clear h0 h1
  go_enter Tryz.func62, Tryz.ntmps62
  go_wp2
  go_loopg [5] rs.length (fun k v5 w' => ∃ i : Nat, v5 = .int .i64 i ∧ i + k = rs.length ∧ Aside0 (Drawn0 w w'))
  case atStart => exact ⟨0, rfl, by omega, ⟨Drawn0.refl _⟩⟩
  case round =>
    obtain ⟨i, rfl, hik, HD⟩ := hrel
    cases gk with
    | zero =>
      have hd : decide (i < rs.length) = false := by simp; omega
      clear hik
      go_wp2
      go_ret
      exact ⟨rfl, HD.out.below⟩
    | succ k =>
      have hi : i < rs.length := by omega
      have hi1 : (i : Int) < (rs.length : Int) := by omega
      obtain ⟨ad, r, e0, hr, ho, hat⟩ := res_at (Kd.C_below H0.out HD.out.below) i hi
      subst e0
      obtain ⟨ad1, r1, e1, hr1, ho1, hat1⟩ := res_at (Kd.C_below H1.out HD.out.below) i hi
      subst e1
      have e : r1 = r := by rw [hr] at hr1; exact (Option.some.inj hr1).symm
      subst e
      have g1 := hat.res ho
      have g2 := hat1.res ho1
      have heq : ∀ u, (Op.equalIn 10000 33 (.agg (resC r1).toArray) (.agg (resC r1).toArray)).run Tryz.prog u = .ok true u := fun u => by rw [eqI33 u _ _ ho1 ho1, decide_eq_true rfl]
      clear hr hr1 ho ho1 hat hat1
      go_wp2
      go_quiet (fail)
      go_wp2
      go_roundg k
      case measure => omega
      case rel => exact ⟨i + 1, by go_num, by omega, ⟨HD.out.step _⟩⟩
theorem ids_true (A0 : Option Addr) (c0 : Nat) (A1 : Option Addr) (c1 : Nat) (rs : List (List Int)) (w : World) (h0 : idK.C w A0 rs.length rs) (h1 : idK.C w A1 rs.length rs) (hl : rs.length ≤ 140737488355328) :
    Calls Tryz.prog 63 #[.slice A0 rs.length c0, .slice A1 rs.length c1] w fun e w' => e = .returned (.bool true) ∧ Below w.heap.size w w' := by
  have H0 := Aside0.mk h0
  have H1 := Aside0.mk h1
  clear h0 h1
  go_enter Tryz.func63, Tryz.ntmps63
  go_wp2
  go_loopg [5] rs.length (fun k v5 w' => ∃ i : Nat, v5 = .int .i64 i ∧ i + k = rs.length ∧ Aside0 (Drawn0 w w'))
  case atStart => exact ⟨0, rfl, by omega, ⟨Drawn0.refl _⟩⟩
  case round =>
    obtain ⟨i, rfl, hik, HD⟩ := hrel
    cases gk with
    | zero =>
      have hd : decide (i < rs.length) = false := by simp; omega
      clear hik
      go_wp2
      go_ret
      exact ⟨rfl, HD.out.below⟩
    | succ k =>
      have hi : i < rs.length := by omega
      have hi1 : (i : Int) < (rs.length : Int) := by omega
      obtain ⟨ad, r, e0, hr, ho, hat⟩ := id_at (Kd.C_below H0.out HD.out.below) i hi
      subst e0
      obtain ⟨ad1, r1, e1, hr1, ho1, hat1⟩ := id_at (Kd.C_below H1.out HD.out.below) i hi
      subst e1
      have e : r1 = r := by rw [hr] at hr1; exact (Option.some.inj hr1).symm
      subst e
      have g1 := hat.id ho
      have g2 := hat1.id ho1
      have heq : ∀ u, (Op.equalIn 10000 29 (.agg (u8s r1).toArray) (.agg (u8s r1).toArray)).run Tryz.prog u = .ok true u := fun u => by rw [eqI29 u _ _ ho1 ho1, decide_eq_true rfl]
      clear hr hr1 ho ho1 hat hat1
      go_wp2
      go_quiet (fail)
      go_wp2
      go_roundg k
      case measure => omega
      case rel => exact ⟨i + 1, by go_num, by omega, ⟨HD.out.step _⟩⟩
theorem same_true (A0 : Option Addr) (c0 : Nat) (A1 : Option Addr) (c1 : Nat) (rs : List Int) (w : World) (h0 : (Kd.int .u8).C w A0 rs.length rs) (h1 : (Kd.int .u8).C w A1 rs.length rs) (hl : rs.length ≤ 140737488355328) :
    Calls Tryz.prog 22 #[.slice A0 rs.length c0, .slice A1 rs.length c1] w fun e w' => e = .returned (.bool true) ∧ Below w.heap.size w w' := by
  have H0 := Aside0.mk h0
  have H1 := Aside0.mk h1
  clear h0 h1
  go_enter Tryz.func22, Tryz.ntmps22
  go_wp2
  go_loopg [5] rs.length (fun k v5 w' => ∃ i : Nat, v5 = .int .i64 i ∧ i + k = rs.length ∧ Aside0 (Drawn0 w w'))
  case atStart => exact ⟨0, rfl, by omega, ⟨Drawn0.refl _⟩⟩
  case round =>
    obtain ⟨i, rfl, hik, HD⟩ := hrel
    cases gk with
    | zero =>
      have hd : decide (i < rs.length) = false := by simp; omega
      clear hik
      go_wp2
      go_ret
      exact ⟨rfl, HD.out.below⟩
    | succ k =>
      have hi : i < rs.length := by omega
      have hi1 : (i : Int) < (rs.length : Int) := by omega
      obtain ⟨ad, e0, hx⟩ := Kd.at_int (Kd.C_below H0.out HD.out.below) (i : Int) (by omega) (by omega)
      cases e0
      obtain ⟨ad1, e1, hy⟩ := Kd.at_int (Kd.C_below H1.out HD.out.below) (i : Int) (by omega) (by omega)
      cases e1
      simp only [Int.toNat_natCast] at hx hy
      generalize rd rs (i : Int) = x at hx hy
      go_wp2
      go_quiet (fail)
      go_wp2
      go_roundg k
      case measure => omega
      case rel => exact ⟨i + 1, by go_num, by omega, ⟨HD.out.step _⟩⟩
theorem journals_true (j : Jn) (A1 : Option Addr) (c1 : Nat) (A2 : Option Addr) (c2 : Nat) (A3 : Option Addr) (c3 : Nat) (B1 : Option Addr) (d1 : Nat) (B2 : Option Addr) (d2 : Nat) (B3 : Option Addr) (d3 : Nat) (w : World) (hJ : JAt w j A1 c1 A2 c2 A3 c3) (hK : JAt w j B1 d1 B2 d2 B3 d3)
    (l1 : j.res.length ≤ 140737488355328) (l2 : j.need.length ≤ 140737488355328) (l3 : j.tab.length ≤ 140737488355328) :
    Calls Tryz.prog 23 #[.agg (jC j A1 c1 A2 c2 A3 c3).toArray, .agg (jC j B1 d1 B2 d2 B3 d3).toArray] w fun e w' => e = .returned (.bool true) ∧ Below w.heap.size w w' := by
  obtain ⟨V, hV⟩ : ∃ V, V = w.alloc (.cells (jC j A1 c1 A2 c2 A3 c3).toArray 60) := ⟨_, rfl⟩
  have hbv : V.heap[w.heap.size]? = some (.cells (jC j A1 c1 A2 c2 A3 c3).toArray 60 (0, 0)) := hV ▸ heap_alloc_new w _
  have hBV : Below w.heap.size w V := hV ▸ below_alloc (Below.refl _ _) _
  obtain ⟨g, hg⟩ : ∃ g, w.heap.size + 1 = g := ⟨_, rfl⟩
  have hsz : V.heap.size = g := by rw [← hg, hV]; simp
  obtain ⟨W, hW⟩ : ∃ W, W = V.alloc (.cells (jC j B1 d1 B2 d2 B3 d3).toArray 60) := ⟨_, rfl⟩
  have hbk : W.heap[g]? = some (.cells (jC j B1 d1 B2 d2 B3 d3).toArray 60 (0, 0)) := hW ▸ hsz ▸ heap_alloc_new V _
  have hVW : Below V.heap.size V W := hW ▸ below_alloc (Below.refl _ _) _
  have hbw := blk_below hbv hVW
  have hBW : Below w.heap.size w W := below_step hBV hVW
  have a0 : W.cell? ⟨w.heap.size, 0, none⟩ = some (.string j.name) := (blk_cell hbw _).trans rfl
  have a1 : W.cell? ⟨w.heap.size, 1, none⟩ = some (.int .i64 j.ent) := (blk_cell hbw _).trans rfl
  have a2 : W.cell? ⟨w.heap.size, 2, none⟩ = some (.int .i64 j.idx) := (blk_cell hbw _).trans rfl
  have a3 : W.cell? ⟨w.heap.size, 3, none⟩ = some (.slice A1 j.res.length c1) := (blk_cell hbw _).trans rfl
  have a4 : W.cell? ⟨w.heap.size, 4, none⟩ = some (.slice A2 j.need.length c2) := (blk_cell hbw _).trans rfl
  have a5 : W.cell? ⟨w.heap.size, 5, none⟩ = some (.slice A3 j.tab.length c3) := (blk_cell hbw _).trans rfl
  have b0 : W.cell? ⟨g, 0, none⟩ = some (.string j.name) := (blk_cell hbk _).trans rfl
  have b1 : W.cell? ⟨g, 1, none⟩ = some (.int .i64 j.ent) := (blk_cell hbk _).trans rfl
  have b2 : W.cell? ⟨g, 2, none⟩ = some (.int .i64 j.idx) := (blk_cell hbk _).trans rfl
  have b3 : W.cell? ⟨g, 3, none⟩ = some (.slice B1 j.res.length d1) := (blk_cell hbk _).trans rfl
  have b4 : W.cell? ⟨g, 4, none⟩ = some (.slice B2 j.need.length d2) := (blk_cell hbk _).trans rfl
  have b5 : W.cell? ⟨g, 5, none⟩ = some (.slice B3 j.tab.length d3) := (blk_cell hbk _).trans rfl
  have HJ := Aside0.mk (hJ.below hBW)
  have HK := Aside0.mk (hK.below hBW)
  have HV := Aside0.mk hV
  have HW := Aside0.mk hW
  have HG := Aside0.mk hg
  have HBW := Aside0.mk hBW
  clear hV hW hg hsz hBV hVW hBW hbv hbk hbw hJ hK
  go_enter Tryz.func23, Tryz.ntmps23
  go_upto_region 1 with (fail)
  rw [← HV.out, ← HW.out, HG.out]
  go_wp2_with (first
    | (have X := HB2; go_at_call 62; (with_reducible refine (results_true A3 c3 B3 d3 j.tab _ (Kd.C_below HJ.out.r3 HB2.out) (Kd.C_below HK.out.r3 HB2.out) l3).mono ?_); rintro e w3 ⟨rfl, hb⟩; have HB3 := Aside0.mk (below_step HB2.out hb); clear hb)
    | (go_at_call 62; (with_reducible refine (results_true A1 c1 B1 d1 j.res _ HJ.out.r1 HK.out.r1 l1).mono ?_); rintro e w1 ⟨rfl, hb⟩
       have a4' := pw_cell_below hb a4
       have a5' := pw_cell_below hb a5
       have b4' := pw_cell_below hb b4
       have b5' := pw_cell_below hb b5
       have HB1 := Aside0.mk hb
       clear hb)
    | (go_at_call 63; (with_reducible refine (ids_true A2 c2 B2 d2 j.need _ (Kd.C_below HJ.out.r2 HB1.out) (Kd.C_below HK.out.r2 HB1.out) l2).mono ?_); rintro e w2 ⟨rfl, hb⟩
       have a5'' := pw_cell_below hb a5'
       have b5'' := pw_cell_below hb b5'
       have HB2 := Aside0.mk (below_step HB1.out hb)
       clear hb)
    | fail)
  go_ret
  exact ⟨rfl, HBW.out.trans (HB3.out.mono HBW.out.size)⟩
end Go.Proofs.YtdekmeanlcpenaaGreatDoor.Law
