import Derived.Test.YtdekmeanlcpenaaGreatDoorCf8
import Derived.Test.YtdekmeanlcpenaaGreatDoorCf3
import Derived.Test.YtdekmeanlcpenaaGreatDoorCf1
import Derived.Test.YtdekmeanlcpenaaGreatDoorCf4
import Derived.Test.YtdekmeanlcpenaaGreatDoorCf2
namespace Go.Proofs.YtdekmeanlcpenaaGreatDoor.Codec
open Go.RowKit Go.Proofs.YtdekmeanlcpenaaGreatDoorW.PrintWords Go.Proofs.YtdekmeanlcpenaaGreatDoor.Mid Go.Proofs.YtdekmeanlcpenaaGreatDoor.Pick Go.Proofs.YtdekmeanlcpenaaGreatDoor.Block
attribute [local go_sem ↓ high] load33_eq load29_eq load60_eq build69_eq build29_eq
attribute [local simp] rowOf_drew rowOf_drewN
attribute [local go_sem high] load33_row load29_row load60_row rowOf_drew rowOf_drewN bld29_none
set_option maxHeartbeats 4000000
set_option maxRecDepth 100000
def opDec : ByteArray := { data := #[105, 110, 116, 97, 107, 101, 46, 100, 101, 99, 111, 100, 101] }
section
variable (W : World) (A : Option Addr) (c : Nat) (l : List Int) (hC : Kd.C (Kd.int .u8) W A l.length l) (hb : Byt l) (hl : l.length ≤ 1000000000000) (hcp : l.length ≤ c)
include hC hb hl hcp
theorem jread_yes (j : Jn) (V : JnV j) (K : JnOk j) (he : encW j = l) :
    Calls Tryz.prog 65 #[.slice A l.length c] W fun e w' => ∃ A1 c1 A2 c2 A3 c3, e = .returned (.tuple #[.agg (jC j A1 c1 A2 c2 A3 c3).toArray, .bool true]) ∧ Kd.R resK 33 w' W.heap.size (fun _ => True) (.slice A1 j.res.length c1) j.res ∧ Kd.R idK 29 w' W.heap.size (fun _ => True) (.slice A2 j.need.length c2) j.need ∧ Kd.R resK 33 w' W.heap.size (fun _ => True) (.slice A3 j.tab.length c3) j.tab ∧ Below W.heap.size W w' :=
  (jread_any W A c l hC hb hl hcp).mono fun e w' h => by
    cases h with
    | yes i A1 c1 A2 c2 A3 c3 V' K' hl' he' h1 h2 h3 hB =>
      obtain rfl := enc_inj V' K' V K (hl'.trans he.symm)
      exact ⟨A1, c1, A2, c2, A3, c3, he', h1, h2, h3, hB⟩
    | no hn _ _ _ _ _ => exact absurd he (hn j V K)
theorem jread_no (hn : ∀ j, JnV j → JnOk j → encW j ≠ l) :
    Calls Tryz.prog 65 #[.slice A l.length c] W fun e w' => ∃ cs : List Value, cs.length = 6 ∧ (∀ v ∈ cs, v.oneCell' = true) ∧ e = .returned (.tuple #[.agg cs.toArray, .bool false]) ∧ Below W.heap.size W w' :=
  (jread_any W A c l hC hb hl hcp).mono fun e w' h => by
    cases h with
    | yes i A1 c1 A2 c2 A3 c3 V' K' hl' he' h1 h2 h3 hB => exact absurd hl' (hn i V' K')
    | no _ cs h1 h2 h3 h4 => exact ⟨cs, h1, h2, h3, h4⟩
theorem dec_yes (j : Jn) (V : JnV j) (K : JnOk j) (he : encW j = l) :
    Calls Tryz.prog 26 #[.slice A l.length c] W fun e w' => ∃ A1 c1 A2 c2 A3 c3, e = .returned (.tuple #[.agg (jC j A1 c1 A2 c2 A3 c3).toArray, .nilIface]) ∧ Kd.R resK 33 w' W.heap.size (fun _ => True) (.slice A1 j.res.length c1) j.res ∧ Kd.R idK 29 w' W.heap.size (fun _ => True) (.slice A2 j.need.length c2) j.need ∧ Kd.R resK 33 w' W.heap.size (fun _ => True) (.slice A3 j.tab.length c3) j.tab ∧ Below W.heap.size W w' := by
  have HC := Aside0.mk hC
  have HB := Aside0.mk hb
  have HV := Aside0.mk V
  have HK := Aside0.mk K
  have HE := Aside0.mk he
  have HCP := Aside0.mk hcp
  clear hC hb V K he hcp
  go_enter Tryz.func26, Tryz.ntmps26
  go_upto_region 1 with (fail)
  obtain ⟨q2, hq2⟩ : ∃ q2, W.heap.size = q2 := ⟨_, rfl⟩
  obtain ⟨W1, hW1⟩ : ∃ W1, W.alloc (.cells (jV .empty 0 0 nilS nilS nilS).toArray 60) = W1 := ⟨_, rfl⟩
  have HO1 : Aside0 (W1.heap[q2]? = some (.cells (jV .empty 0 0 nilS nilS nilS).toArray 60 (0, 0)) ∧ Below W.heap.size W W1 ∧ W.heap.size = q2 ∧ q2 < W1.heap.size) := ⟨by rw [← hW1, ← hq2]; exact ⟨heap_alloc_new W _, below_alloc (Below.refl _ _) _, rfl, by simp⟩⟩
  unfold jV nilS at hW1
  have hW1' : W.alloc (.cells #[.string ⟨#[]⟩, .int .i64 0, .int .i64 0, .slice none 0 0, .slice none 0 0, .slice none 0 0] 60) = W1 := hW1
  rw [hW1', hq2]
  clear hW1 hW1' hq2
  go_upto_region 2 with (first
    | (have X := S1; refine wpList_store_blk rfl rfl 60 _ _ rfl (heap_alloc_new w1 (.cells (jV .empty 0 0 nilS nilS nilS).toArray 60)) (jC j A1 c1 A2 c2 A3 c3) rfl rfl rfl info60 jC_one ?_
       intro wy y1 y2 y3
       have S4 := Aside0.mk (And.intro y1 y2)
       clear y1 y2 y3)
    | (go_at_call 65; refine (jread_yes W1 A c l (Kd.C_below HC.out HO1.out.2.1) HB.out hl HCP.out j HV.out HK.out HE.out).mono ?_
       rintro e w1 ⟨A1, c1, A2, c2, A3, c3, rfl, r1, r2, r3, hb1⟩
       have S1 := Aside0.mk (⟨r1, r2, r3, hb1⟩ : _ ∧ _ ∧ _ ∧ _)
       clear r1 r2 r3 hb1)
    | go_in)
  have hld : rowOf wy ⟨w1.heap.size, 0, none⟩ 6 = some (jC j A1 c1 A2 c2 A3 c3) := jrow S4.out.1
  have hs1 := S1.out.2.2.2.size
  have hq2 := HO1.out.2.2
  have H2 := Aside0.mk (blk_grown (blk_below (blk_below HO1.out.1 S1.out.2.2.2) (below_alloc (Below.refl _ _) _)) S4.out.2 (fun e => absurd (Option.some.inj e) (by omega)))
  have R1 := Aside0.mk (Kd.R_grown1 (Kd.R_alloc S1.out.1 _) rfl S4.out.2 (fun e => absurd (Kd.R_lt S1.out.1 _ e.symm) (Nat.lt_irrefl _)))
  have R2 := Aside0.mk (Kd.R_grown1 (Kd.R_alloc S1.out.2.1 _) rfl S4.out.2 (fun e => absurd (Kd.R_lt S1.out.2.1 _ e.symm) (Nat.lt_irrefl _)))
  have R3 := Aside0.mk (Kd.R_grown1 (Kd.R_alloc S1.out.2.2.1 _) rfl S4.out.2 (fun e => absurd (Kd.R_lt S1.out.2.2.1 _ e.symm) (Nat.lt_irrefl _)))
  have BY := Aside0.mk ((HO1.out.2.1.trans ((below_alloc S1.out.2.2.2 _).mono HO1.out.2.1.size)).grown S4.out.2 (by have := HO1.out.2.1.size; simp; omega) (fun k hk => by cases hk; omega))
  clear hs1 hq2
  go_wp2_with (first
    | (refine wpList_store_blk rfl rfl 60 _ _ rfl H2.out (jC j A1 c1 A2 c2 A3 c3) rfl rfl rfl info60 jC_one ?_
       intro wz z1 z2 z3
       have HZ := Aside0.mk (And.intro z1 z2)
       clear z1 z2 z3)
    | go_in)
  refine bodyPost_ret (results_ct60 (by rfl) rfl _ _ q2 rfl HZ.out.1) rfl ?_
  have hlo := HO1.out.2.1.size
  have hq := HO1.out.2.2
  have hne : ∀ k, W1.heap.size ≤ k → some q2 ≠ some k := fun k h1 e => by have := Option.some.inj e; omega
  exact ⟨A1, c1, A2, c2, A3, c3, rfl, Kd.R_lower (Kd.R_grown1 R1.out rfl HZ.out.2 (fun e => by have h1 := Kd.R_base S1.out.1 _ e.symm; omega)) hlo, Kd.R_lower (Kd.R_grown1 R2.out rfl HZ.out.2 (fun e => by have h1 := Kd.R_base S1.out.2.1 _ e.symm; omega)) hlo, Kd.R_lower (Kd.R_grown1 R3.out rfl HZ.out.2 (fun e => by have h1 := Kd.R_base S1.out.2.2.1 _ e.symm; omega)) hlo,
    BY.out.grown HZ.out.2 BY.out.size (fun k hk => by cases hk; omega)⟩
theorem dec_no (hn : ∀ j, JnV j → JnOk j → encW j ≠ l) :
    Calls Tryz.prog 26 #[.slice A l.length c] W fun e w' => ∃ g, e = .returned (.tuple #[.agg (jV .empty 0 0 nilS nilS nilS).toArray, .iface 79 (.pointer (some ⟨g, 0, none⟩))]) ∧ W.heap.size ≤ g ∧ w'.heap[g]? = some (.cells (faultC opDec .empty z32 (errno 161)).toArray 82 (0, 0)) ∧ Below W.heap.size W w' := by
  have HC := Aside0.mk hC
  have HB := Aside0.mk hb
  have HN := Aside0.mk hn
  have HCP := Aside0.mk hcp
  have hbb := fun u => bld69_two u opDec (errno 161) rfl
  unfold opDec errno at hbb
  have hb60 : ∀ u : World, (Instr.build 60 #[]).run Tryz.prog u = .ok (.agg #[.string ⟨#[]⟩, .int .i64 0, .int .i64 0, .slice none 0 0, .slice none 0 0, .slice none 0 0]) u := fun u => by kernel_rfl
  clear hC hb hn hcp
  go_enter Tryz.func26, Tryz.ntmps26
  go_upto_region 1 with (fail)
  obtain ⟨q2, hq2⟩ : ∃ q2, W.heap.size = q2 := ⟨_, rfl⟩
  obtain ⟨W1, hW1⟩ : ∃ W1, W.alloc (.cells (jV .empty 0 0 nilS nilS nilS).toArray 60) = W1 := ⟨_, rfl⟩
  have HO1 : Aside0 (W1.heap[q2]? = some (.cells (jV .empty 0 0 nilS nilS nilS).toArray 60 (0, 0)) ∧ Below W.heap.size W W1 ∧ W.heap.size = q2 ∧ q2 < W1.heap.size) := ⟨by rw [← hW1, ← hq2]; exact ⟨heap_alloc_new W _, below_alloc (Below.refl _ _) _, rfl, by simp⟩⟩
  unfold jV nilS at hW1
  have hW1' : W.alloc (.cells #[.string ⟨#[]⟩, .int .i64 0, .int .i64 0, .slice none 0 0, .slice none 0 0, .slice none 0 0] 60) = W1 := hW1
  rw [hW1', hq2]
  clear hW1 hW1' hq2
  go_upto_region 2 with (first
    | (have X := S1; refine wpList_store_blk rfl rfl 60 _ _ rfl (heap_alloc_new w1 (.cells (jV .empty 0 0 nilS nilS nilS).toArray 60)) cs rfl rfl (by rw [S1.out.1]; rfl) (by rw [S1.out.1]; exact info60) S1.out.2.1 ?_
       intro wy y1 y2 y3
       have S4 := Aside0.mk (And.intro y1 y2)
       clear y1 y2 y3)
    | (go_at_call 65; refine (jread_no W1 A c l (Kd.C_below HC.out HO1.out.2.1) HB.out hl HCP.out HN.out).mono ?_
       rintro e w1 ⟨cs, h1, h2, rfl, hb1⟩
       have S1 := Aside0.mk (⟨h1, h2, hb1⟩ : _ ∧ _ ∧ _)
       clear h1 h2 hb1)
    | go_in)
  have hs1 := S1.out.2.2.size
  have hq2 := HO1.out.2.2
  have H2 := Aside0.mk (blk_grown (blk_below (blk_below HO1.out.1 S1.out.2.2) (below_alloc (Below.refl _ _) _)) S4.out.2 (fun e => absurd (Option.some.inj e) (by omega)))
  have BY := Aside0.mk ((HO1.out.2.1.trans ((below_alloc S1.out.2.2 _).mono HO1.out.2.1.size)).grown S4.out.2 (by have := HO1.out.2.1.size; simp; omega) (fun k hk => by cases hk; omega))
  clear hs1 hq2
  go_wp2_with (first
    | (refine wpList_store_blk rfl rfl 60 _ _ rfl (blk_below H2.out (below_alloc (Below.refl _ _) _)) (jV .empty 0 0 nilS nilS nilS) rfl rfl rfl info60 (jV_one rfl rfl rfl) ?_
       intro wz z1 z2 z3
       have HZ := Aside0.mk (And.intro z1 z2)
       clear z1 z2 z3)
    | go_in)
  refine bodyPost_ret (results_ct60 (by rfl) rfl _ _ q2 rfl HZ.out.1) rfl ?_
  have hq := HO1.out.2.2
  have hqy := blk_lt H2.out
  exact ⟨wy.heap.size, rfl, BY.out.size, blk_grown (heap_alloc_new wy _) HZ.out.2 (fun e => absurd (Option.some.inj e) (by omega)), (below_alloc BY.out _).grown HZ.out.2 (below_alloc BY.out _).size (fun k hk => by cases hk; omega)⟩
end
end Go.Proofs.YtdekmeanlcpenaaGreatDoor.Codec

namespace Go.Proofs.YtdekmeanlcpenaaGreatDoor.Err
open Go.RowKit Go.Extern.Stop Go.Stop Go.Extern Go.Proofs.YtdekmeanlcpenaaGreatDoorW.PrintWords
set_option maxHeartbeats 4000000
set_option maxRecDepth 100000
theorem valueOf126 (t : Addr) (w : World) : (ReflectliteValue.unpack (.iface 126 (.pointer (some t)))).run Tryz.prog w
    = .ok (.agg #[.pointer (some ⟨4, 126, none⟩), .pointer (some ⟨w.heap.size, 0, none⟩), .int .u64 150]) (w.alloc (.cells #[.pointer (some t)] 126)) := by kernel_rfl
theorem valueOf79 (t : Addr) (w : World) : (ReflectliteValue.unpack (.iface 79 (.pointer (some t)))).run Tryz.prog w
    = .ok (.agg #[.pointer (some ⟨4, 79, none⟩), .pointer (some ⟨w.heap.size, 0, none⟩), .int .u64 150]) (w.alloc (.cells #[.pointer (some t)] 79)) := by kernel_rfl
theorem type126 (a : Addr) (w : World) : (ReflectliteValue.methodAny (ReflectliteValue.valueError "reflectlite.Value.Type" 0) (fun t _ _ _ => ReflectliteType.toType t) #[.agg #[.pointer (some ⟨4, 126, none⟩), .pointer (some a), .int .u64 150]]).run Tryz.prog w
    = .ok (.iface 211 (.agg #[.pointer (some ⟨4, 126, none⟩)])) w := by kernel_rfl
theorem kind126 (w : World) : ((ReflectliteType.abiMethod fun t => (fun a : Nat => Value.int IntKind.u8 (a : Int)) <$> Rtype.kind t) #[.pointer (some ⟨4, 126, none⟩)]).run Tryz.prog w = .ok (.int .u8 22) w := by kernel_rfl
theorem kind79 (w : World) : ((ReflectliteType.abiMethod fun t => (fun a : Nat => Value.int IntKind.u8 (a : Int)) <$> Rtype.kind t) #[.pointer (some ⟨4, 79, none⟩)]).run Tryz.prog w = .ok (.int .u8 22) w := by kernel_rfl
theorem parts126 (a : Addr) (w : World) : (ReflectliteValue.parts (.agg #[.pointer (some ⟨4, 126, none⟩), .pointer (some a), .int .u64 150])).run Tryz.prog w = .ok (some (126, a, 150)) w := by kernel_rfl
theorem isNil126 (a p : Addr) (W : World) (ha : W.cell? a = some (.pointer (some p))) :
    (ReflectliteValue.method (ReflectliteValue.valueError "reflectlite.Value.IsNil" 0) ReflectliteValue.isNil #[.agg #[.pointer (some ⟨4, 126, none⟩), .pointer (some a), .int .u64 150]]).run Tryz.prog W = .ok (.bool false) W := by
  rw [rlm]
  simp only [Sem.run_bind, parts126, Result.andThen]
  simp [ReflectliteValue.isNil, loadVar, isAgg, underlying, Tryz.underlying126, ha, Result.andThen]
theorem elem126 (w : World) : (ReflectliteType.method ReflectliteType.elem #[.agg #[.pointer (some ⟨4, 126, none⟩)]]).run Tryz.prog w = .ok (.iface 211 (.agg #[.pointer (some ⟨4, 79, none⟩)])) w := by kernel_rfl
theorem implements79 (w : World) : (ReflectliteType.relation "Implements" ReflectliteType.implements_ #[.agg #[.pointer (some ⟨4, 79, none⟩)], .iface 211 (.agg #[.pointer (some ⟨4, 35, none⟩)])]).run Tryz.prog w = .ok (.bool true) w := by kernel_rfl
theorem assignable7979 (w : World) : (ReflectliteType.relation "AssignableTo" ReflectliteType.assignableTo #[.agg #[.pointer (some ⟨4, 79, none⟩)], .iface 211 (.agg #[.pointer (some ⟨4, 79, none⟩)])]).run Tryz.prog w = .ok (.bool true) w := by kernel_rfl
theorem elemOf126 (w : World) : (Rtype.elem? 126).run Tryz.prog w = .ok (some 79) w := by kernel_rfl
theorem mk79 (p : Addr) (w : World) : (ReflectliteValue.mk 79 p ReflectliteValue.flagAddr).run Tryz.prog w = .ok (.agg #[.pointer (some ⟨4, 79, none⟩), .pointer (some p), .int .u64 406]) w := by kernel_rfl
theorem elemV126 (a p : Addr) (W : World) (ha : W.cell? a = some (.pointer (some p))) :
    (ReflectliteValue.method (ReflectliteValue.valueError "reflectlite.Value.Elem" 0) ReflectliteValue.elem #[.agg #[.pointer (some ⟨4, 126, none⟩), .pointer (some a), .int .u64 150]]).run Tryz.prog W
      = .ok (.agg #[.pointer (some ⟨4, 79, none⟩), .pointer (some p), .int .u64 406]) W := by
  rw [rlm]
  simp only [Sem.run_bind, parts126, Result.andThen]
  simp [ReflectliteValue.elem, loadVar, isAgg, underlying, Tryz.underlying126, ha, Result.andThen, elemOf126, mk79]
theorem parts79a (a : Addr) (w : World) : (ReflectliteValue.parts (.agg #[.pointer (some ⟨4, 79, none⟩), .pointer (some a), .int .u64 406])).run Tryz.prog w = .ok (some (79, a, 406)) w := by kernel_rfl
theorem parts79 (a : Addr) (w : World) : (ReflectliteValue.parts (.agg #[.pointer (some ⟨4, 79, none⟩), .pointer (some a), .int .u64 150])).run Tryz.prog w = .ok (some (79, a, 150)) w := by kernel_rfl
theorem direct79 (w : World) : (Rtype.directlyAssignable 79 79).run Tryz.prog w = .ok true w := by kernel_rfl
theorem size79 (w : World) : (sizeOf 79).run Tryz.prog w = .ok 1 w := by kernel_rfl
theorem set79 (ta b : Addr) (p : Addr) (old : Value) (W : World) (hb : W.cell? b = some (.pointer (some p))) (ht : W.cell? ta = some old) (hf : W.frozen? ta = false) :
    (ReflectliteValue.set #[.agg #[.pointer (some ⟨4, 79, none⟩), .pointer (some ta), .int .u64 406], .agg #[.pointer (some ⟨4, 79, none⟩), .pointer (some b), .int .u64 150]]).run Tryz.prog W
      = .ok (.tuple #[]) (W.setCell ta (.pointer (some p))) := by
  rw [rls]
  simp only [Sem.run_bind, parts79a, parts79, Result.andThen]
  simp [ReflectliteValue.flagAddr, loadVar, isAgg, underlying, Tryz.underlying79, hb, Result.andThen, direct79, storeVar, Value.cells, storeCells, Addr.add]
  rw [run_store Tryz.prog W ta _ _ (by rfl)]
  simp [ht, hf]
/-- errors.as at a fault, the target a fault's variable. -/
theorem asF106 (g : Nat) (a t : Addr) (old : Value) (w : World) (ha : w.cell? a = some (.pointer (some t))) (ht0 : w.cell? t = some old) (hf0 : w.frozen? t = false) :
    Calls Tryz.prog 106 #[.iface 79 (.pointer (some ⟨g, 0, none⟩)), .iface 126 (.pointer (some t)), .agg #[.pointer (some ⟨4, 126, none⟩), .pointer (some a), .int .u64 150], .iface 211 (.agg #[.pointer (some ⟨4, 79, none⟩)])] w
      fun e w' => e = .returned (.bool true) ∧ w' = ((w.alloc (.cells #[.pointer (some ⟨4, 126, none⟩), .pointer (some a), .int .u64 150] 192)).alloc (.cells #[.pointer (some ⟨g, 0, none⟩)] 79)).setCell t (.pointer (some ⟨g, 0, none⟩)) := by
  have h64 := @run_callFunc_extern Tryz.prog 76 _ ReflectliteType.typeOf Tryz.func76 (by kernel_rfl) (by kernel_rfl) (by kernel_rfl) (by kernel_rfl)
  have h356 := @run_callFunc_extern Tryz.prog 358 _ (ReflectliteType.relation "AssignableTo" ReflectliteType.assignableTo) Tryz.func358 (by kernel_rfl) (by kernel_rfl) (by kernel_rfl) (by kernel_rfl)
  have h119 := @run_callFunc_extern Tryz.prog 143 _ (ReflectliteValue.method (ReflectliteValue.valueError "reflectlite.Value.Elem" 0) ReflectliteValue.elem) Tryz.func143 (by kernel_rfl) (by kernel_rfl) (by kernel_rfl) (by kernel_rfl)
  have h120 := @run_callFunc_extern Tryz.prog 144 _ ReflectliteValue.set Tryz.func144 (by kernel_rfl) (by kernel_rfl) (by kernel_rfl) (by kernel_rfl)
  have h85 := @run_callFunc_extern Tryz.prog 103 _ (fun args => ReflectliteValue.unpack (args.getD 0 (.tuple #[]))) Tryz.func103 (by kernel_rfl) (by kernel_rfl) (by kernel_rfl) (by kernel_rfl)
  have tO6 := typeOf66
  have mA := methodAssignableTo
  have a1 := assignable7979
  have v79 := valueOf79
  have halt := lt_of_cell ha
  have htl := lt_of_cell ht0
  have el := elemV126 a t (w.alloc (.cells #[.pointer (some ⟨4, 126, none⟩), .pointer (some a), .int .u64 150] 192)) (by rw [World.cell?_alloc_lt _ _ a halt]; exact ha)
  have st := set79 t ⟨w.heap.size + 1, 0, none⟩ ⟨g, 0, none⟩ old ((w.alloc (.cells #[.pointer (some ⟨4, 126, none⟩), .pointer (some a), .int .u64 150] 192)).alloc (.cells #[.pointer (some ⟨g, 0, none⟩)] 79))
    (by rw [World.cell?_alloc_at _ _ _ _ (by simp)]; rfl)
    (by rw [World.cell?_alloc_lt _ _ t (by simp; omega), World.cell?_alloc_lt _ _ t htl]; exact ht0)
    (by rw [World.frozen?_alloc_old _ _ t (by simp; omega), World.frozen?_alloc_old _ _ t (Nat.ne_of_lt htl)]; exact hf0)
  go_enter Tryz.func106, Tryz.ntmps106
  go_wp2
  refine wp_loop_rounds 1 ?_
  rw [rounds_succ]
  go_wp2
  go_ret
  exact ⟨rfl, rfl⟩
/-- errors.As at a fault, the target a fault's variable. -/
theorem asF61 (g : Nat) (t : Addr) (old : Value) (w : World) (hg : Handle w) (ht0 : w.cell? t = some old) (hf0 : w.frozen? t = false) :
    Calls Tryz.prog 61 #[.iface 79 (.pointer (some ⟨g, 0, none⟩)), .iface 126 (.pointer (some t))] w
      fun e w' => e = .returned (.bool true) ∧ ∃ w2 : World, Below w.heap.size w w2 ∧ w' = w2.setCell t (.pointer (some ⟨g, 0, none⟩)) := by
  have h85 := @run_callFunc_extern Tryz.prog 103 _ (fun args => ReflectliteValue.unpack (args.getD 0 (.tuple #[]))) Tryz.func103 (by kernel_rfl) (by kernel_rfl) (by kernel_rfl) (by kernel_rfl)
  have h86 := @run_callFunc_extern Tryz.prog 104 _ (ReflectliteValue.methodAny (ReflectliteValue.valueError "reflectlite.Value.Type" 0) (fun t _ _ _ => ReflectliteType.toType t)) Tryz.func104 (by kernel_rfl) (by kernel_rfl) (by kernel_rfl) (by kernel_rfl)
  have h87 := @run_callFunc_extern Tryz.prog 105 _ (ReflectliteValue.method (ReflectliteValue.valueError "reflectlite.Value.IsNil" 0) ReflectliteValue.isNil) Tryz.func105 (by kernel_rfl) (by kernel_rfl) (by kernel_rfl) (by kernel_rfl)
  have h345 := @run_callFunc_extern Tryz.prog 347 _ (ReflectliteType.abiMethod fun t => do pure (.int .u8 (← Rtype.kind t))) Tryz.func347 (by kernel_rfl) (by kernel_rfl) (by kernel_rfl) (by kernel_rfl)
  have h358 := @run_callFunc_extern Tryz.prog 360 _ (ReflectliteType.method ReflectliteType.elem) Tryz.func360 (by kernel_rfl) (by kernel_rfl) (by kernel_rfl) (by kernel_rfl)
  have h359 := @run_callFunc_extern Tryz.prog 361 _ (ReflectliteType.relation "Implements" ReflectliteType.implements_) Tryz.func361 (by kernel_rfl) (by kernel_rfl) (by kernel_rfl) (by kernel_rfl)
  have f6 := valueOf126
  have f7 := type126
  have mK := methodKind
  have mE := methodElem
  have mI := methodImplements
  have k1 := kind126
  have k2 := kind79
  have e1 := elem126
  have i1 := implements79
  have hlt : 0 < w.heap.size := lt_of_cell hg
  have htl := lt_of_cell ht0
  have n8 := isNil126 ⟨w.heap.size, 0, none⟩ t ((w.alloc (.cells #[.pointer (some t)] 126)).alloc (.cells #[.pointer (some ⟨4, 126, none⟩), .pointer (some ⟨w.heap.size, 0, none⟩), .int .u64 150] 192)) (by simp)
  have hg2 : ((w.alloc (.cells #[.pointer (some t)] 126)).alloc (.cells #[.pointer (some ⟨4, 126, none⟩), .pointer (some ⟨w.heap.size, 0, none⟩), .int .u64 150] 192)).cell? ⟨0, 0, none⟩ = some (.iface 211 (.agg #[.pointer (some ⟨4, 35, none⟩)])) := by
    rw [World.cell?_alloc_lt _ _ ⟨0, 0, none⟩ (by simp), World.cell?_alloc_lt _ _ ⟨0, 0, none⟩ hlt]; exact hg
  have ha2 : ((w.alloc (.cells #[.pointer (some t)] 126)).alloc (.cells #[.pointer (some ⟨4, 126, none⟩), .pointer (some ⟨w.heap.size, 0, none⟩), .int .u64 150] 192)).cell? ⟨w.heap.size, 0, none⟩ = some (.pointer (some t)) := by simp
  have ht2 : ((w.alloc (.cells #[.pointer (some t)] 126)).alloc (.cells #[.pointer (some ⟨4, 126, none⟩), .pointer (some ⟨w.heap.size, 0, none⟩), .int .u64 150] 192)).cell? t = some old := by
    rw [World.cell?_alloc_lt _ _ t (by simp; omega), World.cell?_alloc_lt _ _ t htl]; exact ht0
  have hf2 : ((w.alloc (.cells #[.pointer (some t)] 126)).alloc (.cells #[.pointer (some ⟨4, 126, none⟩), .pointer (some ⟨w.heap.size, 0, none⟩), .int .u64 150] 192)).frozen? t = false := by
    rw [World.frozen?_alloc_old _ _ t (by simp; omega), World.frozen?_alloc_old _ _ t (Nat.ne_of_lt htl)]; exact hf0
  go_enter Tryz.func61, Tryz.ntmps61
  go_wp2_with (first
    | (go_at_call 106; refine (asF106 g ⟨w.heap.size, 0, none⟩ t old _ ha2 ht2 hf2).mono ?_; rintro e w' ⟨rfl, rfl⟩)
    | go_in)
  go_ret
  exact ⟨rfl, _, below_alloc (below_alloc (below_alloc (below_alloc (Below.refl _ _) _) _) _) _, rfl⟩
end Go.Proofs.YtdekmeanlcpenaaGreatDoor.Err

namespace Go.Proofs.YtdekmeanlcpenaaGreatDoor.Pick
open Go.RowKit Go.Proofs.YtdekmeanlcpenaaGreatDoorW.PrintWords Go.Proofs.YtdekmeanlcpenaaGreatDoor.Mid
attribute [local go_sem ↓ high] load33_eq load29_eq
attribute [local simp] rowOf_drew rowOf_drewN
attribute [local go_sem high] load33_row load29_row rowOf_drew rowOf_drewN
set_option maxHeartbeats 2000000
set_option maxRecDepth 100000

theorem zero4 (u : World) : (zeroValue 4).run Tryz.prog u = .ok (.bool false) u := by kernel_rfl

theorem pick_prog (A : Option Addr) (c : Nat) (rs : List Res) (A2 : Option Addr) (c2 : Nat) (qs : List (List Int)) (w : World) (hC : resK.C w A rs.length rs) (hD : idK.C w A2 qs.length qs) (ok : ∀ r ∈ rs, ResOk r) (oka : ∀ a ∈ qs, IdOk a) (T : Table rs)
    (hca : qs.length ≤ 1000000) :
    Calls Tryz.prog 32 #[.slice A rs.length c, .slice A2 qs.length c2] w fun e w' => (∃ v least first, e = .returned (.tuple #[v, idv least, .bool first]) ∧ resK.R 33 w' w.heap.size (fun _ => True) v (pickS rs qs) ∧ IdOk least ∧
      (first = true → (∀ a, ¬ Lacks rs qs a) ∧ least = List.replicate 32 0) ∧ (first = false → Least (Lacks rs qs) least)) ∧ Below w.heap.size w w' := by
  have HC := Aside0.mk hC
  have HD := Aside0.mk hD
  have hmo : rs.length ≤ 32 := T.most
  have HT := Aside0.mk T
  have HO := Aside0.mk ok
  have HOA := Aside0.mk oka
  clear hC hD T ok oka
  go_enter Tryz.func32, Tryz.ntmps32
  have hmm := @run_makeMap Tryz.prog
  go_wp2
  obtain ⟨W0, hW0⟩ : ∃ W0, W0 = w.alloc (.cells (u8s (List.replicate 32 0)).toArray 29) := ⟨_, rfl⟩
  have hs0 : W0.heap.size = w.heap.size + 1 := by rw [hW0]; simp
  have hb0 : Below w.heap.size w W0 := hW0 ▸ below_alloc (Below.refl _ _) _
  have hz0 : W0.heap[w.heap.size]? = some (.cells (u8s (List.replicate 32 0)).toArray 29 (0, 0)) := hW0 ▸ heap_alloc_new w _
  have start : SetAt Tryz.prog 29 (W0.alloc (.map #[] 0)) (w.heap.size + 1) [] ∧ Below w.heap.size w (W0.alloc (.map #[] 0)) ∧ (W0.alloc (.map #[] 0)).heap[w.heap.size]? = some (.cells (u8s (List.replicate 32 0)).toArray 29 (0, 0)) := by
    refine ⟨?_, hb0.trans ((below_alloc (Below.refl _ _) _).mono (by omega)), (heap_alloc_old W0 _ (by omega)).trans hz0⟩
    have := SetAt.made Tryz.prog 29 W0
    rwa [hs0] at this
  have HSt := Aside0.mk start
  rw [hW0] at HSt
  clear start hz0 hb0 hs0 hW0 W0
  go_loopg [19] qs.length (fun k v19 w' => ∃ (i : Nat) (ks : List Value), v19 = .int .i64 i ∧ i + k = qs.length ∧ Aside0 (SetAt Tryz.prog 29 w' (w.heap.size + 1) ks) ∧ Aside0 (Asked qs i ks) ∧ Aside0 (Below w.heap.size w w') ∧ Aside0 (w'.heap[w.heap.size]? = some (.cells (u8s (List.replicate 32 0)).toArray 29 (0, 0))))
  case atStart => exact ⟨0, [], rfl, by omega, ⟨HSt.out.1⟩, ⟨asked_none _⟩, ⟨HSt.out.2.1⟩, ⟨HSt.out.2.2⟩⟩
  case round =>
    clear HSt
    obtain ⟨i, ks, rfl, hik, HS, HA, HB, HZ⟩ := hrel
    cases gk with
    | zero =>
      have hd : decide (i < qs.length) = false := by simp; omega
      have hi : Aside0 (qs.length ≤ i) := ⟨by omega⟩
      clear hik
      go_wp2
      have HL0 := Aside0.mk (left_of_asked (rs := rs) HA.out hi.out)
      have HR0 := Aside0.mk (Kd.R_nil resK 33 wr w.heap.size (fun _ => True))
      clear HA
      go_loopg [28, 10] rs.length (fun k v28 v10 w' => ∃ (i : Nat) (ks : List Value), v28 = .int .i64 i ∧ i + k = rs.length ∧ Aside0 (SetAt Tryz.prog 29 w' (w.heap.size + 1) ks) ∧ Aside0 (Remn rs qs i ks) ∧ Aside0 (Below w.heap.size w w') ∧
        Aside0 (w'.heap[w.heap.size]? = some (.cells (u8s (List.replicate 32 0)).toArray 29 (0, 0))) ∧ Aside0 (resK.R 33 w' w.heap.size (fun _ => True) v10 (pickS (rs.take i) qs)))
      case atStart => exact ⟨0, ks, rfl, by omega, HS, HL0, HB, HZ, HR0⟩
      case round =>
        clear HS HL0 HB HZ HR0 hi
        obtain ⟨i2, ks2, rfl, hik2, HS, HL, HB, HZ, HR⟩ := hrel
        cases gk with
        | zero =>
          have hd2 : decide (i2 < rs.length) = false := by simp; omega
          have hi2 : Aside0 (rs.length ≤ i2) := ⟨by omega⟩
          clear hik2
          have HP := Aside0.mk (left_end HL.out hi2.out)
          have HR9 : Aside0 (resK.R 33 wr w.heap.size (fun _ => True) u10 (pickS rs qs)) := ⟨by have := HR.out; rwa [pick_all hi2.out] at this⟩
          have HK9 : Aside0 (∀ v ∈ ks2, ∃ a, v = idv a ∧ IdOk a) := ⟨fun v hv => by obtain ⟨a, e, ha, _⟩ := (HL.out v).1 hv; exact ⟨a, e, HOA.out a ha⟩⟩
          clear HR HL
          go_upto_region 17 with (fail)
          obtain ⟨wB, hwB⟩ : ∃ wB, wB = wr := ⟨_, rfl⟩
          subst hwB
          refine (show Code.wp Tryz.prog _ _ _ (wB.alloc (.cells (u8s (List.replicate 32 0)).toArray 29)) from ?_)
          obtain ⟨W, hW⟩ : ∃ W, W = wB.alloc (.cells (u8s (List.replicate 32 0)).toArray 29) := ⟨_, rfl⟩
          rw [← hW]
          have hBW : Below wB.heap.size wB W := hW ▸ below_alloc (Below.refl _ _) _
          have hsz : wB.heap.size < W.heap.size := by rw [hW]; simp
          have h13 : W.heap[wB.heap.size]? = some (.cells (u8s (List.replicate 32 0)).toArray 29 (0, 0)) := hW ▸ heap_alloc_new wB _
          have hbm : w.heap.size + 1 < wB.heap.size := HS.out.lt
          have HS1 := Aside0.mk (HS.out.below hBW)
          have HB1 := Aside0.mk (HB.out.trans (hBW.mono HB.out.size))
          have HZ1 := Aside0.mk ((hBW.block w.heap.size (by omega)).trans HZ.out)
          have HR1 := Aside0.mk (Kd.R_below HR9.out hBW)
          have H13 := Aside0.mk h13
          have Hsz := Aside0.mk hsz
          have Hbm := Aside0.mk hbm
          clear hW hBW hsz h13 hbm HS HB HZ HR9
          go_wp2_with (first
            | (at_range; refine wpList_range rfl _ rfl Tryz.underlying141 rfl HS1.out ?_; intro w3 hL3 hg3 hs3;
               have HL3 := Aside0.mk hL3; have Hg3 := Aside0.mk hg3; clear hL3 hg3 hs3)
            | go_in)
          simp only [Act.put, List.setIfInBounds_toArray, List.set]
          have H3 : Aside0 (Below w.heap.size w w3 ∧ w3.heap[w.heap.size]? = some (.cells (u8s (List.replicate 32 0)).toArray 29 (0, 0)) ∧ w3.heap[wB.heap.size]? = some (.cells (u8s (List.replicate 32 0)).toArray 29 (0, 0)) ∧ resK.R 33 w3 w.heap.size (fun _ => True) u10 (pickS rs qs)) := by
            refine ⟨HB1.out.grown Hg3.out HB1.out.size (fun k hk => by cases hk), (Hg3.out.block _ (by have := Hsz.out; have := Hbm.out; omega) (by simp)).trans HZ1.out, (Hg3.out.block _ Hsz.out (by simp)).trans H13.out, R_off rfl HR1.out Hg3.out (fun k _ e => by cases e)⟩
          have Hr0 : Aside0 (wB.heap.size < W.heap.size ∧ w.heap.size + 1 < wB.heap.size) := ⟨Hsz.out, Hbm.out⟩
          clear HS1 HB1 HZ1 HR1 H13 Hsz Hbm Hg3
          obtain ⟨A10, k10, e10⟩ := Kd.R_slice H3.out.2.2.2
          subst e10
          go_loopg [14] ks2.length (fun k v14 w' => ∃ (left : List Value) (first : Bool) (least : List Int), v14 = .bool first ∧ left.length ≤ k ∧ Aside0 (LoopAt Tryz.prog 29 w' (w.heap.size + 1) W.heap.size ks2 left) ∧ Aside0 (Sought ks2 left first least) ∧ Aside0 (IdOk least) ∧
            Aside0 (Below w.heap.size w w' ∧ w'.heap[w.heap.size]? = some (.cells (u8s (List.replicate 32 0)).toArray 29 (0, 0)) ∧ w'.heap[wB.heap.size]? = some (.cells (u8s least).toArray 29 (0, 0)) ∧ resK.R 33 w' w.heap.size (fun _ => True) (.slice A10 (pickS rs qs).length k10) (pickS rs qs)))
          case atStart => exact ⟨ks2, true, _, rfl, Nat.le_refl _, HL3, ⟨sought_start ks2⟩, ⟨z32_ok⟩, H3⟩
          case round =>
            clear HL3 H3
            obtain ⟨left, first, least, rfl, hlk, HL, HSo, Hlo, HI⟩ := hrel
            rcases HL.out.next 0 with ⟨hl0, hrun⟩ | ⟨key, w4, left1, hk, hrun, hL1, hlf, hll, hg, hszz, hent⟩
            · have Hrun := Aside0.mk hrun
              clear hrun
              go_wp2_with (first
                | (at_next; refine wpList_next rfl _ rfl rfl Hrun.out ?_)
                | go_in)
              have hld := (At.blk HI.out.2.2.1).id Hlo.out
              have hthere : wr.drew.there w.heap.size 0 32 := by
                intro j hj
                rw [Nat.zero_add]
                have hb : wr.drew.heap[w.heap.size]? = some (.cells (u8s (List.replicate 32 0)).toArray 29 (0, 0)) := HI.out.2.1
                refine ⟨?_, blk_frozen hb _⟩
                rw [blk_cell hb]
                simp [u8s]; omega
              have hi29 : (Tryz.prog.info? 29).map (·.size) = some (u8s least).length := by rw [u8s_length, Hlo.out.len]; exact info29
              have hlen29 : (u8s least).length = 32 := by rw [u8s_length, Hlo.out.len]
              have hone : ∀ v ∈ u8s least, v.oneCell' = true := u8s_one
              have hrange : wr.drew.rangeAt wB.heap.size 0 (u8s least) := (At.blk HI.out.2.2.1).range
              have hu29 := Tryz.underlying29
              have hap : wB.heap.size ≠ w.heap.size := by have := Hr0.out; omega
              go_region_held3 (fun w' => w'.rangeAt wB.heap.size 0 (u8s least) ∧ w'.there w.heap.size 0 32) (first | go_keep_ranges | exact ⟨hrange, hthere⟩ | exact ⟨World.rangeAt_setCells_apart hrange _ _ (.inl hap), World.there_setCells hthere _ _ _⟩) (fail)
              go_wp2
              have hz : wr.drew.heap[w.heap.size]? = some (.cells (u8s (List.replicate 32 0)).toArray 29 (0, 0)) := HI.out.2.1
              obtain ⟨s1, s2, _⟩ := setCells_blk wr.drew hz (cs := u8s least) (by simp [u8s_length, Hlo.out.len])
              have hb2 : Below w.heap.size w wr.drew := HI.out.1.drew
              (try simp only [Exit.inBlock, Exit.then])
              refine bodyPost_ret (results_tct Hlo.out rfl _ _ w.heap.size rfl s1) rfl ?_
              have hso := sought_end (hl0 ▸ HSo.out)
              refine ⟨⟨_, least, first, rfl, R_off rfl (Kd.R_drew HI.out.2.2.2) s2 (fun k hk e => ?_), Hlo.out, fun hf => ⟨fun a ha => (hso.1 hf).1 a ((HP.out a).2 ha), (hso.1 hf).2⟩, fun hf => ?_⟩, hb2.grown s2 hb2.size (fun k hk => by cases hk; omega)⟩
              · obtain ⟨cells, hc⟩ := Kd.R_typed HI.out.2.2.2 k hk
                cases e
                rw [HI.out.2.1] at hc
                cases hc
              · have hL := hso.2 hf
                exact ⟨(HP.out least).1 hL.1, fun b hb => hL.2 b ((HP.out b).2 hb)⟩
            · cases gk with
              | zero =>
                have := List.length_pos_of_mem hk
                omega
              | succ k =>
                obtain ⟨a, ea, hao⟩ := HK9.out key (HL.out.sub key hk)
                subst ea
                have Hrun := Aside0.mk hrun
                have Hent := Aside0.mk hent
                have Hk : Aside0 (idv a ∈ ks2) := ⟨HL.out.sub _ hk⟩
                have Hlf := Aside0.mk hlf
                have Hao := Aside0.mk hao
                have HL1 := Aside0.mk hL1
                have Hll : left1.length ≤ k := by omega
                have hb13 : wB.heap.size < wr.heap.size := blk_lt HI.out.2.2.1
                have hbz : w.heap.size < wr.heap.size := blk_lt HI.out.2.1
                have hr0 : W.heap.size < wr.heap.size := HL.out.lt
                have HI1 : Aside0 (Below w.heap.size w w4 ∧ w4.heap[w.heap.size]? = some (.cells (u8s (List.replicate 32 0)).toArray 29 (0, 0)) ∧ w4.heap[wB.heap.size]? = some (.cells (u8s least).toArray 29 (0, 0)) ∧ resK.R 33 w4 w.heap.size (fun _ => True) (.slice A10 (pickS rs qs).length k10) (pickS rs qs)) := by
                  have q1 := Hr0.out
                  refine ⟨HI.out.1.grown hg HI.out.1.size (fun k hk => by cases hk; omega), (hg.block _ hbz (by simp; omega)).trans HI.out.2.1, (hg.block _ hb13 (by simp; omega)).trans HI.out.2.2.1, R_off rfl HI.out.2.2.2 hg (fun k hk e => ?_)⟩
                  obtain ⟨es, clock, since, seen, c0, _, _, hit, _⟩ := HL.out
                  obtain ⟨cells, hc⟩ := Kd.R_typed HI.out.2.2.2 k hk
                  cases e
                  rw [hc] at hit
                  cases hit
                have Hsz4 : Aside0 (wB.heap.size < w4.heap.size ∧ w.heap.size < w4.heap.size) := ⟨by rw [hszz]; exact ⟨hb13, hbz⟩⟩
                clear hrun hent hk hlf hao hL1 hll hg hszz hb13 hbz hr0 HL HI hlk
                go_upto_region 20 with (first
                  | (at_next; refine wpList_next rfl _ rfl rfl Hrun.out ?_)
                  | (refine wpList_entry rfl _ rfl rfl Hent.out ?_)
                  | (refine store29_new rfl rfl _ _ rfl _ rfl a Hao.out rfl rfl ?_)
                  | go_in)
                obtain ⟨W2, hW2⟩ : ∃ W2, W2 = w4.alloc (.cells (u8s a).toArray 29) := ⟨_, rfl⟩
                rw [← hW2]
                have hBW2 : Below w4.heap.size w4 W2 := hW2 ▸ below_alloc (Below.refl _ _) _
                have hn : At W2 ⟨w4.heap.size, 0, none⟩ (u8s a) := hW2 ▸ At.new w4 (u8s a) 29
                have h13 : W2.heap[wB.heap.size]? = some (.cells (u8s least).toArray 29 (0, 0)) := (hBW2.block _ Hsz4.out.1).trans HI1.out.2.2.1
                have HL2 := Aside0.mk (HL1.out.below hBW2)
                have HI2 : Aside0 (Below w.heap.size w W2 ∧ W2.heap[w.heap.size]? = some (.cells (u8s (List.replicate 32 0)).toArray 29 (0, 0)) ∧ W2.heap[wB.heap.size]? = some (.cells (u8s least).toArray 29 (0, 0)) ∧ resK.R 33 W2 w.heap.size (fun _ => True) (.slice A10 (pickS rs qs).length k10) (pickS rs qs)) :=
                  ⟨HI1.out.1.trans (hBW2.mono HI1.out.1.size), (hBW2.block _ Hsz4.out.2).trans HI1.out.2.1, h13, Kd.R_below HI1.out.2.2.2 hBW2⟩
                have HKO : Aside0 (∀ b, idv b ∈ ks2 → IdOk b) := ⟨fun b hb => by obtain ⟨c, e, hc⟩ := HK9.out _ hb; rw [idv_inj e]; exact hc⟩
                have Hn := Aside0.mk hn
                have hsz2 : Aside0 (wB.heap.size < W2.heap.size) := ⟨blk_lt h13⟩
                -- behind the store into least
                have stored : ∀ w5 w6 : World, Below W2.heap.size W2 w5 → w6.heap[wB.heap.size]? = some (.cells (u8s a).toArray 29 (0, 0)) → w5.grownBy w6 (some wB.heap.size) →
                    LoopAt Tryz.prog 29 w6 (w.heap.size + 1) W.heap.size ks2 left1 ∧ Below w.heap.size w w6 ∧ w6.heap[w.heap.size]? = some (.cells (u8s (List.replicate 32 0)).toArray 29 (0, 0)) ∧ w6.heap[wB.heap.size]? = some (.cells (u8s a).toArray 29 (0, 0)) ∧ resK.R 33 w6 w.heap.size (fun _ => True) (.slice A10 (pickS rs qs).length k10) (pickS rs qs) := by
                  intro w5 w6 hb5 s1 s2
                  have q1 := Hr0.out
                  have l5 := HL2.out.below hb5
                  have z5 := (hb5.block _ (blk_lt HI2.out.2.1)).trans HI2.out.2.1
                  have b5 := (hb5.block _ (blk_lt HI2.out.2.2.1)).trans HI2.out.2.2.1
                  have r5 := Kd.R_below HI2.out.2.2.2 hb5
                  refine ⟨l5.move (s2.block _ l5.set.lt (by simp; omega)) (s2.block _ l5.lt (by simp; omega)), (HI2.out.1.trans (hb5.mono HI2.out.1.size)).grown s2 (Nat.le_trans HI2.out.1.size hb5.size) (fun k hk => by cases hk; omega), (s2.block _ (blk_lt z5) (by simp; omega)).trans z5, s1, R_off rfl r5 s2 (fun k hk e => ?_)⟩
                  obtain ⟨cells, hc⟩ := Kd.R_typed r5 k hk
                  cases e
                  rw [b5] at hc
                  cases hc
                have HSt := Aside0.mk stored
                clear hW2 hBW2 hn h13 stored HI1 HL1 Hrun Hent
                cases first with
                | true =>
                  have hld1 := Hn.out.id Hao.out
                  go_wp2_with (first
                    | (refine wpList_store_blk rfl rfl 29 _ _ rfl HI2.out.2.2.1 (u8s a) rfl rfl (by simp [u8s_length, Hao.out.len, Hlo.out.len]) (by rw [u8s_length, Hao.out.len]; exact info29) u8s_one ?_; intro w6 s1 s2 s3)
                    | go_in)
                  go_roundg k
                  case measure => omega
                  case rel =>
                    obtain ⟨t1, t2⟩ := HSt.out W2 w6 (Below.refl _ _) s1 s2
                    refine ⟨left1, false, a, rfl, Hll, ⟨t1⟩, ⟨?_⟩, Hao, ⟨t2⟩⟩
                    have := sought_step HKO.out Hk.out HSo.out Hlf.out
                    rwa [if_pos (.inl rfl)] at this
                | false =>
                  have hld1 := Hn.out.id Hao.out
                  have hld2 := (At.blk HI2.out.2.2.1).id Hlo.out
                  by_cases hc : cmp a least < 0
                  · have Hc := Aside0.mk hc
                    go_wp2_with (first
                      | (go_at_call 75; refine (digest_compare _ a least Hao.out Hlo.out).mono ?_; rintro e w5 ⟨rfl, hb5⟩; have hld5 := (Hn.out.below hb5).id Hao.out; have h135 := (hb5.block _ (blk_lt HI2.out.2.2.1)).trans HI2.out.2.2.1)
                      | (refine wpList_store_blk rfl rfl 29 _ _ rfl h135 (u8s a) rfl rfl (by simp [u8s_length, Hao.out.len, Hlo.out.len]) (by rw [u8s_length, Hao.out.len]; exact info29) u8s_one ?_; intro w6 s1 s2 s3)
                      | go_in)
                    go_roundg k
                    case measure => omega
                    case rel =>
                      obtain ⟨t1, t2⟩ := HSt.out w5 w6 hb5 s1 s2
                      refine ⟨left1, false, a, rfl, Hll, ⟨t1⟩, ⟨?_⟩, Hao, ⟨t2⟩⟩
                      have := sought_step HKO.out Hk.out HSo.out Hlf.out
                      rwa [if_pos (.inr Hc.out)] at this
                  · have hc1 : decide (cmp a least < 0) = false := by simpa using hc
                    have Hc := Aside0.mk hc
                    clear hc
                    go_wp2_with (first
                      | (go_at_call 75; refine (digest_compare _ a least Hao.out Hlo.out).mono ?_; rintro e w5 ⟨rfl, hb5⟩)
                      | go_in)
                    go_roundg k
                    case measure => omega
                    case rel =>
                      refine ⟨left1, false, least, rfl, Hll, ⟨HL2.out.below hb5⟩, ⟨?_⟩, Hlo, ⟨HI2.out.1.trans (hb5.mono HI2.out.1.size), (hb5.block _ (blk_lt HI2.out.2.1)).trans HI2.out.2.1, (hb5.block _ (blk_lt HI2.out.2.2.1)).trans HI2.out.2.2.1, Kd.R_below HI2.out.2.2.2 hb5⟩⟩
                      have := sought_step HKO.out Hk.out HSo.out Hlf.out
                      rwa [if_neg (by simp; exact Hc.out)] at this
        | succ k =>
          have hi2 : i2 < rs.length := by omega
          have hi3 : (i2 : Int) < (rs.length : Int) := by omega
          obtain ⟨ad, r, e1, hr, hro, hat⟩ := res_at (Kd.C_below HC.out HB.out) i2 hi2
          subst e1
          have hld := hat.res hro
          go_upto_region 11 with (first | (refine store33_new rfl rfl _ _ rfl r hro rfl rfl ?_) | go_in)
          obtain ⟨W, hW⟩ : ∃ W, W = wr.alloc (.cells (resC r).toArray 33) := ⟨_, rfl⟩
          have hn : At W ⟨wr.heap.size, 0, none⟩ (resC r) := hW ▸ At.new wr (resC r) 33
          have hBW : Below wr.heap.size wr W := hW ▸ below_alloc (Below.refl _ _) _
          have hsz : wr.heap.size < W.heap.size := by rw [hW]; simp
          rw [← hW]
          have hld2 : rowOf W ⟨wr.heap.size, 0, none⟩ 32 = some (u8s r.act) := (res_act hn).id hro.act
          have hld3 : rowOf W ⟨wr.heap.size, 0, none⟩ 65 = some (resC r) := hn.res hro
          obtain ⟨kl, hkl⟩ := keyOf_id hro.act
          have hbm : w.heap.size + 1 < wr.heap.size := HS.out.lt
          have HS1 := Aside0.mk (HS.out.below hBW)
          have HB1 := Aside0.mk (HB.out.trans (hBW.mono HB.out.size))
          have HZ1 := Aside0.mk ((hBW.block w.heap.size (by omega)).trans HZ.out)
          have HR1 := Aside0.mk (Kd.R_below HR.out hBW)
          have HLk := Aside0.mk (left_look HT.out HO.out HL.out hr)
          have Hr := Aside0.mk hr
          have Hro := Aside0.mk hro
          have Hkl := Aside0.mk hkl
          have Hbm := Aside0.mk hbm
          have Hn := Aside0.mk hn
          have Hsz := Aside0.mk hsz
          clear hr hro hkl hbm hat hn hW hBW hld hsz
          by_cases hin : r.act ∈ qs
          · have Hin := Aside0.mk hin
            clear hin
            obtain ⟨z, hz1, hz2⟩ := info33full
            have Hz := Aside0.mk (And.intro hz1 hz2)
            clear hz1 hz2
            have hlen : Aside0 ((pickS (rs.take i2) qs).length + 1 ≤ 33) := ⟨by have h1 : (pickS (rs.take i2) qs).length ≤ (rs.take i2).length := pick_length; have h2 := HT.out.most; rw [List.length_take] at h1; omega⟩
            go_wp2_with (first
              | (at_lookup; refine wpList_look rfl _ _ rfl K29 Tryz.underlying141 zero4 rfl HS1.out (idv r.act) kl rfl Hkl.out true (by rw [HLk.out]; simp [Hin.out]) ?_)
              | (refine wpList_build33 rfl _ rfl r Hro.out rfl ?_)
              | (at_builtin; refine Kd.R_append resK (w0 := w) w.heap.size rfl (.tmp 36) (.tmp 38) 22 33 z 72 rfl Tryz.underlying22 Hz.out.1 Hz.out.2 (by decide) (by decide) _ (pickS (rs.take i2) qs) r (resC r) (fun _ => True) (fun _ => False) rfl rfl (res_M Hro.out) (fun _ h => h.elim) (fun _ _ => trivial) HR1.out HB1.out HB1.out.size (by have := hlen.out; omega) ?_;
                 intro v3 w3 h1 h2 h3 h4;
                 have HS3 := Aside0.mk (HS1.out.grown h3 (set_ne HS1.out HR1.out));
                 have HZ3 := Aside0.mk ((h3.block _ (by have := Hbm.out; have := Hsz.out; omega) (fun e => by obtain ⟨cs, hcs⟩ := Kd.R_typed HR1.out _ e.symm; rw [HZ1.out] at hcs; cases hcs)).trans HZ1.out);
                 have hld4 : rowOf w3 ⟨wr.heap.size, 0, none⟩ 32 = some (u8s r.act) := (res_act (Hn.out.grown Hsz.out h3 (fun e => absurd (Kd.R_lt HR.out _ e.symm) (Nat.lt_irrefl _)))).id Hro.out.act)
              | (at_delete; refine wpList_drop rfl _ _ 29 rfl K29 Tryz.underlying141 rfl HS3.out (idv r.act) kl rfl Hkl.out ?_; intro w4 ks4 d1 d2 d3 d4)
              | go_in)
            go_roundg k
            case measure => omega
            case rel =>
              have hS4 : some (w.heap.size + 1) ≠ v3.ownBlock := set_ne HS3.out h1
              refine ⟨i2 + 1, ks4, by go_num, by omega, ⟨d1⟩, ⟨left_in HL.out Hr.out d2⟩, ⟨h2.grown d3 h2.size (fun k hk => by cases hk; omega)⟩, ⟨(d3.block _ (by have := HS3.out.lt; omega) (by simp)).trans HZ3.out⟩, ⟨?_⟩⟩
              rw [pick_in Hr.out Hin.out]
              exact R_off rfl h1 d3 (fun k hk e => hS4 (by rw [hk, e]))
          · have Hin := Aside0.mk hin
            clear hin
            go_wp2_with (first
              | (at_lookup; refine wpList_look rfl _ _ rfl K29 Tryz.underlying141 zero4 rfl HS1.out (idv r.act) kl rfl Hkl.out false (by rw [HLk.out]; simp [Hin.out]) ?_)
              | go_in)
            go_roundg k
            case measure => omega
            case rel => exact ⟨i2 + 1, ks2, by go_num, by omega, HS1, ⟨left_out HL.out Hr.out Hin.out⟩, HB1, HZ1, ⟨by rw [pick_out Hr.out Hin.out]; exact HR1.out⟩⟩
    | succ k =>
      have hi : i < qs.length := by omega
      have hi1 : (i : Int) < (qs.length : Int) := by omega
      obtain ⟨ad, a, e1, ha, hia, hat⟩ := id_at (Kd.C_below HD.out HB.out) i hi
      subst e1
      have hld := hat.id hia
      have hld2 : rowOf (wr.alloc (.cells (u8s a).toArray 29)) ⟨wr.heap.size, 0, none⟩ 32 = some (u8s a) := (At.new wr (u8s a) 29).id hia
      obtain ⟨kl, hkl⟩ := keyOf_id hia
      have hbm : w.heap.size + 1 < wr.heap.size := HS.out.lt
      have HS1 := Aside0.mk (HS.out.below (below_alloc (Below.refl _ _) (.cells (u8s a).toArray 29)))
      have HB1 := Aside0.mk (HB.out.trans ((below_alloc (Below.refl _ _) (.cells (u8s a).toArray 29)).mono HB.out.size))
      have HZ1 := Aside0.mk ((heap_alloc_old wr (.cells (u8s a).toArray 29) (by omega : w.heap.size < wr.heap.size)).trans HZ.out)
      have Ha := Aside0.mk ha
      have Hia := Aside0.mk hia
      have Hkl := Aside0.mk hkl
      have Hbm := Aside0.mk hbm
      clear ha hia hkl hbm hat
      go_wp2_with (first
        | (refine store29_new rfl rfl _ _ rfl _ rfl a Hia.out rfl rfl ?_)
        | (at_mapUpdate; refine wpList_put rfl _ _ _ rfl K29 Tryz.underlying141 rfl HS1.out (idv a) kl rfl rfl Hkl.out ?_; intro w2 ks2 h1 h2 h3 h4)
        | go_in)
      go_roundg k
      case measure => omega
      case rel => exact ⟨i + 1, ks2, by go_num, by omega, ⟨h1⟩, ⟨asked_step HA.out Ha.out h2⟩, ⟨HB1.out.grown h3 HB1.out.size (fun k hk => by cases hk; omega)⟩, ⟨(h3.block _ (by have := Hbm.out; simp; omega) (by simp)).trans HZ1.out⟩⟩
end Go.Proofs.YtdekmeanlcpenaaGreatDoor.Pick

namespace Go.Proofs.YtdekmeanlcpenaaGreatDoor.Pick
open Go.RowKit Go.Proofs.YtdekmeanlcpenaaGreatDoorW.PrintWords Go.Proofs.YtdekmeanlcpenaaGreatDoor.Mid
attribute [local go_sem ↓ high] load33_eq load29_eq build69_eq
attribute [local simp] rowOf_drew rowOf_drewN
attribute [local go_sem high] load33_row load29_row rowOf_drew rowOf_drewN
set_option maxHeartbeats 2000000
set_option maxRecDepth 100000

def opPick : ByteArray := { data := #[114, 101, 115, 116, 111, 114, 101, 46, 112, 105, 99, 107] }
/-- The error that such an answer comes with: none, or a new Fault. -/
inductive ErrAt (w : World) (base : Nat) (op name : ByteArray) (n : Int) (id : List Int) : Value → Prop
  | none : n = 0 → ErrAt w base op name n id .nilIface
  | some (g : Nat) : n ≠ 0 → base ≤ g → w.heap[g]? = some (.cells (faultC op name id (errno n)).toArray 82 (0, 0)) → ErrAt w base op name n id (.iface 79 (.pointer (some ⟨g, 0, none⟩)))
theorem ErrAt.move {w w1 : World} {base : Nat} {op name : ByteArray} {n : Int} {id : List Int} {v : Value} (h : ErrAt w base op name n id v) (hb : Below w.heap.size w w1) : ErrAt w1 base op name n id v := by
  cases h with
  | none h => exact .none h
  | some g h1 h2 h3 => exact .some g h1 h2 ((hb.block _ (blk_lt h3)).trans h3)

structure RetPick (rs : List Res) (qs : List (List Int)) (base : Nat) (e : Ending) (w' : World) : Prop where
  out : ∃ (v err : Value) (out : List Res) (n : Int) (id : List Int), e = .returned (.tuple #[v, err]) ∧ Picked rs qs out n id ∧ resK.R 33 w' base (fun _ => True) v out ∧ ErrAt w' base opPick .empty n id err ∧ IdOk id
theorem bldBad (w : World) : (bld 82 #[(0, .string opPick), (3, .iface 80 (.int .i64 1))]).run Tryz.prog w = .ok (.agg (faultC opPick .empty z32 (errno 1)).toArray) w := bld69_two w opPick (errno 1) rfl

theorem Pick_any (A : Option Addr) (c : Nat) (rs : List Res) (A2 : Option Addr) (c2 : Nat) (qs : List (List Int)) (w : World) (hC : resK.C w A rs.length rs) (hD : idK.C w A2 qs.length qs) (hc : rs.length ≤ c) (ok : ∀ r ∈ rs, ResOk r) (oka : ∀ a ∈ qs, IdOk a)
    (hca : qs.length ≤ 1000000) :
    Calls Tryz.prog 9 #[.slice A rs.length c, .slice A2 qs.length c2] w fun e w' => RetPick rs qs w.heap.size e w' ∧ Below w.heap.size w w' := by
  have HC := Aside0.mk hC
  have HD := Aside0.mk hD
  have HO := Aside0.mk ok
  have HOA := Aside0.mk oka
  have Hc := Aside0.mk hc
  clear hC hD ok oka hc
  by_cases hT : Table rs
  · have HT := Aside0.mk hT
    clear hT
    have main : ∀ (bs : Bool), (bs = true → ∀ a, ¬ Lacks rs qs a) → (bs = false → ∃ a, Lacks rs qs a) → Calls Tryz.prog 9 #[.slice A rs.length c, .slice A2 qs.length c2] w fun e w' => RetPick rs qs w.heap.size e w' ∧ Below w.heap.size w w' := by
      intro bs hb0 hb1
      have HB0 := Aside0.mk hb0
      have HB1' := Aside0.mk hb1
      clear hb0 hb1
      go_enter Tryz.func9, Tryz.ntmps9
      go_upto_region 3 with (first
        | (go_at_call 31; refine (table_valid A c rs _ HC.out Hc.out).mono ?_; rintro e w1 ⟨⟨q, rfl, hq⟩, hb1⟩; have hqt : q = true := hq.2 HT.out; subst hqt; have HB1 := Aside0.mk hb1; clear hq hb1)
        | go_in)
      go_upto_region 4 with (first
        | (go_at_call 32; refine (pick_prog A c rs A2 c2 qs _ (Kd.C_below HC.out HB1.out) (Kd.C_below HD.out HB1.out) HO.out HOA.out HT.out hca).mono ?_; rintro e w2 ⟨⟨v, least, first, rfl, hR, hlo, hy, hn⟩, hb2⟩;
           have hfb : first = bs := (by cases first <;> cases bs; rfl; exact absurd ((hn rfl).1) (HB0.out rfl _); exact absurd (HB1'.out rfl).choose_spec ((hy rfl).1 _); rfl); subst hfb;
           have HR2 := Aside0.mk hR; have Hlo := Aside0.mk hlo; have Hy := Aside0.mk hy; have Hn := Aside0.mk hn; have HB2 := Aside0.mk (HB1.out.trans (hb2.mono HB1.out.size)); clear hR hlo hy hn hb2)
        | (refine store29_new rfl rfl _ _ rfl _ rfl least Hlo.out rfl rfl ?_)
        | go_in)
      have hv : ∃ A3 k3 n3, v = .slice A3 n3 k3 := by obtain ⟨A3, k3, e⟩ := Kd.R_slice HR2.out; exact ⟨_, _, _, e⟩
      obtain ⟨A3, k3, n3, rfl⟩ := hv
      cases first with
      | true =>
        have HBT := Aside0.mk (HB0.out rfl)
        go_wp2
        go_ret2
        have hbn := below_alloc (Below.refl w2.heap.size w2) (.cells (u8s least).toArray 29)
        exact ⟨⟨⟨_, _, pickS rs qs, 0, z32, rfl, ⟨fun h => absurd HT.out h, fun _ _ => ⟨rfl, rfl, rfl⟩, fun _ h => absurd h.choose_spec (HBT.out _)⟩, Kd.R_below (Kd.R_lower HR2.out HB1.out.size) hbn, .none rfl, z32_ok⟩⟩, HB2.out.trans (hbn.mono HB2.out.size)⟩
      | false =>
        have HBF := Aside0.mk (HB1'.out rfl)
        have HLe := Aside0.mk (Hn.out rfl)
        obtain ⟨W, hW⟩ : ∃ W, W = w2.alloc (.cells (u8s least).toArray 29) := ⟨_, rfl⟩
        rw [← hW]
        have hBW : Below w2.heap.size w2 W := hW ▸ below_alloc (Below.refl _ _) _
        have hrange : W.rangeAt w2.heap.size 0 (u8s least) := (hW ▸ At.new w2 (u8s least) 29 : At W _ _).range
        have HBW := Aside0.mk hBW
        have HBd := Aside0.mk (HB2.out.trans (hBW.mono HB2.out.size))
        clear hW hBW
        have hbb := fun u => bld69_three u opPick least Hlo.out (errno 96) rfl
        unfold opPick errno at hbb
        go_wp2
        have hrange2 : W.drew.rangeAt w2.heap.size 0 (u8s least) := hrange
        have hi29 : (Tryz.prog.info? 29).map (·.size) = some (u8s least).length := by rw [u8s_length, Hlo.out.len]; exact info29
        have hu29 := Tryz.underlying29
        go_region_held3 (fun w' => w'.rangeAt w2.heap.size 0 (u8s least)) (first | go_keep_ranges | exact hrange2) (fail)
        go_wp2
        go_ret2
        have hbn := (below_alloc (Below.refl W.heap.size W) (.cells (faultC opPick .empty least (errno 96)).toArray 82)).drew
        exact ⟨⟨⟨_, _, [], 96, least, rfl, ⟨fun h => absurd HT.out h, fun _ h => absurd HBF.out.choose_spec (h _), fun _ _ => ⟨rfl, rfl, HLe.out⟩⟩, Kd.R_nil resK 33 _ _ _, .some W.heap.size (by decide) HBd.out.size (heap_alloc_new W _), Hlo.out⟩⟩, HBd.out.trans (hbn.mono HBd.out.size)⟩
    by_cases hL : ∃ a, Lacks rs qs a
    · exact main false (fun h => (by cases h)) (fun _ => hL)
    · exact main true (fun _ a ha => hL ⟨a, ha⟩) (fun h => (by cases h))
  · have HT := Aside0.mk hT
    clear hT
    have hbb := bldBad
    unfold opPick at hbb
    go_enter Tryz.func9, Tryz.ntmps9
    go_wp2_with (first
      | (go_at_call 31; refine (table_valid A c rs _ HC.out Hc.out).mono ?_; rintro e w1 ⟨⟨q, rfl, hq⟩, hb1⟩; have hqf : q = false := (by cases q with | false => rfl | true => exact absurd (hq.1 rfl) HT.out); subst hqf)
      | go_in)
    go_ret2
    refine ⟨⟨⟨_, _, [], 1, z32, rfl, ⟨fun _ => ⟨rfl, rfl, rfl⟩, fun h => absurd h HT.out, fun h => absurd h HT.out⟩, Kd.R_nil resK 33 _ _ _, .some w1.heap.size (by decide) hb1.size (heap_alloc_new w1 _), z32_ok⟩⟩, hb1.trans ((below_alloc (Below.refl _ _) _).mono hb1.size)⟩
end Go.Proofs.YtdekmeanlcpenaaGreatDoor.Pick

namespace Go.Proofs.YtdekmeanlcpenaaGreatDoor.Mid
open Go.RowKit Go.Proofs.YtdekmeanlcpenaaGreatDoorW.PrintWords
attribute [local go_sem ↓ high] load33_eq load29_eq
attribute [local simp] rowOf_drew rowOf_drewN
attribute [local go_sem high] load33_row load29_row rowOf_drew rowOf_drewN

theorem res_code' {w : World} {p : Addr} {r : Res} (hr : ResOk r) (h : At w p (resC r)) : w.cell? ⟨p.block, p.off + 64, none⟩ = some (.int .i64 r.code) := res_code hr h
set_option maxHeartbeats 1000000
set_option maxRecDepth 100000
theorem ref_valid (A : Option Addr) (c : Nat) (rs : List Res) (w : World) (hC : resK.C w A rs.length rs) (hc : rs.length ≤ c) (hl : rs.length ≤ 140737488355328) :
    Calls Tryz.prog 28 #[.slice A rs.length c] w fun e w' => RetB e (Table rs) ∧ Below w.heap.size w w' := by
  have HC := Aside0.mk hC
  have Hc := Aside0.mk hc
  clear hC hc
  by_cases hm : rs.length ≤ 32
  · have hm1 : (rs.length : Int) ≤ 32 := by omega
    go_enter Tryz.func28, Tryz.ntmps28
    go_wp2
    go_loopg [3] rs.length (fun k v3 w' => ∃ i : Nat, v3 = .int .i64 i ∧ i + k = rs.length ∧ Aside0 (Upto rs i) ∧ Aside0 (Below w.heap.size w w'))
    case atStart => exact ⟨0, rfl, by omega, ⟨upto_none rs⟩, ⟨Below.refl _ _⟩⟩
    case round =>
      obtain ⟨i, rfl, hik, HU, HB⟩ := hrel
      cases gk with
      | zero =>
        have hd : decide (i < rs.length) = false := by simp; omega
        have hi : Aside0 (i = rs.length) := ⟨by omega⟩
        clear hik
        go_wp2
        go_ret
        exact ⟨.yes rfl (upto_all HU.out (by rw [hi.out]; exact Nat.le_refl _) hm), HB.out⟩
      | succ k =>
        have hi : i < rs.length := by omega
        have hi1 : (i : Int) < (rs.length : Int) := by omega
        obtain ⟨ad, r, rfl, hr, ho, hat⟩ := res_at (Kd.C_below HC.out HB.out) i hi
        have hcell := res_code' ho hat
        have hact := (res_act hat).id ho.act
        have HR := Aside0.mk hr
        have Ho := Aside0.mk ho
        have Hat := Aside0.mk hat
        clear hat ho hr
        by_cases hf1 : r.code < 0
        · go_wp2
          go_ret
          exact ⟨.no rfl (fun T => by have := T.code r (List.mem_of_getElem? HR.out); omega), HB.out⟩
        · have hf2 : decide (r.code < 0) = false := by simpa using hf1
          by_cases hf3 : 255 < r.code
          · go_wp2
            go_ret
            exact ⟨.no rfl (fun T => by have := T.code r (List.mem_of_getElem? HR.out); omega), HB.out⟩
          · have hf4 : decide (255 < r.code) = false := by simpa using hf3
            have Hf : Aside0 (0 ≤ r.code ∧ r.code ≤ 255) := ⟨by omega⟩
            clear hf1 hf3
            obtain rfl | ⟨m, rfl⟩ : i = 0 ∨ ∃ m, i = m + 1 := by cases i; exact .inl rfl; exact .inr ⟨_, rfl⟩
            · simp only [Nat.zero_mul, Addr.add_zero'] at hcell hact
              go_wp2
              refine wp_region_S (Since wr) (by kernel_rfl) (by kernel_rfl) (since_drew wr) ?_
              repeat (go_big_quiet_step (fail))
              refine wpQuiet_nil ?_
              rintro _ ⟨⟨w5, hb5⟩, rfl⟩
              go_wp2
              go_roundg k
              case measure => omega
              case rel => exact ⟨1, by go_num, by omega, ⟨upto_one HR.out Hf.out⟩, ⟨below_of HB.out hb5 (Nat.le_refl _)⟩⟩
            · have hm0 : m < rs.length := by omega
              have hm2 : (m : Int) < (rs.length : Int) := by omega
              obtain ⟨ad', q, e1, hq, hqo, hqa⟩ := res_at (Kd.C_below HC.out HB.out) m hm0
              cases e1
              have g2 : ∀ x : CW (Since wr), rowOf x.w (ad.add ((m + 1) * 65)) 32 = some (u8s r.act) := fun x => (res_act (Hat.out.below x.h)).id Ho.out.act
              have g3 : ∀ x : CW (Since wr), rowOf x.w (ad.add (m * 65)) 32 = some (u8s q.act) := fun x => (res_act (hqa.below x.h)).id hqo.act
              have HQ := Aside0.mk hq
              have Hqo := Aside0.mk hqo
              clear hq hqo hqa
              by_cases hc : cmp q.act r.act < 0
              · have hd3 : decide (0 ≤ cmp q.act r.act) = false := by simpa using hc
                have Hcm := Aside0.mk hc
                clear hc
                go_wp2
                refine wp_region_S (Since wr) (by kernel_rfl) (by kernel_rfl) (since_drew wr) ?_
                repeat (go_big_quiet_step (first | (go_at_call 72; refine calls_since (order_any _ q.act r.act Hqo.out.act Ho.out.act))))
                refine wpQuiet_nil ?_
                rintro _ ⟨⟨w5, hb5⟩, rfl⟩
                go_wp2
                go_roundg k
                case measure => omega
                case rel => exact ⟨m + 2, by go_num, by omega, ⟨upto_step HU.out HQ.out HR.out Hf.out Hcm.out⟩, ⟨below_of HB.out hb5 (Nat.le_refl _)⟩⟩
              · have hd3 : 0 ≤ cmp q.act r.act := by omega
                have Hcm := Aside0.mk hc
                clear hc
                go_wp2
                refine wp_region_S (Since wr) (by kernel_rfl) (by kernel_rfl) (since_drew wr) ?_
                repeat (go_big_quiet_step (first | (go_at_call 72; refine calls_since (order_any _ q.act r.act Hqo.out.act Ho.out.act))))
                refine wpQuiet_nil ?_
                rintro _ ⟨⟨w5, hb5⟩, rfl⟩
                go_wp2
                go_ret
                exact ⟨.no rfl (fun T => (by have h6 := T.rise m q r HQ.out HR.out; have h7 := Hcm.out; omega)), below_of HB.out hb5 (Nat.le_refl _)⟩
  · have hm1 : (32 : Int) < rs.length := by omega
    go_enter Tryz.func28, Tryz.ntmps28
    go_wp2
    go_ret
    exact ⟨.no rfl (fun T => absurd T.most hm), Below.refl _ _⟩
end Go.Proofs.YtdekmeanlcpenaaGreatDoor.Mid

namespace Go.Proofs.YtdekmeanlcpenaaGreatDoor.Mid
open Go.RowKit Go.Proofs.YtdekmeanlcpenaaGreatDoorW.PrintWords
attribute [local go_sem ↓ high] load33_eq load29_eq build33_eq
attribute [local simp] rowOf_drew rowOf_drewN
attribute [local go_sem high] load33_row load29_row rowOf_drew rowOf_drewN bld33_none
set_option maxHeartbeats 1000000
set_option maxRecDepth 100000

theorem results_ct {fn : Func} {q u : Tmp} {r : Res} (hr : ResOk r) (h : fn.results = #[.cell q 33, .tmp u]) (tmps : Array Value) (w : World) (g : Nat)
    (hp : tmps.getD q undef = .pointer (some ⟨g, 0, none⟩)) (hg : w.heap[g]? = some (.cells (resC r).toArray 33 (0, 0))) :
    (results fn tmps).run Tryz.prog w = .ok (.tuple #[resv r, tmps.getD u undef]) w := by
  have hp' : tmps[q]?.getD undef = .pointer (some ⟨g, 0, none⟩) := by simpa using hp
  have hl := run_loadVar_at (P := Tryz.prog) w ⟨g, 0, none⟩ 33 (resC r) _ (At.blk hg) Tryz.underlying33 rfl (by rw [resC_length hr]; exact info33)
  simp [results, h, hp', asAddr, hl, resv]
theorem eqI29 (w : World) (x y : List Int) (hx : IdOk x) (hy : IdOk y) : (Op.equalIn 10000 29 (.agg (u8s x).toArray) (.agg (u8s y).toArray)).run Tryz.prog w = .ok (decide (x = y)) w := eq29 w x y hx hy
theorem eqI33 (w : World) (r s : Res) (hr : ResOk r) (hs : ResOk s) : (Op.equalIn 10000 33 (.agg (resC r).toArray) (.agg (resC s).toArray)).run Tryz.prog w = .ok (decide (r = s)) w := eq33 w r s hr hs
theorem eqE29 (w : World) (x y : List Int) (hx : IdOk x) (hy : IdOk y) : (Op.equal 29 (.agg (u8s x).toArray) (.agg (u8s y).toArray)).run Tryz.prog w = .ok (decide (x = y)) w := eq29 w x y hx hy

/-- What Find answers. -/
structure RetFind (rs : List Res) (x : List Int) (e : Ending) : Prop where
  out : ∃ (r : Res) (q : Bool), e = .returned (.tuple #[resv r, .bool q]) ∧ ResOk r ∧ (q = true ↔ ∃ s ∈ rs, s.act = x)
theorem find_any (A : Option Addr) (c : Nat) (rs : List Res) (x : List Int) (w : World) (hC : resK.C w A rs.length rs) (hx : IdOk x) (hl : rs.length ≤ 140737488355328) :
    Calls Tryz.prog 29 #[.slice A rs.length c, idv x] w fun e w' => RetFind rs x e ∧ Below w.heap.size w w' := by
  have HC := Aside0.mk hC
  have Hx := Aside0.mk hx
  clear hC hx
  unfold idv
  go_enter Tryz.func29, Tryz.ntmps29
  go_upto_region 1 with (fail)
  obtain ⟨W, hW⟩ : ∃ W, W = (w.alloc (.cells (u8s x).toArray 29)).alloc (.cells Tryz.zeroCells33 33) := ⟨_, rfl⟩
  rw [← hW]
  have hsz0 : (w.alloc (.cells (u8s x).toArray 29)).heap.size = w.heap.size + 1 := by simp
  have hBW : Below w.heap.size w W := hW ▸ below_alloc (below_alloc (Below.refl _ _) _) _
  have hx0 : At W ⟨w.heap.size, 0, none⟩ (u8s x) := hW ▸ (At.new w (u8s x) 29).below (below_alloc (Below.refl _ _) _)
  have h40 : W.heap[w.heap.size + 1]? = some (.cells Tryz.zeroCells33 33 (0, 0)) := by
    have := heap_alloc_new (w.alloc (.cells (u8s x).toArray 29)) (.cells Tryz.zeroCells33 33)
    rw [hsz0] at this
    rw [hW]; exact this
  have HBW := Aside0.mk hBW
  have HX0 := Aside0.mk hx0
  have H40 := Aside0.mk h40
  clear hW hsz0 hBW hx0 h40
  go_wp2
  go_loopg [6] rs.length (fun k v6 w' => ∃ i : Nat, v6 = .int .i64 i ∧ i + k = rs.length ∧ Aside0 (∀ j s, j < i → rs[j]? = some s → s.act ≠ x) ∧ Aside0 (Drawn0 W w'))
  case atStart => exact ⟨0, rfl, by omega, ⟨fun j s h => by omega⟩, ⟨Drawn0.refl _⟩⟩
  case round =>
    obtain ⟨i, rfl, hik, HN, HDr⟩ := hrel
    have h4 : Aside0 (wr.heap[w.heap.size + 1]? = some (.cells Tryz.zeroCells33 33 (0, 0))) := ⟨(HDr.out.below.block _ (blk_lt H40.out)).trans H40.out⟩
    have HBr : Aside0 (Below w.heap.size w wr) := ⟨HBW.out.trans (HDr.out.below.mono HBW.out.size)⟩
    cases gk with
    | zero =>
      have hd : decide (i < rs.length) = false := by simp; omega
      have hi : Aside0 (i = rs.length) := ⟨by omega⟩
      clear hik
      have hz65 : (⟨z32, z32, 0⟩ : Res).act = z32 := rfl
      have hzr : ResOk ⟨z32, z32, 0⟩ := ⟨z32_ok, z32_ok, by decide⟩
      have HZr := Aside0.mk hzr
      clear hz65 hzr
      go_wp2_with (first
        | (refine wpList_store_blk rfl rfl 33 _ _ rfl h4.out (resC ⟨z32, z32, 0⟩) rfl rfl (by rw [z33, resC_length HZr.out]) (by rw [resC_length HZr.out]; exact info33) resC_one ?_; intro w6 s1 s2 s3)
        | go_in)
      (try simp only [Exit.inBlock, Exit.then])
      refine bodyPost_ret (results_ct HZr.out rfl _ _ (w.heap.size + 1) rfl s1) rfl ?_
      refine ⟨⟨_, false, rfl, HZr.out, ⟨fun h => (by cases h), fun ⟨s, hs, he⟩ => ?_⟩⟩, HBr.out.grown s2 HBr.out.size (fun k hk => by cases hk; omega)⟩
      obtain ⟨j, hj⟩ := List.mem_iff_getElem?.1 hs
      exact absurd he (HN.out j s (by have := (List.getElem?_eq_some_iff.1 hj).1; have := hi.out; omega) hj)
    | succ k =>
      have hi : i < rs.length := by omega
      have hi1 : (i : Int) < (rs.length : Int) := by omega
      obtain ⟨ad, r, rfl, hr, ho, hat⟩ := res_at (Kd.C_below HC.out HBr.out) i hi
      have g1 := (res_act hat).id ho.act
      have g2 := hat.res ho
      have g3 := (HX0.out.below HDr.out.below).id Hx.out
      have HR := Aside0.mk hr
      have Ho := Aside0.mk ho
      have Hat := Aside0.mk hat
      clear hat ho hr
      by_cases hin : r.act = x
      · have heq : ∀ u, (Op.equalIn 10000 29 (.agg (u8s r.act).toArray) (.agg (u8s x).toArray)).run Tryz.prog u = .ok true u := fun u => by rw [eqI29 u _ _ Ho.out.act Hx.out, decide_eq_true hin]
        have Hin := Aside0.mk hin
        clear hin
        go_wp2
        go_quiet (fail)
        have h5 : Aside0 ((wr.drewN nq).heap[w.heap.size + 1]? = some (.cells Tryz.zeroCells33 33 (0, 0))) := ⟨((HDr.out.step nq).below.block _ (blk_lt H40.out)).trans H40.out⟩
        have HBq : Aside0 (Below w.heap.size w (wr.drewN nq)) := ⟨HBW.out.trans ((HDr.out.step nq).below.mono HBW.out.size)⟩
        go_wp2_with (first
          | (refine wpList_store_blk rfl rfl 33 _ _ rfl h5.out (resC r) rfl rfl (by rw [z33, resC_length Ho.out]) (by rw [resC_length Ho.out]; exact info33) resC_one ?_; intro w6 s1 s2 s3)
          | go_in)
        (try simp only [Exit.inBlock, Exit.then])
        refine bodyPost_ret (results_ct Ho.out rfl _ _ (w.heap.size + 1) rfl s1) rfl ?_
        exact ⟨⟨_, true, rfl, Ho.out, ⟨fun _ => ⟨r, List.mem_of_getElem? HR.out, Hin.out⟩, fun _ => rfl⟩⟩, HBq.out.grown s2 HBq.out.size (fun k hk => by cases hk; omega)⟩
      · have heq : ∀ u, (Op.equalIn 10000 29 (.agg (u8s r.act).toArray) (.agg (u8s x).toArray)).run Tryz.prog u = .ok false u := fun u => by rw [eqI29 u _ _ Ho.out.act Hx.out, decide_eq_false hin]
        have Hin := Aside0.mk hin
        clear hin
        go_wp2
        go_quiet (fail)
        go_wp2
        go_roundg k
        case measure => omega
        case rel =>
          refine ⟨i + 1, by go_num, by omega, ⟨fun j s hj hs => ?_⟩, ⟨HDr.out.step _⟩⟩
          by_cases hji : j = i
          · subst hji
            rw [HR.out] at hs
            cases hs
            exact Hin.out
          · exact HN.out j s (by omega) hs
end Go.Proofs.YtdekmeanlcpenaaGreatDoor.Mid
