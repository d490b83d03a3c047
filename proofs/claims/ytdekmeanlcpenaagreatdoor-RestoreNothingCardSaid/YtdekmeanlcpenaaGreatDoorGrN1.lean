import Derived.Test.YtdekmeanlcpenaaGreatDoorProg
import Derived.WalkKit
import Derived.LaidEql
import Derived.Stop.Asserts
import Derived.RowKitTokens
import Derived.Test.YtdekmeanlcpenaaGreatDoorWWords
import Derived.Test.YtdekmeanlcpenaaGreatDoorTie
import Derived.Test.YtdekmeanlcpenaaGreatDoorCards
import Derived.ProofKit
import Derived.OpenShut
import Derived.ShutString
import Derived.ChangeOld
import Derived.Below
import Derived.SizedLaws
import Derived.LaidMore
import Derived.LaidHandle
import Derived.Lay
import Derived.SevenTiedAt
import Derived.Stop.Joined
import Derived.Conc.Holds
import Derived.Test.YtdekmeanlcpenaaGreatDoorWSized
import Derived.Test.YtdekmeanlcpenaaGreatDoorWMore
import Derived.Deep.MidRow
import Derived.DataElems
namespace Go.Proofs.YtdekmeanlcpenaaGreatDoor.Err
open Go.RowKit Go.Extern.Stop Go.Stop Go.Extern

theorem valueOf110 (t : Addr) (w : World) : (ReflectliteValue.unpack (.iface 142 (.pointer (some t)))).run Tryz.prog w
    = .ok (.agg #[.pointer (some ⟨4, 142, none⟩), .pointer (some ⟨w.heap.size, 0, none⟩), .int .u64 150]) (w.alloc (.cells #[.pointer (some t)] 142)) := by kernel_rfl
theorem valueOf67 (n : Int) (w : World) : (ReflectliteValue.unpack (.iface 80 (.int .i64 n))).run Tryz.prog w
    = .ok (.agg #[.pointer (some ⟨4, 80, none⟩), .pointer (some ⟨w.heap.size, 0, none⟩), .int .u64 130]) (w.alloc (.cells #[.int .i64 n] 80)) := by kernel_rfl
theorem type110 (a : Addr) (w : World) : (ReflectliteValue.methodAny (ReflectliteValue.valueError "reflectlite.Value.Type" 0) (fun t _ _ _ => ReflectliteType.toType t) #[.agg #[.pointer (some ⟨4, 142, none⟩), .pointer (some a), .int .u64 150]]).run Tryz.prog w
    = .ok (.iface 211 (.agg #[.pointer (some ⟨4, 142, none⟩)])) w := by kernel_rfl
theorem methodKind (h : Value) (w : World) : (Go.method 583 211 (.agg #[h]) "Kind").run Tryz.prog w = .ok (347, h) w := by kernel_rfl
theorem kind110 (w : World) : ((ReflectliteType.abiMethod fun t => (fun a : Nat => Value.int IntKind.u8 (a : Int)) <$> Rtype.kind t) #[.pointer (some ⟨4, 142, none⟩)]).run Tryz.prog w = .ok (.int .u8 22) w := by kernel_rfl
theorem kind67 (w : World) : ((ReflectliteType.abiMethod fun t => (fun a : Nat => Value.int IntKind.u8 (a : Int)) <$> Rtype.kind t) #[.pointer (some ⟨4, 80, none⟩)]).run Tryz.prog w = .ok (.int .u8 2) w := by kernel_rfl
theorem rlm (z : Sem Value) (f : TypeId → Addr → Nat → Nat → Sem Value) (v : Value) :
    ReflectliteValue.method z f #[v] = (do match ← ReflectliteValue.parts v with | none => z | some (t, a, fl) => f t a fl (fl % 32)) := rfl
theorem parts110 (a : Addr) (w : World) : (ReflectliteValue.parts (.agg #[.pointer (some ⟨4, 142, none⟩), .pointer (some a), .int .u64 150])).run Tryz.prog w = .ok (some (142, a, 150)) w := by kernel_rfl
theorem isNil110 (a p : Addr) (W : World) (ha : W.cell? a = some (.pointer (some p))) :
    (ReflectliteValue.method (ReflectliteValue.valueError "reflectlite.Value.IsNil" 0) ReflectliteValue.isNil #[.agg #[.pointer (some ⟨4, 142, none⟩), .pointer (some a), .int .u64 150]]).run Tryz.prog W = .ok (.bool false) W := by
  rw [rlm]
  simp only [Sem.run_bind, parts110, Result.andThen]
  simp [ReflectliteValue.isNil, loadVar, isAgg, underlying, Tryz.underlying142, ha, Result.andThen]
theorem methodElem (h : Value) (w : World) : (Go.method 583 211 (.agg #[h]) "Elem").run Tryz.prog w = .ok (360, .agg #[h]) w := by kernel_rfl
theorem methodImplements (h : Value) (w : World) : (Go.method 583 211 (.agg #[h]) "Implements").run Tryz.prog w = .ok (361, .agg #[h]) w := by kernel_rfl
theorem methodAssignableTo (h : Value) (w : World) : (Go.method 583 211 (.agg #[h]) "AssignableTo").run Tryz.prog w = .ok (358, .agg #[h]) w := by kernel_rfl
theorem methodComparable (h : Value) (w : World) : (Go.method 583 211 (.agg #[h]) "Comparable").run Tryz.prog w = .ok (359, .agg #[h]) w := by kernel_rfl
theorem methodUnwrap (h : Value) (w : World) : (Go.method 583 79 h "Unwrap").run Tryz.prog w = .ok (352, h) w := by kernel_rfl
theorem elem110 (w : World) : (ReflectliteType.method ReflectliteType.elem #[.agg #[.pointer (some ⟨4, 142, none⟩)]]).run Tryz.prog w = .ok (.iface 211 (.agg #[.pointer (some ⟨4, 80, none⟩)])) w := by kernel_rfl
theorem implements67 (w : World) : (ReflectliteType.relation "Implements" ReflectliteType.implements_ #[.agg #[.pointer (some ⟨4, 80, none⟩)], .iface 211 (.agg #[.pointer (some ⟨4, 35, none⟩)])]).run Tryz.prog w = .ok (.bool true) w := by kernel_rfl
theorem typeOf66 (v : Value) (w : World) : (ReflectliteType.typeOf #[.iface 79 v]).run Tryz.prog w = .ok (.iface 211 (.agg #[.pointer (some ⟨4, 79, none⟩)])) w := by kernel_rfl
theorem typeOf67 (v : Value) (w : World) : (ReflectliteType.typeOf #[.iface 80 v]).run Tryz.prog w = .ok (.iface 211 (.agg #[.pointer (some ⟨4, 80, none⟩)])) w := by kernel_rfl
theorem assignable6667 (w : World) : (ReflectliteType.relation "AssignableTo" ReflectliteType.assignableTo #[.agg #[.pointer (some ⟨4, 79, none⟩)], .iface 211 (.agg #[.pointer (some ⟨4, 80, none⟩)])]).run Tryz.prog w = .ok (.bool false) w := by kernel_rfl
theorem assignable6767 (w : World) : (ReflectliteType.relation "AssignableTo" ReflectliteType.assignableTo #[.agg #[.pointer (some ⟨4, 80, none⟩)], .iface 211 (.agg #[.pointer (some ⟨4, 80, none⟩)])]).run Tryz.prog w = .ok (.bool true) w := by kernel_rfl
theorem comparable67 (w : World) : (ReflectliteType.method (fun t => do Rtype.noPackHeld "Comparable" t; pure (.bool (← typeInfo t).comparable)) #[.agg #[.pointer (some ⟨4, 80, none⟩)]]).run Tryz.prog w = .ok (.bool true) w := by kernel_rfl
theorem elemOf110 (w : World) : (Rtype.elem? 142).run Tryz.prog w = .ok (some 80) w := by kernel_rfl
theorem mk67 (p : Addr) (w : World) : (ReflectliteValue.mk 80 p ReflectliteValue.flagAddr).run Tryz.prog w = .ok (.agg #[.pointer (some ⟨4, 80, none⟩), .pointer (some p), .int .u64 386]) w := by kernel_rfl
theorem elemV110 (a p : Addr) (W : World) (ha : W.cell? a = some (.pointer (some p))) :
    (ReflectliteValue.method (ReflectliteValue.valueError "reflectlite.Value.Elem" 0) ReflectliteValue.elem #[.agg #[.pointer (some ⟨4, 142, none⟩), .pointer (some a), .int .u64 150]]).run Tryz.prog W
      = .ok (.agg #[.pointer (some ⟨4, 80, none⟩), .pointer (some p), .int .u64 386]) W := by
  rw [rlm]
  simp only [Sem.run_bind, parts110, Result.andThen]
  simp [ReflectliteValue.elem, loadVar, isAgg, underlying, Tryz.underlying142, ha, Result.andThen, elemOf110, mk67]
theorem rls (v x : Value) : ReflectliteValue.set #[v, x] = (do
    let (some (dst, a, fl), some (src, b, _)) := (← ReflectliteValue.parts v, ← ReflectliteValue.parts x)
      | unsupported (.noEntry "extern/(internal/reflectlite.Value).Set.zeroValue")
    if fl / ReflectliteValue.flagAddr % 2 == 0 then unsupported (.noEntry "extern/(internal/reflectlite.Value).Set.unaddressable")
    let val ← loadVar src b
    if ← Rtype.directlyAssignable dst src then storeVar dst a val
    else if ← Rtype.implements dst src then
      if (← Rtype.kind src) == 20 then
        match val with
        | .nilIface => unsupported (.noEntry "extern/reflectlite: a nil value of one interface type handed on as a value of another")
        | _ => storeVar dst a val
      else storeVar dst a (.iface src val)
    else panicString ("reflectlite.Set: value of type " ++ (← Rtype.spelt src) ++ " is not assignable to type " ++ (← Rtype.spelt dst))
    pure (.tuple #[])) := rfl
theorem parts67a (a : Addr) (w : World) : (ReflectliteValue.parts (.agg #[.pointer (some ⟨4, 80, none⟩), .pointer (some a), .int .u64 386])).run Tryz.prog w = .ok (some (80, a, 386)) w := by kernel_rfl
theorem parts67 (a : Addr) (w : World) : (ReflectliteValue.parts (.agg #[.pointer (some ⟨4, 80, none⟩), .pointer (some a), .int .u64 130])).run Tryz.prog w = .ok (some (80, a, 130)) w := by kernel_rfl
theorem direct67 (w : World) : (Rtype.directlyAssignable 80 80).run Tryz.prog w = .ok true w := by kernel_rfl
theorem size67 (w : World) : (sizeOf 80).run Tryz.prog w = .ok 1 w := by kernel_rfl
theorem set67 (ta b : Addr) (n : Int) (old : Value) (W : World) (hb : W.cell? b = some (.int .i64 n)) (ht : W.cell? ta = some old) (hf : W.frozen? ta = false) :
    (ReflectliteValue.set #[.agg #[.pointer (some ⟨4, 80, none⟩), .pointer (some ta), .int .u64 386], .agg #[.pointer (some ⟨4, 80, none⟩), .pointer (some b), .int .u64 130]]).run Tryz.prog W
      = .ok (.tuple #[]) (W.setCell ta (.int .i64 n)) := by
  rw [rls]
  simp only [Sem.run_bind, parts67a, parts67, Result.andThen]
  simp [ReflectliteValue.flagAddr, loadVar, isAgg, underlying, Tryz.underlying80, hb, Result.andThen, direct67, storeVar, Value.cells, storeCells, Addr.add]
  rw [run_store Tryz.prog W ta _ _ (by rfl)]
  simp [ht, hf]
theorem noAs (v : Value) (xT : TypeId) (w : World) : (Instr.typeAssert (.iface 79 v) xT 255 true).run Tryz.prog w = .ok (.tuple #[.nilIface, .bool false]) w := run_typeAssert_lacksB Tryz.underlying255 (by kernel_rfl) (by kernel_rfl) v xT w
theorem noIs (v : Value) (xT : TypeId) (w : World) : (Instr.typeAssert (.iface 79 v) xT 213 true).run Tryz.prog w = .ok (.tuple #[.nilIface, .bool false]) w := run_typeAssert_lacksB Tryz.underlying213 (by kernel_rfl) (by kernel_rfl) v xT w
theorem hasUnwrap (v : Value) (xT : TypeId) (w : World) : (Instr.typeAssert (.iface 79 v) xT 216 true).run Tryz.prog w = .ok (.tuple #[.iface 79 v, .bool true]) w := run_typeAssert_hasB Tryz.underlying216 (by kernel_rfl) v xT w
end Go.Proofs.YtdekmeanlcpenaaGreatDoor.Err

namespace Go.Proofs.YtdekmeanlcpenaaGreatDoor.Err
open Go.RowKit Go.Extern.Stop Go.Stop Go.Extern Go.Proofs.YtdekmeanlcpenaaGreatDoorW.PrintWords
set_option maxHeartbeats 4000000
set_option maxRecDepth 100000

theorem unwrap_any (g : Nat) (err : Value) (w : World) (h : w.cell? ⟨g, 34, none⟩ = some err) : Calls Tryz.prog 352 #[.pointer (some ⟨g, 0, none⟩)] w fun e w' => e = .returned err ∧ w' = w := by
  go_enter Tryz.func352, Tryz.ntmps352
  go_wp2
  go_ret
  exact ⟨rfl, rfl⟩

/-- errors.as at a fault that wraps a number, the target a number's variable. -/
theorem as88 (g : Nat) (a t : Addr) (n : Int) (old : Value) (w : World) (hc : w.cell? ⟨g, 34, none⟩ = some (.iface 80 (.int .i64 n))) (ha : w.cell? a = some (.pointer (some t))) (ht0 : w.cell? t = some old) (hf0 : w.frozen? t = false) :
    Calls Tryz.prog 106 #[.iface 79 (.pointer (some ⟨g, 0, none⟩)), .iface 142 (.pointer (some t)), .agg #[.pointer (some ⟨4, 142, none⟩), .pointer (some a), .int .u64 150], .iface 211 (.agg #[.pointer (some ⟨4, 80, none⟩)])] w
      fun e w' => e = .returned (.bool true) ∧ w' = ((w.alloc (.cells #[.pointer (some ⟨4, 142, none⟩), .pointer (some a), .int .u64 150] 192)).alloc (.cells #[.int .i64 n] 80)).setCell t (.int .i64 n) := by
  have h64 := @run_callFunc_extern Tryz.prog 76 _ ReflectliteType.typeOf Tryz.func76 (by kernel_rfl) (by kernel_rfl) (by kernel_rfl) (by kernel_rfl)
  have h356 := @run_callFunc_extern Tryz.prog 358 _ (ReflectliteType.relation "AssignableTo" ReflectliteType.assignableTo) Tryz.func358 (by kernel_rfl) (by kernel_rfl) (by kernel_rfl) (by kernel_rfl)
  have h119 := @run_callFunc_extern Tryz.prog 143 _ (ReflectliteValue.method (ReflectliteValue.valueError "reflectlite.Value.Elem" 0) ReflectliteValue.elem) Tryz.func143 (by kernel_rfl) (by kernel_rfl) (by kernel_rfl) (by kernel_rfl)
  have h120 := @run_callFunc_extern Tryz.prog 144 _ ReflectliteValue.set Tryz.func144 (by kernel_rfl) (by kernel_rfl) (by kernel_rfl) (by kernel_rfl)
  have h85 := @run_callFunc_extern Tryz.prog 103 _ (fun args => ReflectliteValue.unpack (args.getD 0 (.tuple #[]))) Tryz.func103 (by kernel_rfl) (by kernel_rfl) (by kernel_rfl) (by kernel_rfl)
  have tO6 := typeOf66
  have tO7 := typeOf67
  have mA := methodAssignableTo
  have mU := methodUnwrap
  have a1 := assignable6667
  have a2 := assignable6767
  have v67 := valueOf67
  have nA := noAs
  have hU := hasUnwrap
  have halt : a.block < w.heap.size := by
    rcases Nat.lt_or_ge a.block w.heap.size with h | h
    · exact h
    · simp [World.cell?, Array.getElem?_eq_none h] at ha
  have htl : t.block < w.heap.size := by
    rcases Nat.lt_or_ge t.block w.heap.size with h | h
    · exact h
    · simp [World.cell?, Array.getElem?_eq_none h] at ht0
  have hgl : g < w.heap.size := by
    rcases Nat.lt_or_ge g w.heap.size with h | h
    · exact h
    · simp [World.cell?, Array.getElem?_eq_none h] at hc
  have el := elemV110 a t (w.alloc (.cells #[.pointer (some ⟨4, 142, none⟩), .pointer (some a), .int .u64 150] 192)) (by rw [World.cell?_alloc_lt _ _ a halt]; exact ha)
  have hc1 : (w.alloc (.cells #[.pointer (some ⟨4, 142, none⟩), .pointer (some a), .int .u64 150] 192)).cell? ⟨g, 34, none⟩ = some (.iface 80 (.int .i64 n)) := by
    rw [World.cell?_alloc_lt _ _ ⟨g, 34, none⟩ hgl]; exact hc
  have st := set67 t ⟨w.heap.size + 1, 0, none⟩ n old ((w.alloc (.cells #[.pointer (some ⟨4, 142, none⟩), .pointer (some a), .int .u64 150] 192)).alloc (.cells #[.int .i64 n] 80))
    (by rw [World.cell?_alloc_at _ _ _ _ (by simp)]; rfl)
    (by rw [World.cell?_alloc_lt _ _ t (by simp; omega), World.cell?_alloc_lt _ _ t htl]; exact ht0)
    (by rw [World.frozen?_alloc_old _ _ t (by simp; omega), World.frozen?_alloc_old _ _ t (Nat.ne_of_lt htl)]; exact hf0)
  go_enter Tryz.func106, Tryz.ntmps106
  go_wp2
  refine wp_loop_rounds 2 ?_
  rw [rounds_succ]
  go_wp2_with (first
    | (go_at_call 352; refine (unwrap_any g _ _ hc1).mono ?_; rintro e w' ⟨rfl, rfl⟩)
    | go_in)
  rw [rounds_succ]
  go_wp2
  go_ret
  exact ⟨rfl, rfl⟩
end Go.Proofs.YtdekmeanlcpenaaGreatDoor.Err

namespace Go.Proofs.YtdekmeanlcpenaaGreatDoor.Err
open Go.RowKit Go.Extern.Stop Go.Stop Go.Extern Go.Proofs.YtdekmeanlcpenaaGreatDoorW.PrintWords
set_option maxHeartbeats 4000000
set_option maxRecDepth 100000

theorem lt_of_cell {w : World} {a : Addr} {v : Value} (h : w.cell? a = some v) : a.block < w.heap.size := by
  rcases Nat.lt_or_ge a.block w.heap.size with h1 | h1
  · exact h1
  · simp [World.cell?, Array.getElem?_eq_none h1] at h
/-- The handle of the type error, which errors.As reads. -/
def Handle (w : World) : Prop := w.cell? ⟨0, 0, none⟩ = some (.iface 211 (.agg #[.pointer (some ⟨4, 35, none⟩)]))
theorem as49 (g : Nat) (t : Addr) (n : Int) (old : Value) (w : World) (hg : Handle w) (hc : w.cell? ⟨g, 34, none⟩ = some (.iface 80 (.int .i64 n))) (ht0 : w.cell? t = some old) (hf0 : w.frozen? t = false) :
    Calls Tryz.prog 61 #[.iface 79 (.pointer (some ⟨g, 0, none⟩)), .iface 142 (.pointer (some t))] w
      fun e w' => e = .returned (.bool true) ∧ ∃ w2 : World, Below w.heap.size w w2 ∧ w' = w2.setCell t (.int .i64 n) := by
  have h85 := @run_callFunc_extern Tryz.prog 103 _ (fun args => ReflectliteValue.unpack (args.getD 0 (.tuple #[]))) Tryz.func103 (by kernel_rfl) (by kernel_rfl) (by kernel_rfl) (by kernel_rfl)
  have h86 := @run_callFunc_extern Tryz.prog 104 _ (ReflectliteValue.methodAny (ReflectliteValue.valueError "reflectlite.Value.Type" 0) (fun t _ _ _ => ReflectliteType.toType t)) Tryz.func104 (by kernel_rfl) (by kernel_rfl) (by kernel_rfl) (by kernel_rfl)
  have h87 := @run_callFunc_extern Tryz.prog 105 _ (ReflectliteValue.method (ReflectliteValue.valueError "reflectlite.Value.IsNil" 0) ReflectliteValue.isNil) Tryz.func105 (by kernel_rfl) (by kernel_rfl) (by kernel_rfl) (by kernel_rfl)
  have h345 := @run_callFunc_extern Tryz.prog 347 _ (ReflectliteType.abiMethod fun t => do pure (.int .u8 (← Rtype.kind t))) Tryz.func347 (by kernel_rfl) (by kernel_rfl) (by kernel_rfl) (by kernel_rfl)
  have h358 := @run_callFunc_extern Tryz.prog 360 _ (ReflectliteType.method ReflectliteType.elem) Tryz.func360 (by kernel_rfl) (by kernel_rfl) (by kernel_rfl) (by kernel_rfl)
  have h359 := @run_callFunc_extern Tryz.prog 361 _ (ReflectliteType.relation "Implements" ReflectliteType.implements_) Tryz.func361 (by kernel_rfl) (by kernel_rfl) (by kernel_rfl) (by kernel_rfl)
  have f6 := valueOf110
  have f7 := type110
  have mK := methodKind
  have mE := methodElem
  have mI := methodImplements
  have k1 := kind110
  have k2 := kind67
  have e1 := elem110
  have i1 := implements67
  have hlt : 0 < w.heap.size := lt_of_cell hg
  have htl := lt_of_cell ht0
  have hgl := lt_of_cell hc
  simp only at hgl
  have n8 := isNil110 ⟨w.heap.size, 0, none⟩ t ((w.alloc (.cells #[.pointer (some t)] 142)).alloc (.cells #[.pointer (some ⟨4, 142, none⟩), .pointer (some ⟨w.heap.size, 0, none⟩), .int .u64 150] 192)) (by simp)
  have hg2 : ((w.alloc (.cells #[.pointer (some t)] 142)).alloc (.cells #[.pointer (some ⟨4, 142, none⟩), .pointer (some ⟨w.heap.size, 0, none⟩), .int .u64 150] 192)).cell? ⟨0, 0, none⟩ = some (.iface 211 (.agg #[.pointer (some ⟨4, 35, none⟩)])) := by
    rw [World.cell?_alloc_lt _ _ ⟨0, 0, none⟩ (by simp), World.cell?_alloc_lt _ _ ⟨0, 0, none⟩ hlt]; exact hg
  have hc2 : ((w.alloc (.cells #[.pointer (some t)] 142)).alloc (.cells #[.pointer (some ⟨4, 142, none⟩), .pointer (some ⟨w.heap.size, 0, none⟩), .int .u64 150] 192)).cell? ⟨g, 34, none⟩ = some (.iface 80 (.int .i64 n)) := by
    rw [World.cell?_alloc_lt _ _ ⟨g, 34, none⟩ (by simp; omega), World.cell?_alloc_lt _ _ ⟨g, 34, none⟩ hgl]; exact hc
  have ha2 : ((w.alloc (.cells #[.pointer (some t)] 142)).alloc (.cells #[.pointer (some ⟨4, 142, none⟩), .pointer (some ⟨w.heap.size, 0, none⟩), .int .u64 150] 192)).cell? ⟨w.heap.size, 0, none⟩ = some (.pointer (some t)) := by simp
  have ht2 : ((w.alloc (.cells #[.pointer (some t)] 142)).alloc (.cells #[.pointer (some ⟨4, 142, none⟩), .pointer (some ⟨w.heap.size, 0, none⟩), .int .u64 150] 192)).cell? t = some old := by
    rw [World.cell?_alloc_lt _ _ t (by simp; omega), World.cell?_alloc_lt _ _ t htl]; exact ht0
  have hf2 : ((w.alloc (.cells #[.pointer (some t)] 142)).alloc (.cells #[.pointer (some ⟨4, 142, none⟩), .pointer (some ⟨w.heap.size, 0, none⟩), .int .u64 150] 192)).frozen? t = false := by
    rw [World.frozen?_alloc_old _ _ t (by simp; omega), World.frozen?_alloc_old _ _ t (Nat.ne_of_lt htl)]; exact hf0
  go_enter Tryz.func61, Tryz.ntmps61
  go_wp2_with (first
    | (go_at_call 106; refine (as88 g ⟨w.heap.size, 0, none⟩ t n old _ hc2 ha2 ht2 hf2).mono ?_; rintro e w' ⟨rfl, rfl⟩)
    | go_in)
  go_ret
  exact ⟨rfl, _, below_alloc (below_alloc (below_alloc (below_alloc (Below.refl _ _) _) _) _) _, rfl⟩

theorem eqSame (n : Int) (u : World) : (binOp .eql 35 (.iface 80 (.int .i64 n)) (.iface 80 (.int .i64 n))).run Tryz.prog u = .ok (.bool true) u := by
  have h : ∀ d : Nat, (Op.equalIn (d + 2) 35 (.iface 80 (.int .i64 n)) (.iface 80 (.int .i64 n))).run Tryz.prog u = .ok true u := fun d => by
    simp [Op.equalIn, run_underlying Tryz.underlying35, run_underlying Tryz.underlying80]
    intro hf
    have ht : Tryz.t80.comparable = true := by kernel_rfl
    rw [ht] at hf
    cases hf
  simp only [binOp]
  simp [Op.equal, Op.maxDepth, h 9998]
/-- errors.is at a fault that wraps this very number. -/
theorem is65 (g : Nat) (n : Int) (w : World) (hc : w.cell? ⟨g, 34, none⟩ = some (.iface 80 (.int .i64 n))) :
    Calls Tryz.prog 77 #[.iface 79 (.pointer (some ⟨g, 0, none⟩)), .iface 80 (.int .i64 n), .bool true] w fun e w' => e = .returned (.bool true) ∧ w' = w := by
  have nI := noIs
  have hU := hasUnwrap
  have mU := methodUnwrap
  have es := eqSame n
  have ne := fun (vx vy : Value) (u : World) => run_eql_iface_types (P := Tryz.prog) 79 80 vx vy Tryz.underlying35 (by decide) u
  go_enter Tryz.func77, Tryz.ntmps77
  go_wp2
  refine wp_loop_rounds 2 ?_
  rw [rounds_succ]
  go_wp2_with (first
    | (go_at_call 352; refine (unwrap_any g _ _ hc).mono ?_; rintro e w' ⟨rfl, rfl⟩)
    | go_in)
  rw [rounds_succ]
  go_wp2
  go_ret
  exact ⟨rfl, rfl⟩
theorem is32 (g : Nat) (n : Int) (w : World) (hc : w.cell? ⟨g, 34, none⟩ = some (.iface 80 (.int .i64 n))) :
    Calls Tryz.prog 35 #[.iface 79 (.pointer (some ⟨g, 0, none⟩)), .iface 80 (.int .i64 n)] w fun e w' => e = .returned (.bool true) ∧ w' = w := by
  have h64 := @run_callFunc_extern Tryz.prog 76 _ ReflectliteType.typeOf Tryz.func76 (by kernel_rfl) (by kernel_rfl) (by kernel_rfl) (by kernel_rfl)
  have h357 := @run_callFunc_extern Tryz.prog 359 _ (ReflectliteType.method (fun t => do Rtype.noPackHeld "Comparable" t; pure (.bool (← typeInfo t).comparable))) Tryz.func359 (by kernel_rfl) (by kernel_rfl) (by kernel_rfl) (by kernel_rfl)
  have tO7 := typeOf67
  have mC := methodComparable
  have c7 : ∀ u, (ReflectliteType.method (fun t => do Rtype.noPackHeld "Comparable" t; (fun a : TypeInfo => Value.bool a.comparable) <$> typeInfo t) #[.agg #[.pointer (some ⟨4, 80, none⟩)]]).run Tryz.prog u = .ok (.bool true) u := fun u => by kernel_rfl
  go_enter Tryz.func35, Tryz.ntmps35
  go_wp2_with (first
    | (go_at_call 77; refine (is65 g n _ hc).mono ?_; rintro e w' ⟨rfl, rfl⟩)
    | go_in)
  go_ret
  exact ⟨rfl, rfl⟩

/-- api.Code at a fault that wraps a number. -/
theorem code_any (g : Nat) (n : Int) (w : World) (hg : Handle w) (hc : w.cell? ⟨g, 34, none⟩ = some (.iface 80 (.int .i64 n))) :
    Calls Tryz.prog 34 #[.iface 79 (.pointer (some ⟨g, 0, none⟩))] w fun e w' => e = .returned (.int .i64 n) ∧ Below w.heap.size w w' := by
  have hlt : 0 < w.heap.size := lt_of_cell hg
  have hgl := lt_of_cell hc
  simp only at hgl
  have hg2 : Handle (w.alloc (.cells #[.int .i64 0] 80)) := by
    unfold Handle at hg ⊢
    rw [World.cell?_alloc_lt _ _ ⟨0, 0, none⟩ hlt]; exact hg
  have hc2 : (w.alloc (.cells #[.int .i64 0] 80)).cell? ⟨g, 34, none⟩ = some (.iface 80 (.int .i64 n)) := by
    rw [World.cell?_alloc_lt _ _ ⟨g, 34, none⟩ hgl]; exact hc
  have HG2 := Aside0.mk hg2
  clear hg hg2
  go_enter Tryz.func34, Tryz.ntmps34
  go_wp2_with (first
    | (go_at_call 61; refine (as49 g ⟨w.heap.size, 0, none⟩ n (.int .i64 0) _ HG2.out hc2 (by simp) (by simp)).mono ?_; rintro e w' ⟨rfl, w2, hb2, rfl⟩;
       have hcell : (w2.setCell ⟨w.heap.size, 0, none⟩ (.int .i64 n)).cell? ⟨w.heap.size, 0, none⟩ = some (.int .i64 n) := World.cell?_setCell_same _ _ _ (pw_cell_below hb2 (by simp : (w.alloc (.cells #[.int .i64 0] 80)).cell? ⟨w.heap.size, 0, none⟩ = some (.int .i64 0))))
    | go_in)
  go_ret
  refine ⟨rfl, ?_⟩
  have h1 : Below w.heap.size w w2 := (below_alloc (Below.refl _ _) _).trans (hb2.mono (by simp))
  exact h1.setCell (Nat.le_refl _) _
end Go.Proofs.YtdekmeanlcpenaaGreatDoor.Err

namespace Go.Proofs.YtdekmeanlcpenaaGreatDoor.LaidC
open Go.ChangeShapes Go.WideShapes Go.ChangeAt Go.RowKit Go.Proofs.YtdekmeanlcpenaaGreatDoorW.PrintWords Go.Proofs.YtdekmeanlcpenaaGreatDoor.Err
set_option maxRecDepth 100000
theorem own : ownKnob Tryz.prog.godebug = none := by kernel_rfl
theorem laidOut : laidOutB Tryz.prog = true := by kernel_rfl
theorem et : Tryz.prog.globalNamed "errors.errorType" = some 0 := by kernel_rfl
theorem rt : (Tryz.prog.cutTypes.find? (·.1 == "internal/reflectlite.rtype")).map (·.2) = some 211 := by kernel_rfl
theorem size : Tryz.prog.types.size = 483 := by kernel_rfl
theorem oneRow : ((List.range 483).filter fun t => Tryz.prog.rowNamed t [101, 114, 114, 111, 114]) = [35] := by kernel_rfl

/-- What the condition gives the walk: the handle's cell. -/
theorem handle_of_laid {W : World} (h : laidMetH Tryz.prog Rows.restorePicksRow.laid W) : Handle W := by
  have h' : laidMet Tryz.prog (Rows.restorePicksRow.laid.filter fun x => x.2.handleName?.isNone) W ∧ handlesMet Tryz.prog [("errors.errorType", Rows.laid_errors_errorType)] W := h
  obtain ⟨name, u, ty, e1, e2, e3, e4, e5⟩ := h'.2 _ (List.mem_singleton.2 rfl)
  have en : name = [101, 114, 114, 111, 114] := (Option.some.inj e1).symm
  subst en
  obtain rfl := Option.some.inj (rt.symm.trans e2)
  have hm : ty ∈ (List.range 483).filter fun t => Tryz.prog.rowNamed t [101, 114, 114, 111, 114] := List.mem_filter.2 ⟨List.mem_range.2 (by rw [← size]; exact e3), e4⟩
  rw [oneRow] at hm
  obtain rfl := List.mem_singleton.1 hm
  have hh : typeHandle Tryz.prog 35 = .pointer (some ⟨4, 35, none⟩) := by kernel_rfl
  rw [hh] at e5
  have := World.var?_cell et e5 0
  simpa [Handle] using this

/-- A world that meets the condition. -/
noncomputable def handleWorld (os : Os) : World :=
  let w0 := World.holding Tryz.prog os ⟨#[], #[], []⟩
  { w0 with heap := w0.heap.modify 0 fun
      | .cells _ t frozen => .cells #[.iface 211 (.agg #[.pointer (some ⟨4, 35, none⟩)])] t frozen
      | o => o }
def plainLaid : List (String × DataW Unit) := Rows.restorePicksRow.laid.filter fun x => x.2.handleName?.isNone
noncomputable def laidWorld (os : Os) : World := (handleWorld os).layVars Tryz.prog plainLaid
theorem laidWorld_os (os : Os) : (laidWorld os).os = os := World.layVars_os _ _ _
theorem laidWorld_plain (os : Os) : laidMet Tryz.prog plainLaid (laidWorld os) := by
  have e1 : (plainLaid.filter fun x => (plainLaid.map (·.1)).contains x.1) = plainLaid := List.filter_eq_self.2 fun x hx => List.contains_iff_mem.2 (List.mem_map.2 ⟨x, hx, rfl⟩)
  have e2 : (plainLaid.filter fun x => !(plainLaid.map (·.1)).contains x.1) = [] := List.filter_eq_nil_iff.2 fun x hx => by rw [List.contains_iff_mem.2 (List.mem_map.2 ⟨x, hx, rfl⟩)]; simp
  exact laidMet_layVars (w0 := handleWorld os) (plainLaid.map (·.1)) [] (by rw [e1]; rfl) (by rw [e1]; kernel_rfl) (by rw [e1]; kernel_rfl) (by rw [e2]; exact LaidIn.none)
theorem laidWorld_met (os : Os) (args : Array Value) : laidMetH Tryz.prog Rows.restorePicksRow.laid ((laidWorld os).forCall (fun _ _ => 0) ⟨#[], args, []⟩).memory :=
  laidMetH_of_parts ((laidWorld_plain os).of_heap (by simp [World.memory, World.forCall, Input.heap])) (by kernel_rfl)

/-- The tied card of a row that may hand goroutines over (after the kit's holds_tied_plain_at, 'goes' being what the program says). -/
theorem tied_plain_goes (Lk : Looks) {p : Pinned} {s : OpenSpec} {c : OpenClaim} (al : List (List PathCond)) (kinds : List LaidKind) (tests : Bool) (har : Bool × String) (lk gs : Bool)
    (hc : c.holds p s) (hal : ∀ D ∈ al, (c.withDomain D).holds p s) (hw : c.wfByText s = true) (hwal : ∀ D ∈ al, (c.withDomain D).wfByText s = true)
    (htie : c.laidByTextAt Lk p kinds tests)
    (hst : c.start = .entering) (hnb : c.noBlocks = false ∧ c.again = false) (hm : p.checked.prog.mainIs = some (har.1, har.2.toList)) (hn : (!har.1 && har.2.isEmpty && !lk) = false)
    (hl : ∀ f fn, p.checked.prog.funcNamed c.func = some f → p.checked.prog.funcs[f]? = some fn → lk = p.checked.prog.looks [] ∧ ∀ (j : Nat) t, fn.params[j]? = some t → p.checked.prog.wantsStandIn t = false)
    (hg : gs = c.goesBy p.checked.prog) :
    Claim7.holds p (.plain s) { stood := { row := c, standIns := [], harness := har, looks := lk }, kinds := [], alts := al, goes := gs, laidByText := true, laidKinds := kinds, laidTests := tests, laidLooks := Lk } := by
  have h6 : ∀ r : OpenClaim, Claim7.isSixth { stood := { row := r, standIns := [], harness := har, looks := lk }, kinds := [] } = false := fun r => by simpa [Claim7.isSixth] using hn
  refine ⟨Claim7.tied_new_at Lk kinds tests (Claim7.new_of_sixth hc har lk hst hnb hm (h6 c) hl) hw, fun D hD => ?_, htie, (fun h => by cases h), hg⟩
  exact Claim7.tied_new_at Lk kinds tests (Claim7.new_of_sixth (hal D hD) har lk hst hnb hm (h6 _) hl) (hwal D hD)
end Go.Proofs.YtdekmeanlcpenaaGreatDoor.LaidC

namespace Go.Proofs.YtdekmeanlcpenaaGreatDoor.Closed
set_option maxRecDepth 100000
theorem and2 {a b : Bool} (h1 : a = true) (h2 : b = true) : (a && b) = true := by rw [h1, h2]; rfl
theorem kLaidOut : laidOutB Tryz.prog = true := by kernel_rfl
theorem kMaps : mapsRowed Tryz.prog = true := by kernel_rfl
theorem kStops : (Tryz.prog.stops == []) = true := by kernel_rfl
theorem kKnobs : (Tryz.prog.stopKnobs == []) = true := by kernel_rfl
theorem kHeard : Tryz.prog.stopsHeard = true := by kernel_rfl
theorem kMayEnter : Tryz.prog.mayEnter = true := by kernel_rfl
end Go.Proofs.YtdekmeanlcpenaaGreatDoor.Closed

namespace Go.Proofs.YtdekmeanlcpenaaGreatDoor.restoreNothing
open Go.Proofs.YtdekmeanlcpenaaGreatDoor.Closed
set_option maxRecDepth 100000
theorem c1 : Rows.restoreNothingRow.wf (OpenSpec.ofChange Rows.restoreNothingSpec) = true := by kernel_rfl
theorem c4 : Tryz.f4.params.all (Tryz.prog.readableRec ·) = true := by kernel_rfl
theorem c5 : namedTie Tryz.prog Rows.restoreNothingRow.named Rows.restoreNothingSpec.vars = true := by kernel_rfl
theorem c6 : (Rows.restoreNothingRow.stops == []) = true := by kernel_rfl
theorem c8 : (Rows.restoreNothingRow.knobs == []) = true := by kernel_rfl
theorem c10 : (Rows.restoreNothingRow.inPlace == Tryz.prog.inPlace 4) = true := by kernel_rfl
theorem c11 : (Rows.restoreNothingRow.unfollowed == Tryz.prog.unfollowed 4) = true := by kernel_rfl
theorem c12 : (Rows.restoreNothingRow.recurses == Tryz.prog.recurses 4) = true := by kernel_rfl
theorem c13 : (Rows.restoreNothingRow.named == Tryz.prog.varsNamed 4) = true := by kernel_rfl
theorem c14 : (Rows.restoreNothingRow.maps == (Tryz.f4.params.toList ++ Rows.restoreNothingSpec.plain.varTypes Tryz.prog).any (Tryz.prog.mapsRec ·)) = true := by kernel_rfl
theorem c15 : (Rows.restoreNothingRow.ifaces == (Tryz.f4.params.toList ++ Rows.restoreNothingSpec.plain.varTypes Tryz.prog).any (Tryz.prog.ifacesRec ·)) = true := by kernel_rfl
theorem c16 : (Rows.restoreNothingRow.mapsOut == Tryz.prog.mapsAmong Tryz.f4.resultTypes.toList) = true := by kernel_rfl
theorem c17 : (Rows.restoreNothingRow.loops == (Tryz.f4.params.toList ++ Rows.restoreNothingSpec.plain.varTypes Tryz.prog).any (Tryz.prog.loopsFrom ·)) = true := by kernel_rfl
theorem c18 : (Rows.restoreNothingRow.wideKeys == (Tryz.f4.params.toList ++ Rows.restoreNothingSpec.plain.varTypes Tryz.prog ++ Tryz.f4.resultTypes.toList).any (Tryz.prog.wideKeysFrom ·)) = true := by kernel_rfl
theorem c19 : Rows.restoreNothingSpec.vars.all (Tryz.prog.varReadable ·) = true := by kernel_rfl
theorem c20 : Tryz.f4.resultTypes.all (fun t => Tryz.prog.readableRec t && decide (t < Tryz.prog.types.size)) = true := by kernel_rfl
theorem c21 : (Rows.restoreNothingRow.ifacesOut == Tryz.f4.resultTypes.toList.any (Tryz.prog.ifacesRec ·)) = true := by kernel_rfl
theorem c22 : (Rows.restoreNothingRow.loopsOut == Tryz.f4.resultTypes.toList.any (Tryz.prog.loopsFrom ·)) = true := by kernel_rfl
theorem c23 : (Rows.restoreNothingRow.plainKeys == Tryz.prog.plainKeys) = true := by kernel_rfl
theorem c24 : Rows.restoreNothingRow.shortTexts.isNone = true := by kernel_rfl
theorem c27 : (Rows.restoreNothingRow.lifted == Tryz.prog.liftsFinal) = true := by kernel_rfl
theorem c28 : (Tryz.prog.make == some Rows.restoreNothingRow.make) = true := by kernel_rfl
theorem c29 : (Rows.restoreNothingRow.kinds == (if Rows.restoreNothingRow.domain.isEmpty then [] else Tryz.f4.params.toList.map fun t => match Tryz.prog.underlying t with | some (.int k) => some k | _ => none)) = true := by kernel_rfl
theorem c30 : (Rows.restoreNothingRow.pinned == Rows.restoreNothingRow.pinnedBy) = true := by kernel_rfl
theorem c31 : (Rows.restoreNothingRow.veiled == (Tryz.f4.params.toList ++ Rows.restoreNothingSpec.plain.varTypes Tryz.prog ++ Tryz.f4.resultTypes.toList).any (Tryz.prog.veiledRec ·)) = true := by kernel_rfl
theorem c32 : Rows.restoreNothingRow.veiledFits Tryz.prog Tryz.f4.params.toList (Tryz.f4.params.toList ++ Rows.restoreNothingSpec.plain.varTypes Tryz.prog ++ Tryz.f4.resultTypes.toList) = true := by kernel_rfl
theorem closed : joinedFacts Tryz.prog 4 Tryz.f4 Rows.restoreNothingSpec Rows.restoreNothingRow = true := by
  unfold joinedFacts
  exact and2 (and2 (and2 (and2 (and2 (and2 (and2 (and2 (and2 (and2 (and2 (and2 (and2 (and2 (and2 (and2 (and2 (and2 (and2 (and2 (and2 (and2 (and2 (and2 (and2 (and2 (and2 (and2 (and2 (and2 (and2 (c1) kLaidOut) kMaps) c4) c5) c6) kStops) c8) kKnobs) c10) c11) c12) c13) c14) c15) c16) c17) c18) c19) c20) c21) c22) c23) c24) kHeard) kMayEnter) c27) c28) c29) c30) c31) c32
end Go.Proofs.YtdekmeanlcpenaaGreatDoor.restoreNothing

namespace Go.Proofs.YtdekmeanlcpenaaGreatDoor.Mid
open Go.RowKit Go.Proofs.YtdekmeanlcpenaaGreatDoorW.PrintWords

/-- These cells lie from address p on. -/
def At (w : World) (p : Addr) (cs : List Value) : Prop := ∀ j v, cs[j]? = some v → w.cell? (p.add j) = some v

section
variable {P : Program}
theorem At.mid {w : World} {b o : Nat} {cs : List Value} (h : w.rangeAt b o cs) : At w ⟨b, o, none⟩ cs := fun j v hv => by rw [Addr.add_mid]; exact h j v hv
theorem At.range {w : World} {b o : Nat} {cs : List Value} (h : At w ⟨b, o, none⟩ cs) : w.rangeAt b o cs := fun j v hv => by have := h j v hv; rwa [Addr.add_mid] at this
theorem At.part {w : World} {p : Addr} {cs : List Value} (h : At w p cs) (i m : Nat) : At w (p.add i) ((cs.drop i).take m) := fun j v hv => by
  rw [Addr.add_add]
  refine h _ v ?_
  rw [List.getElem?_take] at hv
  split at hv
  · rwa [List.getElem?_drop] at hv
  · cases hv
theorem At.move {w w1 : World} {p : Addr} {cs : List Value} (h : At w p cs) (hm : w1.heap[p.block]? = w.heap[p.block]?) : At w1 p cs := fun j v hv => by
  have h1 := h j v hv
  have hb : (p.add j).block = p.block := by unfold Addr.add; split <;> rfl
  rw [World.cell?, hb, hm, ← hb]
  exact h1
theorem At.lt {w : World} {p : Addr} {cs : List Value} (h : At w p cs) (hc : cs ≠ []) : p.block < w.heap.size := by
  obtain ⟨c, r, rfl⟩ := List.exists_cons_of_ne_nil hc
  have h1 := h 0 c rfl
  rcases Nat.lt_or_ge p.block w.heap.size with h2 | h2
  · exact h2
  · have hb : (p.add 0).block = p.block := by unfold Addr.add; split <;> rfl
    simp [World.cell?, hb, Array.getElem?_eq_none h2] at h1
theorem At.below {w w1 : World} {p : Addr} {cs : List Value} (h : At w p cs) (hb : Below w.heap.size w w1) : At w1 p cs := by
  by_cases hc : cs = []
  · subst hc; intro j v hv; simp at hv
  · exact h.move (hb.block _ (h.lt hc))

theorem run_loadVar_at (w : World) (p : Addr) (ty : TypeId) (cs : List Value) (d : TypeDesc) (hc : At w p cs) (hu : P.underlying ty = some d) (hd : d.isRow = true) (hi : (P.info? ty).map (·.size) = some cs.length) :
    (loadVar ty p).run P w = .ok (.agg cs.toArray) w := by
  have hl : (loadCells p cs.length).run P w = .ok cs.toArray w := run_loadCells_list (P := P) w p cs hc
  cases hq : P.info? ty with
  | none => simp [hq] at hi
  | some i =>
    have hs : i.size = cs.length := by simpa [hq] using hi
    have hagg : (isAgg ty).run P w = .ok true w := by
      unfold isAgg
      rw [Sem.run_bind, run_underlying hu w]
      cases d <;> simp_all
    simp [loadVar, Sem.run_bind, hagg, sizeOf, typeInfo, hq, hs, hl]
theorem run_load (w : World) (p : Addr) (ty : TypeId) (cs : List Value) (d : TypeDesc) (hc : At w p cs) (hu : P.underlying ty = some d) (hd : d.isRow = true) (hi : (P.info? ty).map (·.size) = some cs.length) :
    (Instr.loadAt ty (.pointer (some p))).run P w = .ok (.agg cs.toArray) w := by
  simp only [Instr.loadAt, Instr.sureAddr, Sem.run_bind, Sem.run_pure, Result.andThen_ok, run_loadVar_at w p ty cs d hc hu hd hi]
theorem wp_load {op : Oper} {a : Act} {w : World} {K : Act → World → Prop} {Q : Exit → Act → World → Prop} (ty : TypeId) (x : Operand) (ho : op.op = .load ty x)
    (p : Addr) (hx : a.eval x = .pointer (some p)) (cs : List Value) (d : TypeDesc) (hc : At w p cs)
    (hu : P.underlying ty = some d) (hd : d.isRow = true) (hi : (P.info? ty).map (·.size) = some cs.length)
    (h : K (a.put op.dst (.agg cs.toArray)) w) : op.wp P a w K Q := by
  unfold Oper.wp execOp
  simp only [ho, hx, Sem.run_bind, run_load w p ty cs d hc hu hd hi, Result.andThen_ok, Sem.run_pure]
  exact h
theorem wpList_load {ops : Array Oper} {rest : List Oper} {op : Oper} {a : Act} {w : World} {Q : Exit → Act → World → Prop} (hgd : op.guard = none) (ty : TypeId) (x : Operand) (ho : op.op = .load ty x)
    (p : Addr) (hx : a.eval x = .pointer (some p)) (cs : List Value) (d : TypeDesc) (hc : At w p cs)
    (hu : P.underlying ty = some d) (hd : d.isRow = true) (hi : (P.info? ty).map (·.size) = some cs.length)
    (h : wpList P ops Q rest (a.put op.dst (.agg cs.toArray)) w) : wpList P ops Q (op :: rest) a w :=
  wpList_plain hgd fun _ hK => wp_load ty x ho p hx cs d hc hu hd hi (hK _ _ h)
end

/-! ### Kinds of elements without memory of their own -/
def flat {α : Type} (sz : Nat) (R : α → List Value → Prop) (hl : ∀ {x cs}, R x cs → cs.length = sz) (h1 : ∀ {x cs}, R x cs → ∀ u ∈ cs, u.oneCell' = true) : Kd α where
  sz := sz
  E := []
  K := fun _ x cs => R x cs
  M := fun _ _ _ x cs => R x cs
  K_len := hl
  K_one := h1
  K_below := fun _ h => h
  K_of_M := fun h => h
  M_mono := fun _ h => h
  M_bound := fun h => h
  M_move := fun _ h => h
  M_lower := fun _ h => h

def Bs (x : List Int) : Prop := ∀ u ∈ x, 0 ≤ u ∧ u ≤ 255
def u8s (x : List Int) : List Value := x.map (Value.int .u8)
theorem u8s_length (x : List Int) : (u8s x).length = x.length := by simp [u8s]
theorem u8s_one {x : List Int} : ∀ v ∈ u8s x, v.oneCell' = true := by
  intro v hv
  obtain ⟨u, _, rfl⟩ := List.mem_map.1 hv
  rfl
theorem u8s_inj {x y : List Int} (h : u8s x = u8s y) : x = y := by
  refine List.map_inj_right (f := Value.int .u8) ?_ |>.1 h
  intro a b e
  injection e
/-- An id. -/
structure IdOk (x : List Int) : Prop where
  len : x.length = 32
  bytes : Bs x
def idv (x : List Int) : Value := .agg (u8s x).toArray
def idK : Kd (List Int) := flat 32 (fun x cs => IdOk x ∧ cs = u8s x) (fun h => by rw [h.2, u8s_length, h.1.len]) (fun h => by rw [h.2]; exact u8s_one)
/-- A result: its action, its root, its code. -/
structure Res where
  act : List Int
  root : List Int
  code : Int
instance : DecidableEq Res := fun a b =>
  if h : a.act = b.act ∧ a.root = b.root ∧ a.code = b.code then .isTrue (by cases a; cases b; obtain ⟨h1, h2, h3⟩ := h; simp only at h1 h2 h3; subst h1 h2 h3; rfl)
  else .isFalse (fun e => h (by subst e; exact ⟨rfl, rfl, rfl⟩))
structure ResOk (r : Res) : Prop where
  act : IdOk r.act
  root : IdOk r.root
  code : -9223372036854775808 ≤ r.code ∧ r.code ≤ 9223372036854775807
def resC (r : Res) : List Value := u8s r.act ++ (u8s r.root ++ [.int .i64 r.code])
def resv (r : Res) : Value := .agg (resC r).toArray
theorem resC_length {r : Res} (h : ResOk r) : (resC r).length = 65 := by simp [resC, u8s_length, h.act.len, h.root.len]
theorem resC_one {r : Res} : ∀ v ∈ resC r, v.oneCell' = true := by
  intro v hv
  simp only [resC, List.mem_append, List.mem_singleton] at hv
  rcases hv with hv | hv | rfl
  · exact u8s_one v hv
  · exact u8s_one v hv
  · rfl
def resK : Kd Res := flat 65 (fun r cs => ResOk r ∧ cs = resC r) (fun h => by rw [h.2, resC_length h.1]) (fun h => by rw [h.2]; exact resC_one)

section
variable {w : World} {A : Option Addr} {n : Nat}
/-- The id at a place of a slice. -/
theorem id_at {xs : List (List Int)} (h : idK.C w A n xs) (i : Nat) (hi : i < n) : ∃ ad x, A = some ad ∧ xs[i]? = some x ∧ IdOk x ∧ At w (ad.add (i * 32)) (u8s x) := by
  obtain ⟨ad, c, e, _, ⟨hk, rfl⟩, hc⟩ := Kd.C_get h ([] : List Int) (i : Int) (by omega) (by omega)
  have hl : i < xs.length := by have := h.1; omega
  have hx : xs[i]? = some (xs.getD ((i : Int).toNat) []) := by rw [Int.toNat_natCast, List.getD_eq_getElem?_getD, List.getElem?_eq_getElem hl]; rfl
  exact ⟨ad, _, e, hx, hk, fun j v hv => by rw [Addr.add_add]; exact hc j v hv⟩
/-- The result at a place of a slice. -/
theorem res_at {rs : List Res} (h : resK.C w A n rs) (i : Nat) (hi : i < n) : ∃ ad r, A = some ad ∧ rs[i]? = some r ∧ ResOk r ∧ At w (ad.add (i * 65)) (resC r) := by
  obtain ⟨ad, c, e, _, ⟨hk, rfl⟩, hc⟩ := Kd.C_get h (⟨[], [], 0⟩ : Res) (i : Int) (by omega) (by omega)
  have hl : i < rs.length := by have := h.1; omega
  have hx : rs[i]? = some (rs.getD ((i : Int).toNat) ⟨[], [], 0⟩) := by rw [Int.toNat_natCast, List.getD_eq_getElem?_getD, List.getElem?_eq_getElem hl]; rfl
  exact ⟨ad, _, e, hx, hk, fun j v hv => by rw [Addr.add_add]; exact hc j v hv⟩
end
/-- The parts of a result. -/
theorem res_act {w : World} {p : Addr} {r : Res} (h : At w p (resC r)) : At w p (u8s r.act) := by
  intro j v hv
  refine h j v ?_
  rw [resC, List.getElem?_append_left (by exact (List.getElem?_eq_some_iff.1 hv).1)]
  exact hv
theorem res_root {w : World} {p : Addr} {r : Res} (hr : ResOk r) (h : At w p (resC r)) : At w (p.add 32) (u8s r.root) := by
  intro j v hv
  rw [Addr.add_add]
  refine h _ v ?_
  have hl : j < (u8s r.root).length := (List.getElem?_eq_some_iff.1 hv).1
  have ha : (u8s r.act).length = 32 := by rw [u8s_length, hr.act.len]
  rw [resC, List.getElem?_append_right (by omega), ha, Nat.add_sub_cancel_left, List.getElem?_append_left hl]
  exact hv
theorem res_code {w : World} {p : Addr} {r : Res} (hr : ResOk r) (h : At w p (resC r)) : w.cell? (p.add 64) = some (.int .i64 r.code) := by
  refine h 64 _ ?_
  have ha : (u8s r.act).length = 32 := by rw [u8s_length, hr.act.len]
  have hb : (u8s r.root).length = 32 := by rw [u8s_length, hr.root.len]
  rw [resC, List.getElem?_append_right (by omega), ha, List.getElem?_append_right (by omega), hb]
  rfl

/-! ### '==' -/
theorem mapM_some {α β : Type} {f : α → Option β} {g : α → β} : ∀ l : List α, (∀ x ∈ l, f x = some (g x)) → l.mapM f = some (l.map g)
  | [], _ => rfl
  | a :: r, h => by
    rw [List.mapM_cons, h a (by simp), mapM_some r (fun x hx => h x (List.mem_cons_of_mem _ hx))]
    rfl
section
variable {P : Program}
theorem wf_u8' {n : Int} (h : 0 ≤ n ∧ n ≤ 255) : (Lit.int .u8 n).wf = true := by
  have h1 : IntKind.u8.min = 0 := rfl
  have h2 : IntKind.u8.max = 255 := rfl
  simp [Lit.wf, h1, h2]; omega
theorem keyLits_u8s {t e n d : Nat} (hu : P.underlying t = some (.array n e)) (he : P.underlying e = some (.int .u8)) (h1 : P.cellsOf e = 1) (hn : P.cellsOf t = n) {x : List Int} (hl : x.length = n) (hb : Bs x) :
    P.keyLits (d + 2) t (u8s x) = some (x.map (Lit.int .u8)) := by
  unfold Program.keyLits
  simp only [hu]
  rw [if_pos (by rw [u8s_length, hl, hn])]
  rw [mapM_some (g := fun i => [Lit.int .u8 (x.getD i 0)])]
  · simp only [Option.map_some, Option.some.injEq]
    rw [← List.flatMap_def]
    apply List.ext_getElem?
    intro i
    have hfl : ∀ (m : Nat), m ≤ n → ((List.range m).flatMap fun i => [Lit.int .u8 (x.getD i 0)]) = (x.take m).map (Lit.int .u8) := by
      intro m hm
      induction m with
      | zero => rfl
      | succ m ih =>
        rw [List.range_succ, List.flatMap_append, ih (by omega), List.take_add_one, List.map_append]
        have : x[m]? = some (x.getD m 0) := by rw [List.getD_eq_getElem?_getD, List.getElem?_eq_getElem (by omega)]; rfl
        rw [this]
        simp
    rw [hfl n (Nat.le_refl _), List.take_of_length_le (by omega)]
  · intro i hi
    have hi' : i < n := List.mem_range.1 hi
    have hxi : x[i]? = some (x.getD i 0) := by rw [List.getD_eq_getElem?_getD, List.getElem?_eq_getElem (by omega)]; rfl
    have hcell : ((u8s x).drop (i * P.cellsOf e)).take (P.cellsOf e) = [.int .u8 (x.getD i 0)] := by
      rw [h1, Nat.mul_one]
      have : (u8s x)[i]? = some (.int .u8 (x.getD i 0)) := by rw [u8s, List.getElem?_map, hxi]; rfl
      rw [List.drop_eq_getElem_cons (by rw [u8s_length]; omega)]
      rw [List.getElem?_eq_getElem (by rw [u8s_length]; omega)] at this
      rw [Option.some.inj this]
      rfl
    rw [hcell]
    unfold Program.keyLits
    simp only [he]
    have hwf := wf_u8' (hb _ (List.mem_of_getElem? hxi))
    rw [if_pos ⟨trivial, hwf⟩]
end
end Go.Proofs.YtdekmeanlcpenaaGreatDoor.Mid
