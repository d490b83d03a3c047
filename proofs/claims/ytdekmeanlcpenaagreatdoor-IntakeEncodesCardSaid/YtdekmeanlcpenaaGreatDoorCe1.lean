import Derived.Test.YtdekmeanlcpenaaGreatDoorProg
import Derived.WalkKit
import Derived.LaidEql
import Derived.Stop.Asserts
import Derived.RowKitTokens
import Derived.Test.YtdekmeanlcpenaaGreatDoorWWords
import Derived.Test.YtdekmeanlcpenaaGreatDoorTie
import Derived.Test.YtdekmeanlcpenaaGreatDoorCards
import Derived.ProofKit
import Derived.OpenShut
import Derived.ShutString
import Derived.ChangeOld
import Derived.Below
import Derived.SizedLaws
import Derived.LaidMore
import Derived.LaidHandle
import Derived.Lay
import Derived.SevenTiedAt
import Derived.Stop.Joined
import Derived.Conc.Holds
import Derived.Test.YtdekmeanlcpenaaGreatDoorWSized
import Derived.Test.YtdekmeanlcpenaaGreatDoorWMore
import Derived.Deep.MidRow
import Derived.DataElems
import Derived.Lib.BytesEntry
import Derived.BigQuiet
set_option linter.unusedSimpArgs false
set_option linter.unusedVariables false
namespace Go.Proofs.YtdekmeanlcpenaaGreatDoor.Err
open Go.RowKit Go.Extern.Stop Go.Stop Go.Extern

theorem valueOf110 (t : Addr) (w : World) : (ReflectliteValue.unpack (.iface 142 (.pointer (some t)))).run Tryz.prog w
    = .ok (.agg #[.pointer (some ⟨4, 142, none⟩), .pointer (some ⟨w.heap.size, 0, none⟩), .int .u64 150]) (w.alloc (.cells #[.pointer (some t)] 142)) := by kernel_rfl
theorem valueOf67 (n : Int) (w : World) : (ReflectliteValue.unpack (.iface 80 (.int .i64 n))).run Tryz.prog w
    = .ok (.agg #[.pointer (some ⟨4, 80, none⟩), .pointer (some ⟨w.heap.size, 0, none⟩), .int .u64 130]) (w.alloc (.cells #[.int .i64 n] 80)) := by kernel_rfl
theorem type110 (a : Addr) (w : World) : (ReflectliteValue.methodAny (ReflectliteValue.valueError "reflectlite.Value.Type" 0) (fun t _ _ _ => ReflectliteType.toType t) #[.agg #[.pointer (some ⟨4, 142, none⟩), .pointer (some a), .int .u64 150]]).run Tryz.prog w
    = .ok (.iface 211 (.agg #[.pointer (some ⟨4, 142, none⟩)])) w := by kernel_rfl
theorem methodKind (h : Value) (w : World) : (Go.method 583 211 (.agg #[h]) "Kind").run Tryz.prog w = .ok (347, h) w := by kernel_rfl
theorem kind110 (w : World) : ((ReflectliteType.abiMethod fun t => (fun a : Nat => Value.int IntKind.u8 (a : Int)) <$> Rtype.kind t) #[.pointer (some ⟨4, 142, none⟩)]).run Tryz.prog w = .ok (.int .u8 22) w := by kernel_rfl
theorem kind67 (w : World) : ((ReflectliteType.abiMethod fun t => (fun a : Nat => Value.int IntKind.u8 (a : Int)) <$> Rtype.kind t) #[.pointer (some ⟨4, 80, none⟩)]).run Tryz.prog w = .ok (.int .u8 2) w := by kernel_rfl
theorem rlm (z : Sem Value) (f : TypeId → Addr → Nat → Nat → Sem Value) (v : Value) :
    ReflectliteValue.method z f #[v] = (do match ← ReflectliteValue.parts v with | none => z | some (t, a, fl) => f t a fl (fl % 32)) := rfl
theorem parts110 (a : Addr) (w : World) : (ReflectliteValue.parts (.agg #[.pointer (some ⟨4, 142, none⟩), .pointer (some a), .int .u64 150])).run Tryz.prog w = .ok (some (142, a, 150)) w := by kernel_rfl
theorem isNil110 (a p : Addr) (W : World) (ha : W.cell? a = some (.pointer (some p))) :
    (ReflectliteValue.method (ReflectliteValue.valueError "reflectlite.Value.IsNil" 0) ReflectliteValue.isNil #[.agg #[.pointer (some ⟨4, 142, none⟩), .pointer (some a), .int .u64 150]]).run Tryz.prog W = .ok (.bool false) W := by
  rw [rlm]
  simp only [Sem.run_bind, parts110, Result.andThen]
  simp [ReflectliteValue.isNil, loadVar, isAgg, underlying, Tryz.underlying142, ha, Result.andThen]
theorem methodElem (h : Value) (w : World) : (Go.method 583 211 (.agg #[h]) "Elem").run Tryz.prog w = .ok (360, .agg #[h]) w := by kernel_rfl
theorem methodImplements (h : Value) (w : World) : (Go.method 583 211 (.agg #[h]) "Implements").run Tryz.prog w = .ok (361, .agg #[h]) w := by kernel_rfl
theorem methodAssignableTo (h : Value) (w : World) : (Go.method 583 211 (.agg #[h]) "AssignableTo").run Tryz.prog w = .ok (358, .agg #[h]) w := by kernel_rfl
theorem methodComparable (h : Value) (w : World) : (Go.method 583 211 (.agg #[h]) "Comparable").run Tryz.prog w = .ok (359, .agg #[h]) w := by kernel_rfl
theorem methodUnwrap (h : Value) (w : World) : (Go.method 583 79 h "Unwrap").run Tryz.prog w = .ok (352, h) w := by kernel_rfl
theorem elem110 (w : World) : (ReflectliteType.method ReflectliteType.elem #[.agg #[.pointer (some ⟨4, 142, none⟩)]]).run Tryz.prog w = .ok (.iface 211 (.agg #[.pointer (some ⟨4, 80, none⟩)])) w := by kernel_rfl
theorem implements67 (w : World) : (ReflectliteType.relation "Implements" ReflectliteType.implements_ #[.agg #[.pointer (some ⟨4, 80, none⟩)], .iface 211 (.agg #[.pointer (some ⟨4, 35, none⟩)])]).run Tryz.prog w = .ok (.bool true) w := by kernel_rfl
theorem typeOf66 (v : Value) (w : World) : (ReflectliteType.typeOf #[.iface 79 v]).run Tryz.prog w = .ok (.iface 211 (.agg #[.pointer (some ⟨4, 79, none⟩)])) w := by kernel_rfl
theorem typeOf67 (v : Value) (w : World) : (ReflectliteType.typeOf #[.iface 80 v]).run Tryz.prog w = .ok (.iface 211 (.agg #[.pointer (some ⟨4, 80, none⟩)])) w := by kernel_rfl
theorem assignable6667 (w : World) : (ReflectliteType.relation "AssignableTo" ReflectliteType.assignableTo #[.agg #[.pointer (some ⟨4, 79, none⟩)], .iface 211 (.agg #[.pointer (some ⟨4, 80, none⟩)])]).run Tryz.prog w = .ok (.bool false) w := by kernel_rfl
theorem assignable6767 (w : World) : (ReflectliteType.relation "AssignableTo" ReflectliteType.assignableTo #[.agg #[.pointer (some ⟨4, 80, none⟩)], .iface 211 (.agg #[.pointer (some ⟨4, 80, none⟩)])]).run Tryz.prog w = .ok (.bool true) w := by kernel_rfl
theorem comparable67 (w : World) : (ReflectliteType.method (fun t => do Rtype.noPackHeld "Comparable" t; pure (.bool (← typeInfo t).comparable)) #[.agg #[.pointer (some ⟨4, 80, none⟩)]]).run Tryz.prog w = .ok (.bool true) w := by kernel_rfl
theorem elemOf110 (w : World) : (Rtype.elem? 142).run Tryz.prog w = .ok (some 80) w := by kernel_rfl
theorem mk67 (p : Addr) (w : World) : (ReflectliteValue.mk 80 p ReflectliteValue.flagAddr).run Tryz.prog w = .ok (.agg #[.pointer (some ⟨4, 80, none⟩), .pointer (some p), .int .u64 386]) w := by kernel_rfl
theorem elemV110 (a p : Addr) (W : World) (ha : W.cell? a = some (.pointer (some p))) :
    (ReflectliteValue.method (ReflectliteValue.valueError "reflectlite.Value.Elem" 0) ReflectliteValue.elem #[.agg #[.pointer (some ⟨4, 142, none⟩), .pointer (some a), .int .u64 150]]).run Tryz.prog W
      = .ok (.agg #[.pointer (some ⟨4, 80, none⟩), .pointer (some p), .int .u64 386]) W := by
  rw [rlm]
  simp only [Sem.run_bind, parts110, Result.andThen]
  simp [ReflectliteValue.elem, loadVar, isAgg, underlying, Tryz.underlying142, ha, Result.andThen, elemOf110, mk67]
theorem rls (v x : Value) : ReflectliteValue.set #[v, x] = (do
    let (some (dst, a, fl), some (src, b, _)) := (← ReflectliteValue.parts v, ← ReflectliteValue.parts x)
      | unsupported (.noEntry "extern/(internal/reflectlite.Value).Set.zeroValue")
    if fl / ReflectliteValue.flagAddr % 2 == 0 then unsupported (.noEntry "extern/(internal/reflectlite.Value).Set.unaddressable")
    let val ← loadVar src b
    if ← Rtype.directlyAssignable dst src then storeVar dst a val
    else if ← Rtype.implements dst src then
      if (← Rtype.kind src) == 20 then
        match val with
        | .nilIface => unsupported (.noEntry "extern/reflectlite: a nil value of one interface type handed on as a value of another")
        | _ => storeVar dst a val
      else storeVar dst a (.iface src val)
    else panicString ("reflectlite.Set: value of type " ++ (← Rtype.spelt src) ++ " is not assignable to type " ++ (← Rtype.spelt dst))
    pure (.tuple #[])) := rfl
theorem parts67a (a : Addr) (w : World) : (ReflectliteValue.parts (.agg #[.pointer (some ⟨4, 80, none⟩), .pointer (some a), .int .u64 386])).run Tryz.prog w = .ok (some (80, a, 386)) w := by kernel_rfl
theorem parts67 (a : Addr) (w : World) : (ReflectliteValue.parts (.agg #[.pointer (some ⟨4, 80, none⟩), .pointer (some a), .int .u64 130])).run Tryz.prog w = .ok (some (80, a, 130)) w := by kernel_rfl
theorem direct67 (w : World) : (Rtype.directlyAssignable 80 80).run Tryz.prog w = .ok true w := by kernel_rfl
theorem size67 (w : World) : (sizeOf 80).run Tryz.prog w = .ok 1 w := by kernel_rfl
theorem set67 (ta b : Addr) (n : Int) (old : Value) (W : World) (hb : W.cell? b = some (.int .i64 n)) (ht : W.cell? ta = some old) (hf : W.frozen? ta = false) :
    (ReflectliteValue.set #[.agg #[.pointer (some ⟨4, 80, none⟩), .pointer (some ta), .int .u64 386], .agg #[.pointer (some ⟨4, 80, none⟩), .pointer (some b), .int .u64 130]]).run Tryz.prog W
      = .ok (.tuple #[]) (W.setCell ta (.int .i64 n)) := by
  rw [rls]
  simp only [Sem.run_bind, parts67a, parts67, Result.andThen]
  simp [ReflectliteValue.flagAddr, loadVar, isAgg, underlying, Tryz.underlying80, hb, Result.andThen, direct67, storeVar, Value.cells, storeCells, Addr.add]
  rw [run_store Tryz.prog W ta _ _ (by rfl)]
  simp [ht, hf]
theorem noAs (v : Value) (xT : TypeId) (w : World) : (Instr.typeAssert (.iface 79 v) xT 255 true).run Tryz.prog w = .ok (.tuple #[.nilIface, .bool false]) w := run_typeAssert_lacksB Tryz.underlying255 (by kernel_rfl) (by kernel_rfl) v xT w
theorem noIs (v : Value) (xT : TypeId) (w : World) : (Instr.typeAssert (.iface 79 v) xT 213 true).run Tryz.prog w = .ok (.tuple #[.nilIface, .bool false]) w := run_typeAssert_lacksB Tryz.underlying213 (by kernel_rfl) (by kernel_rfl) v xT w
theorem hasUnwrap (v : Value) (xT : TypeId) (w : World) : (Instr.typeAssert (.iface 79 v) xT 216 true).run Tryz.prog w = .ok (.tuple #[.iface 79 v, .bool true]) w := run_typeAssert_hasB Tryz.underlying216 (by kernel_rfl) v xT w
end Go.Proofs.YtdekmeanlcpenaaGreatDoor.Err

namespace Go.Proofs.YtdekmeanlcpenaaGreatDoor.Err
open Go.RowKit Go.Extern.Stop Go.Stop Go.Extern Go.Proofs.YtdekmeanlcpenaaGreatDoorW.PrintWords
set_option maxHeartbeats 4000000
set_option maxRecDepth 100000

theorem unwrap_any (g : Nat) (err : Value) (w : World) (h : w.cell? ⟨g, 34, none⟩ = some err) : Calls Tryz.prog 352 #[.pointer (some ⟨g, 0, none⟩)] w fun e w' => e = .returned err ∧ w' = w := by
  go_enter Tryz.func352, Tryz.ntmps352
  go_wp2
  go_ret
  exact ⟨rfl, rfl⟩

/-- errors.as at a fault that wraps a number, the target a number's variable. -/
theorem as88 (g : Nat) (a t : Addr) (n : Int) (old : Value) (w : World) (hc : w.cell? ⟨g, 34, none⟩ = some (.iface 80 (.int .i64 n))) (ha : w.cell? a = some (.pointer (some t))) (ht0 : w.cell? t = some old) (hf0 : w.frozen? t = false) :
    Calls Tryz.prog 106 #[.iface 79 (.pointer (some ⟨g, 0, none⟩)), .iface 142 (.pointer (some t)), .agg #[.pointer (some ⟨4, 142, none⟩), .pointer (some a), .int .u64 150], .iface 211 (.agg #[.pointer (some ⟨4, 80, none⟩)])] w
      fun e w' => e = .returned (.bool true) ∧ w' = ((w.alloc (.cells #[.pointer (some ⟨4, 142, none⟩), .pointer (some a), .int .u64 150] 192)).alloc (.cells #[.int .i64 n] 80)).setCell t (.int .i64 n) := by
  have h64 := @run_callFunc_extern Tryz.prog 76 _ ReflectliteType.typeOf Tryz.func76 (by kernel_rfl) (by kernel_rfl) (by kernel_rfl) (by kernel_rfl)
  have h356 := @run_callFunc_extern Tryz.prog 358 _ (ReflectliteType.relation "AssignableTo" ReflectliteType.assignableTo) Tryz.func358 (by kernel_rfl) (by kernel_rfl) (by kernel_rfl) (by kernel_rfl)
  have h119 := @run_callFunc_extern Tryz.prog 143 _ (ReflectliteValue.method (ReflectliteValue.valueError "reflectlite.Value.Elem" 0) ReflectliteValue.elem) Tryz.func143 (by kernel_rfl) (by kernel_rfl) (by kernel_rfl) (by kernel_rfl)
  have h120 := @run_callFunc_extern Tryz.prog 144 _ ReflectliteValue.set Tryz.func144 (by kernel_rfl) (by kernel_rfl) (by kernel_rfl) (by kernel_rfl)
  have h85 := @run_callFunc_extern Tryz.prog 103 _ (fun args => ReflectliteValue.unpack (args.getD 0 (.tuple #[]))) Tryz.func103 (by kernel_rfl) (by kernel_rfl) (by kernel_rfl) (by kernel_rfl)
  have tO6 := typeOf66
  have tO7 := typeOf67
  have mA := methodAssignableTo
  have mU := methodUnwrap
  have a1 := assignable6667
  have a2 := assignable6767
  have v67 := valueOf67
  have nA := noAs
  have hU := hasUnwrap
  have halt : a.block < w.heap.size := by
    rcases Nat.lt_or_ge a.block w.heap.size with h | h
    · exact h
    · simp [World.cell?, Array.getElem?_eq_none h] at ha
  have htl : t.block < w.heap.size := by
    rcases Nat.lt_or_ge t.block w.heap.size with h | h
    · exact h
    · simp [World.cell?, Array.getElem?_eq_none h] at ht0
  have hgl : g < w.heap.size := by
    rcases Nat.lt_or_ge g w.heap.size with h | h
    · exact h
    · simp [World.cell?, Array.getElem?_eq_none h] at hc
  have el := elemV110 a t (w.alloc (.cells #[.pointer (some ⟨4, 142, none⟩), .pointer (some a), .int .u64 150] 192)) (by rw [World.cell?_alloc_lt _ _ a halt]; exact ha)
  have hc1 : (w.alloc (.cells #[.pointer (some ⟨4, 142, none⟩), .pointer (some a), .int .u64 150] 192)).cell? ⟨g, 34, none⟩ = some (.iface 80 (.int .i64 n)) := by
    rw [World.cell?_alloc_lt _ _ ⟨g, 34, none⟩ hgl]; exact hc
  have st := set67 t ⟨w.heap.size + 1, 0, none⟩ n old ((w.alloc (.cells #[.pointer (some ⟨4, 142, none⟩), .pointer (some a), .int .u64 150] 192)).alloc (.cells #[.int .i64 n] 80))
    (by rw [World.cell?_alloc_at _ _ _ _ (by simp)]; rfl)
    (by rw [World.cell?_alloc_lt _ _ t (by simp; omega), World.cell?_alloc_lt _ _ t htl]; exact ht0)
    (by rw [World.frozen?_alloc_old _ _ t (by simp; omega), World.frozen?_alloc_old _ _ t (Nat.ne_of_lt htl)]; exact hf0)
  go_enter Tryz.func106, Tryz.ntmps106
  go_wp2
  refine wp_loop_rounds 2 ?_
  rw [rounds_succ]
  go_wp2_with (first
    | (go_at_call 352; refine (unwrap_any g _ _ hc1).mono ?_; rintro e w' ⟨rfl, rfl⟩)
    | go_in)
  rw [rounds_succ]
  go_wp2
  go_ret
  exact ⟨rfl, rfl⟩
end Go.Proofs.YtdekmeanlcpenaaGreatDoor.Err

namespace Go.Proofs.YtdekmeanlcpenaaGreatDoor.Err
open Go.RowKit Go.Extern.Stop Go.Stop Go.Extern Go.Proofs.YtdekmeanlcpenaaGreatDoorW.PrintWords
set_option maxHeartbeats 4000000
set_option maxRecDepth 100000

theorem lt_of_cell {w : World} {a : Addr} {v : Value} (h : w.cell? a = some v) : a.block < w.heap.size := by
  rcases Nat.lt_or_ge a.block w.heap.size with h1 | h1
  · exact h1
  · simp [World.cell?, Array.getElem?_eq_none h1] at h
/-- The handle of the type error, which errors.As reads. -/
def Handle (w : World) : Prop := w.cell? ⟨0, 0, none⟩ = some (.iface 211 (.agg #[.pointer (some ⟨4, 35, none⟩)]))
theorem as49 (g : Nat) (t : Addr) (n : Int) (old : Value) (w : World) (hg : Handle w) (hc : w.cell? ⟨g, 34, none⟩ = some (.iface 80 (.int .i64 n))) (ht0 : w.cell? t = some old) (hf0 : w.frozen? t = false) :
    Calls Tryz.prog 61 #[.iface 79 (.pointer (some ⟨g, 0, none⟩)), .iface 142 (.pointer (some t))] w
      fun e w' => e = .returned (.bool true) ∧ ∃ w2 : World, Below w.heap.size w w2 ∧ w' = w2.setCell t (.int .i64 n) := by
  have h85 := @run_callFunc_extern Tryz.prog 103 _ (fun args => ReflectliteValue.unpack (args.getD 0 (.tuple #[]))) Tryz.func103 (by kernel_rfl) (by kernel_rfl) (by kernel_rfl) (by kernel_rfl)
  have h86 := @run_callFunc_extern Tryz.prog 104 _ (ReflectliteValue.methodAny (ReflectliteValue.valueError "reflectlite.Value.Type" 0) (fun t _ _ _ => ReflectliteType.toType t)) Tryz.func104 (by kernel_rfl) (by kernel_rfl) (by kernel_rfl) (by kernel_rfl)
  have h87 := @run_callFunc_extern Tryz.prog 105 _ (ReflectliteValue.method (ReflectliteValue.valueError "reflectlite.Value.IsNil" 0) ReflectliteValue.isNil) Tryz.func105 (by kernel_rfl) (by kernel_rfl) (by kernel_rfl) (by kernel_rfl)
  have h345 := @run_callFunc_extern Tryz.prog 347 _ (ReflectliteType.abiMethod fun t => do pure (.int .u8 (← Rtype.kind t))) Tryz.func347 (by kernel_rfl) (by kernel_rfl) (by kernel_rfl) (by kernel_rfl)
  have h358 := @run_callFunc_extern Tryz.prog 360 _ (ReflectliteType.method ReflectliteType.elem) Tryz.func360 (by kernel_rfl) (by kernel_rfl) (by kernel_rfl) (by kernel_rfl)
  have h359 := @run_callFunc_extern Tryz.prog 361 _ (ReflectliteType.relation "Implements" ReflectliteType.implements_) Tryz.func361 (by kernel_rfl) (by kernel_rfl) (by kernel_rfl) (by kernel_rfl)
  have f6 := valueOf110
  have f7 := type110
  have mK := methodKind
  have mE := methodElem
  have mI := methodImplements
  have k1 := kind110
  have k2 := kind67
  have e1 := elem110
  have i1 := implements67
  have hlt : 0 < w.heap.size := lt_of_cell hg
  have htl := lt_of_cell ht0
  have hgl := lt_of_cell hc
  simp only at hgl
  have n8 := isNil110 ⟨w.heap.size, 0, none⟩ t ((w.alloc (.cells #[.pointer (some t)] 142)).alloc (.cells #[.pointer (some ⟨4, 142, none⟩), .pointer (some ⟨w.heap.size, 0, none⟩), .int .u64 150] 192)) (by simp)
  have hg2 : ((w.alloc (.cells #[.pointer (some t)] 142)).alloc (.cells #[.pointer (some ⟨4, 142, none⟩), .pointer (some ⟨w.heap.size, 0, none⟩), .int .u64 150] 192)).cell? ⟨0, 0, none⟩ = some (.iface 211 (.agg #[.pointer (some ⟨4, 35, none⟩)])) := by
    rw [World.cell?_alloc_lt _ _ ⟨0, 0, none⟩ (by simp), World.cell?_alloc_lt _ _ ⟨0, 0, none⟩ hlt]; exact hg
  have hc2 : ((w.alloc (.cells #[.pointer (some t)] 142)).alloc (.cells #[.pointer (some ⟨4, 142, none⟩), .pointer (some ⟨w.heap.size, 0, none⟩), .int .u64 150] 192)).cell? ⟨g, 34, none⟩ = some (.iface 80 (.int .i64 n)) := by
    rw [World.cell?_alloc_lt _ _ ⟨g, 34, none⟩ (by simp; omega), World.cell?_alloc_lt _ _ ⟨g, 34, none⟩ hgl]; exact hc
  have ha2 : ((w.alloc (.cells #[.pointer (some t)] 142)).alloc (.cells #[.pointer (some ⟨4, 142, none⟩), .pointer (some ⟨w.heap.size, 0, none⟩), .int .u64 150] 192)).cell? ⟨w.heap.size, 0, none⟩ = some (.pointer (some t)) := by simp
  have ht2 : ((w.alloc (.cells #[.pointer (some t)] 142)).alloc (.cells #[.pointer (some ⟨4, 142, none⟩), .pointer (some ⟨w.heap.size, 0, none⟩), .int .u64 150] 192)).cell? t = some old := by
    rw [World.cell?_alloc_lt _ _ t (by simp; omega), World.cell?_alloc_lt _ _ t htl]; exact ht0
  have hf2 : ((w.alloc (.cells #[.pointer (some t)] 142)).alloc (.cells #[.pointer (some ⟨4, 142, none⟩), .pointer (some ⟨w.heap.size, 0, none⟩), .int .u64 150] 192)).frozen? t = false := by
    rw [World.frozen?_alloc_old _ _ t (by simp; omega), World.frozen?_alloc_old _ _ t (Nat.ne_of_lt htl)]; exact hf0
  go_enter Tryz.func61, Tryz.ntmps61
  go_wp2_with (first
    | (go_at_call 106; refine (as88 g ⟨w.heap.size, 0, none⟩ t n old _ hc2 ha2 ht2 hf2).mono ?_; rintro e w' ⟨rfl, rfl⟩)
    | go_in)
  go_ret
  exact ⟨rfl, _, below_alloc (below_alloc (below_alloc (below_alloc (Below.refl _ _) _) _) _) _, rfl⟩

theorem eqSame (n : Int) (u : World) : (binOp .eql 35 (.iface 80 (.int .i64 n)) (.iface 80 (.int .i64 n))).run Tryz.prog u = .ok (.bool true) u := by
  have h : ∀ d : Nat, (Op.equalIn (d + 2) 35 (.iface 80 (.int .i64 n)) (.iface 80 (.int .i64 n))).run Tryz.prog u = .ok true u := fun d => by
    simp [Op.equalIn, run_underlying Tryz.underlying35, run_underlying Tryz.underlying80]
    intro hf
    have ht : Tryz.t80.comparable = true := by kernel_rfl
    rw [ht] at hf
    cases hf
  simp only [binOp]
  simp [Op.equal, Op.maxDepth, h 9998]
/-- errors.is at a fault that wraps this very number. -/
theorem is65 (g : Nat) (n : Int) (w : World) (hc : w.cell? ⟨g, 34, none⟩ = some (.iface 80 (.int .i64 n))) :
    Calls Tryz.prog 77 #[.iface 79 (.pointer (some ⟨g, 0, none⟩)), .iface 80 (.int .i64 n), .bool true] w fun e w' => e = .returned (.bool true) ∧ w' = w := by
  have nI := noIs
  have hU := hasUnwrap
  have mU := methodUnwrap
  have es := eqSame n
  have ne := fun (vx vy : Value) (u : World) => run_eql_iface_types (P := Tryz.prog) 79 80 vx vy Tryz.underlying35 (by decide) u
  go_enter Tryz.func77, Tryz.ntmps77
  go_wp2
  refine wp_loop_rounds 2 ?_
  rw [rounds_succ]
  go_wp2_with (first
    | (go_at_call 352; refine (unwrap_any g _ _ hc).mono ?_; rintro e w' ⟨rfl, rfl⟩)
    | go_in)
  rw [rounds_succ]
  go_wp2
  go_ret
  exact ⟨rfl, rfl⟩
theorem is32 (g : Nat) (n : Int) (w : World) (hc : w.cell? ⟨g, 34, none⟩ = some (.iface 80 (.int .i64 n))) :
    Calls Tryz.prog 35 #[.iface 79 (.pointer (some ⟨g, 0, none⟩)), .iface 80 (.int .i64 n)] w fun e w' => e = .returned (.bool true) ∧ w' = w := by
  have h64 := @run_callFunc_extern Tryz.prog 76 _ ReflectliteType.typeOf Tryz.func76 (by kernel_rfl) (by kernel_rfl) (by kernel_rfl) (by kernel_rfl)
  have h357 := @run_callFunc_extern Tryz.prog 359 _ (ReflectliteType.method (fun t => do Rtype.noPackHeld "Comparable" t; pure (.bool (← typeInfo t).comparable))) Tryz.func359 (by kernel_rfl) (by kernel_rfl) (by kernel_rfl) (by kernel_rfl)
  have tO7 := typeOf67
  have mC := methodComparable
  have c7 : ∀ u, (ReflectliteType.method (fun t => do Rtype.noPackHeld "Comparable" t; (fun a : TypeInfo => Value.bool a.comparable) <$> typeInfo t) #[.agg #[.pointer (some ⟨4, 80, none⟩)]]).run Tryz.prog u = .ok (.bool true) u := fun u => by kernel_rfl
  go_enter Tryz.func35, Tryz.ntmps35
  go_wp2_with (first
    | (go_at_call 77; refine (is65 g n _ hc).mono ?_; rintro e w' ⟨rfl, rfl⟩)
    | go_in)
  go_ret
  exact ⟨rfl, rfl⟩

/-- api.Code at a fault that wraps a number. -/
theorem code_any (g : Nat) (n : Int) (w : World) (hg : Handle w) (hc : w.cell? ⟨g, 34, none⟩ = some (.iface 80 (.int .i64 n))) :
    Calls Tryz.prog 34 #[.iface 79 (.pointer (some ⟨g, 0, none⟩))] w fun e w' => e = .returned (.int .i64 n) ∧ Below w.heap.size w w' := by
  have hlt : 0 < w.heap.size := lt_of_cell hg
  have hgl := lt_of_cell hc
  simp only at hgl
  have hg2 : Handle (w.alloc (.cells #[.int .i64 0] 80)) := by
    unfold Handle at hg ⊢
    rw [World.cell?_alloc_lt _ _ ⟨0, 0, none⟩ hlt]; exact hg
  have hc2 : (w.alloc (.cells #[.int .i64 0] 80)).cell? ⟨g, 34, none⟩ = some (.iface 80 (.int .i64 n)) := by
    rw [World.cell?_alloc_lt _ _ ⟨g, 34, none⟩ hgl]; exact hc
  have HG2 := Aside0.mk hg2
  clear hg hg2
  go_enter Tryz.func34, Tryz.ntmps34
  go_wp2_with (first
    | (go_at_call 61; refine (as49 g ⟨w.heap.size, 0, none⟩ n (.int .i64 0) _ HG2.out hc2 (by simp) (by simp)).mono ?_; rintro e w' ⟨rfl, w2, hb2, rfl⟩;
       have hcell : (w2.setCell ⟨w.heap.size, 0, none⟩ (.int .i64 n)).cell? ⟨w.heap.size, 0, none⟩ = some (.int .i64 n) := World.cell?_setCell_same _ _ _ (pw_cell_below hb2 (by simp : (w.alloc (.cells #[.int .i64 0] 80)).cell? ⟨w.heap.size, 0, none⟩ = some (.int .i64 0))))
    | go_in)
  go_ret
  refine ⟨rfl, ?_⟩
  have h1 : Below w.heap.size w w2 := (below_alloc (Below.refl _ _) _).trans (hb2.mono (by simp))
  exact h1.setCell (Nat.le_refl _) _
end Go.Proofs.YtdekmeanlcpenaaGreatDoor.Err

namespace Go.Proofs.YtdekmeanlcpenaaGreatDoor.LaidC
open Go.ChangeShapes Go.WideShapes Go.ChangeAt Go.RowKit Go.Proofs.YtdekmeanlcpenaaGreatDoorW.PrintWords Go.Proofs.YtdekmeanlcpenaaGreatDoor.Err
set_option maxRecDepth 100000
theorem own : ownKnob Tryz.prog.godebug = none := by kernel_rfl
theorem laidOut : laidOutB Tryz.prog = true := by kernel_rfl
theorem et : Tryz.prog.globalNamed "errors.errorType" = some 0 := by kernel_rfl
theorem rt : (Tryz.prog.cutTypes.find? (·.1 == "internal/reflectlite.rtype")).map (·.2) = some 211 := by kernel_rfl
theorem size : Tryz.prog.types.size = 483 := by kernel_rfl
theorem oneRow : ((List.range 483).filter fun t => Tryz.prog.rowNamed t [101, 114, 114, 111, 114]) = [35] := by kernel_rfl

/-- What the condition gives the walk: the handle's cell. -/
theorem handle_of_laid {W : World} (h : laidMetH Tryz.prog Rows.restorePicksRow.laid W) : Handle W := by
  have h' : laidMet Tryz.prog (Rows.restorePicksRow.laid.filter fun x => x.2.handleName?.isNone) W ∧ handlesMet Tryz.prog [("errors.errorType", Rows.laid_errors_errorType)] W := h
  obtain ⟨name, u, ty, e1, e2, e3, e4, e5⟩ := h'.2 _ (List.mem_singleton.2 rfl)
  have en : name = [101, 114, 114, 111, 114] := (Option.some.inj e1).symm
  subst en
  obtain rfl := Option.some.inj (rt.symm.trans e2)
  have hm : ty ∈ (List.range 483).filter fun t => Tryz.prog.rowNamed t [101, 114, 114, 111, 114] := List.mem_filter.2 ⟨List.mem_range.2 (by rw [← size]; exact e3), e4⟩
  rw [oneRow] at hm
  obtain rfl := List.mem_singleton.1 hm
  have hh : typeHandle Tryz.prog 35 = .pointer (some ⟨4, 35, none⟩) := by kernel_rfl
  rw [hh] at e5
  have := World.var?_cell et e5 0
  simpa [Handle] using this

/-- A world that meets the condition. -/
noncomputable def handleWorld (os : Os) : World :=
  let w0 := World.holding Tryz.prog os ⟨#[], #[], []⟩
  { w0 with heap := w0.heap.modify 0 fun
      | .cells _ t frozen => .cells #[.iface 211 (.agg #[.pointer (some ⟨4, 35, none⟩)])] t frozen
      | o => o }
def plainLaid : List (String × DataW Unit) := Rows.restorePicksRow.laid.filter fun x => x.2.handleName?.isNone
noncomputable def laidWorld (os : Os) : World := (handleWorld os).layVars Tryz.prog plainLaid
theorem laidWorld_os (os : Os) : (laidWorld os).os = os := World.layVars_os _ _ _
theorem laidWorld_plain (os : Os) : laidMet Tryz.prog plainLaid (laidWorld os) := by
  have e1 : (plainLaid.filter fun x => (plainLaid.map (·.1)).contains x.1) = plainLaid := List.filter_eq_self.2 fun x hx => List.contains_iff_mem.2 (List.mem_map.2 ⟨x, hx, rfl⟩)
  have e2 : (plainLaid.filter fun x => !(plainLaid.map (·.1)).contains x.1) = [] := List.filter_eq_nil_iff.2 fun x hx => by rw [List.contains_iff_mem.2 (List.mem_map.2 ⟨x, hx, rfl⟩)]; simp
  exact laidMet_layVars (w0 := handleWorld os) (plainLaid.map (·.1)) [] (by rw [e1]; rfl) (by rw [e1]; kernel_rfl) (by rw [e1]; kernel_rfl) (by rw [e2]; exact LaidIn.none)
theorem laidWorld_met (os : Os) (args : Array Value) : laidMetH Tryz.prog Rows.restorePicksRow.laid ((laidWorld os).forCall (fun _ _ => 0) ⟨#[], args, []⟩).memory :=
  laidMetH_of_parts ((laidWorld_plain os).of_heap (by simp [World.memory, World.forCall, Input.heap])) (by kernel_rfl)

/-- The tied card of a row that may hand goroutines over (after the kit's holds_tied_plain_at, 'goes' being what the program says). -/
theorem tied_plain_goes (Lk : Looks) {p : Pinned} {s : OpenSpec} {c : OpenClaim} (al : List (List PathCond)) (kinds : List LaidKind) (tests : Bool) (har : Bool × String) (lk gs : Bool)
    (hc : c.holds p s) (hal : ∀ D ∈ al, (c.withDomain D).holds p s) (hw : c.wfByText s = true) (hwal : ∀ D ∈ al, (c.withDomain D).wfByText s = true)
    (htie : c.laidByTextAt Lk p kinds tests)
    (hst : c.start = .entering) (hnb : c.noBlocks = false ∧ c.again = false) (hm : p.checked.prog.mainIs = some (har.1, har.2.toList)) (hn : (!har.1 && har.2.isEmpty && !lk) = false)
    (hl : ∀ f fn, p.checked.prog.funcNamed c.func = some f → p.checked.prog.funcs[f]? = some fn → lk = p.checked.prog.looks [] ∧ ∀ (j : Nat) t, fn.params[j]? = some t → p.checked.prog.wantsStandIn t = false)
    (hg : gs = c.goesBy p.checked.prog) :
    Claim7.holds p (.plain s) { stood := { row := c, standIns := [], harness := har, looks := lk }, kinds := [], alts := al, goes := gs, laidByText := true, laidKinds := kinds, laidTests := tests, laidLooks := Lk } := by
  have h6 : ∀ r : OpenClaim, Claim7.isSixth { stood := { row := r, standIns := [], harness := har, looks := lk }, kinds := [] } = false := fun r => by simpa [Claim7.isSixth] using hn
  refine ⟨Claim7.tied_new_at Lk kinds tests (Claim7.new_of_sixth hc har lk hst hnb hm (h6 c) hl) hw, fun D hD => ?_, htie, (fun h => by cases h), hg⟩
  exact Claim7.tied_new_at Lk kinds tests (Claim7.new_of_sixth (hal D hD) har lk hst hnb hm (h6 _) hl) (hwal D hD)
end Go.Proofs.YtdekmeanlcpenaaGreatDoor.LaidC

namespace Go.Proofs.YtdekmeanlcpenaaGreatDoor.Closed
set_option maxRecDepth 100000
theorem and2 {a b : Bool} (h1 : a = true) (h2 : b = true) : (a && b) = true := by rw [h1, h2]; rfl
theorem kLaidOut : laidOutB Tryz.prog = true := by kernel_rfl
theorem kMaps : mapsRowed Tryz.prog = true := by kernel_rfl
theorem kStops : (Tryz.prog.stops == []) = true := by kernel_rfl
theorem kKnobs : (Tryz.prog.stopKnobs == []) = true := by kernel_rfl
theorem kHeard : Tryz.prog.stopsHeard = true := by kernel_rfl
theorem kMayEnter : Tryz.prog.mayEnter = true := by kernel_rfl
end Go.Proofs.YtdekmeanlcpenaaGreatDoor.Closed

namespace Go.Proofs.YtdekmeanlcpenaaGreatDoor.intakeEncodes
open Go.Proofs.YtdekmeanlcpenaaGreatDoor.Closed
set_option maxRecDepth 100000
theorem c1 : Rows.intakeEncodesRow.wf (OpenSpec.ofChange Rows.intakeEncodesSpec) = true := by kernel_rfl
theorem c4 : Tryz.f5.params.all (Tryz.prog.readableRec ·) = true := by kernel_rfl
theorem c5 : namedTie Tryz.prog Rows.intakeEncodesRow.named Rows.intakeEncodesSpec.vars = true := by kernel_rfl
theorem c6 : (Rows.intakeEncodesRow.stops == []) = true := by kernel_rfl
theorem c8 : (Rows.intakeEncodesRow.knobs == []) = true := by kernel_rfl
theorem c10 : (Rows.intakeEncodesRow.inPlace == Tryz.prog.inPlace 5) = true := by kernel_rfl
theorem c11 : (Rows.intakeEncodesRow.unfollowed == Tryz.prog.unfollowed 5) = true := by kernel_rfl
theorem c12 : (Rows.intakeEncodesRow.recurses == Tryz.prog.recurses 5) = true := by kernel_rfl
theorem c13 : (Rows.intakeEncodesRow.named == Tryz.prog.varsNamed 5) = true := by kernel_rfl
theorem c14 : (Rows.intakeEncodesRow.maps == (Tryz.f5.params.toList ++ Rows.intakeEncodesSpec.plain.varTypes Tryz.prog).any (Tryz.prog.mapsRec ·)) = true := by kernel_rfl
theorem c15 : (Rows.intakeEncodesRow.ifaces == (Tryz.f5.params.toList ++ Rows.intakeEncodesSpec.plain.varTypes Tryz.prog).any (Tryz.prog.ifacesRec ·)) = true := by kernel_rfl
theorem c16 : (Rows.intakeEncodesRow.mapsOut == Tryz.prog.mapsAmong Tryz.f5.resultTypes.toList) = true := by kernel_rfl
theorem c17 : (Rows.intakeEncodesRow.loops == (Tryz.f5.params.toList ++ Rows.intakeEncodesSpec.plain.varTypes Tryz.prog).any (Tryz.prog.loopsFrom ·)) = true := by kernel_rfl
theorem c18 : (Rows.intakeEncodesRow.wideKeys == (Tryz.f5.params.toList ++ Rows.intakeEncodesSpec.plain.varTypes Tryz.prog ++ Tryz.f5.resultTypes.toList).any (Tryz.prog.wideKeysFrom ·)) = true := by kernel_rfl
theorem c19 : Rows.intakeEncodesSpec.vars.all (Tryz.prog.varReadable ·) = true := by kernel_rfl
theorem c20 : Tryz.f5.resultTypes.all (fun t => Tryz.prog.readableRec t && decide (t < Tryz.prog.types.size)) = true := by kernel_rfl
theorem c21 : (Rows.intakeEncodesRow.ifacesOut == Tryz.f5.resultTypes.toList.any (Tryz.prog.ifacesRec ·)) = true := by kernel_rfl
theorem c22 : (Rows.intakeEncodesRow.loopsOut == Tryz.f5.resultTypes.toList.any (Tryz.prog.loopsFrom ·)) = true := by kernel_rfl
theorem c23 : (Rows.intakeEncodesRow.plainKeys == Tryz.prog.plainKeys) = true := by kernel_rfl
theorem c24 : Rows.intakeEncodesRow.shortTexts.isNone = true := by kernel_rfl
theorem c27 : (Rows.intakeEncodesRow.lifted == Tryz.prog.liftsFinal) = true := by kernel_rfl
theorem c28 : (Tryz.prog.make == some Rows.intakeEncodesRow.make) = true := by kernel_rfl
theorem c29 : (Rows.intakeEncodesRow.kinds == (if Rows.intakeEncodesRow.domain.isEmpty then [] else Tryz.f5.params.toList.map fun t => match Tryz.prog.underlying t with | some (.int k) => some k | _ => none)) = true := by kernel_rfl
theorem c30 : (Rows.intakeEncodesRow.pinned == Rows.intakeEncodesRow.pinnedBy) = true := by kernel_rfl
theorem c31 : (Rows.intakeEncodesRow.veiled == (Tryz.f5.params.toList ++ Rows.intakeEncodesSpec.plain.varTypes Tryz.prog ++ Tryz.f5.resultTypes.toList).any (Tryz.prog.veiledRec ·)) = true := by kernel_rfl
theorem c32 : Rows.intakeEncodesRow.veiledFits Tryz.prog Tryz.f5.params.toList (Tryz.f5.params.toList ++ Rows.intakeEncodesSpec.plain.varTypes Tryz.prog ++ Tryz.f5.resultTypes.toList) = true := by kernel_rfl
theorem closed : joinedFacts Tryz.prog 5 Tryz.f5 Rows.intakeEncodesSpec Rows.intakeEncodesRow = true := by
  unfold joinedFacts
  exact and2 (and2 (and2 (and2 (and2 (and2 (and2 (and2 (and2 (and2 (and2 (and2 (and2 (and2 (and2 (and2 (and2 (and2 (and2 (and2 (and2 (and2 (and2 (and2 (and2 (and2 (and2 (and2 (and2 (and2 (and2 (c1) kLaidOut) kMaps) c4) c5) c6) kStops) c8) kKnobs) c10) c11) c12) c13) c14) c15) c16) c17) c18) c19) c20) c21) c22) c23) c24) kHeard) kMayEnter) c27) c28) c29) c30) c31) c32
end Go.Proofs.YtdekmeanlcpenaaGreatDoor.intakeEncodes

namespace Go.Proofs.YtdekmeanlcpenaaGreatDoor.Mid
open Go.RowKit Go.Proofs.YtdekmeanlcpenaaGreatDoorW.PrintWords

/-- These cells lie from address p on. -/
def At (w : World) (p : Addr) (cs : List Value) : Prop := ∀ j v, cs[j]? = some v → w.cell? (p.add j) = some v

section
variable {P : Program}
theorem At.mid {w : World} {b o : Nat} {cs : List Value} (h : w.rangeAt b o cs) : At w ⟨b, o, none⟩ cs := fun j v hv => by rw [Addr.add_mid]; exact h j v hv
theorem At.range {w : World} {b o : Nat} {cs : List Value} (h : At w ⟨b, o, none⟩ cs) : w.rangeAt b o cs := fun j v hv => by have := h j v hv; rwa [Addr.add_mid] at this
theorem At.part {w : World} {p : Addr} {cs : List Value} (h : At w p cs) (i m : Nat) : At w (p.add i) ((cs.drop i).take m) := fun j v hv => by
  rw [Addr.add_add]
  refine h _ v ?_
  rw [List.getElem?_take] at hv
  split at hv
  · rwa [List.getElem?_drop] at hv
  · cases hv
theorem At.move {w w1 : World} {p : Addr} {cs : List Value} (h : At w p cs) (hm : w1.heap[p.block]? = w.heap[p.block]?) : At w1 p cs := fun j v hv => by
  have h1 := h j v hv
  have hb : (p.add j).block = p.block := by unfold Addr.add; split <;> rfl
  rw [World.cell?, hb, hm, ← hb]
  exact h1
theorem At.lt {w : World} {p : Addr} {cs : List Value} (h : At w p cs) (hc : cs ≠ []) : p.block < w.heap.size := by
  obtain ⟨c, r, rfl⟩ := List.exists_cons_of_ne_nil hc
  have h1 := h 0 c rfl
  rcases Nat.lt_or_ge p.block w.heap.size with h2 | h2
  · exact h2
  · have hb : (p.add 0).block = p.block := by unfold Addr.add; split <;> rfl
    simp [World.cell?, hb, Array.getElem?_eq_none h2] at h1
theorem At.below {w w1 : World} {p : Addr} {cs : List Value} (h : At w p cs) (hb : Below w.heap.size w w1) : At w1 p cs := by
  by_cases hc : cs = []
  · subst hc; intro j v hv; simp at hv
  · exact h.move (hb.block _ (h.lt hc))

theorem run_loadVar_at (w : World) (p : Addr) (ty : TypeId) (cs : List Value) (d : TypeDesc) (hc : At w p cs) (hu : P.underlying ty = some d) (hd : d.isRow = true) (hi : (P.info? ty).map (·.size) = some cs.length) :
    (loadVar ty p).run P w = .ok (.agg cs.toArray) w := by
  have hl : (loadCells p cs.length).run P w = .ok cs.toArray w := run_loadCells_list (P := P) w p cs hc
  cases hq : P.info? ty with
  | none => simp [hq] at hi
  | some i =>
    have hs : i.size = cs.length := by simpa [hq] using hi
    have hagg : (isAgg ty).run P w = .ok true w := by
      unfold isAgg
      rw [Sem.run_bind, run_underlying hu w]
      cases d <;> simp_all
    simp [loadVar, Sem.run_bind, hagg, sizeOf, typeInfo, hq, hs, hl]
theorem run_load (w : World) (p : Addr) (ty : TypeId) (cs : List Value) (d : TypeDesc) (hc : At w p cs) (hu : P.underlying ty = some d) (hd : d.isRow = true) (hi : (P.info? ty).map (·.size) = some cs.length) :
    (Instr.loadAt ty (.pointer (some p))).run P w = .ok (.agg cs.toArray) w := by
  simp only [Instr.loadAt, Instr.sureAddr, Sem.run_bind, Sem.run_pure, Result.andThen_ok, run_loadVar_at w p ty cs d hc hu hd hi]
theorem wp_load {op : Oper} {a : Act} {w : World} {K : Act → World → Prop} {Q : Exit → Act → World → Prop} (ty : TypeId) (x : Operand) (ho : op.op = .load ty x)
    (p : Addr) (hx : a.eval x = .pointer (some p)) (cs : List Value) (d : TypeDesc) (hc : At w p cs)
    (hu : P.underlying ty = some d) (hd : d.isRow = true) (hi : (P.info? ty).map (·.size) = some cs.length)
    (h : K (a.put op.dst (.agg cs.toArray)) w) : op.wp P a w K Q := by
  unfold Oper.wp execOp
  simp only [ho, hx, Sem.run_bind, run_load w p ty cs d hc hu hd hi, Result.andThen_ok, Sem.run_pure]
  exact h
theorem wpList_load {ops : Array Oper} {rest : List Oper} {op : Oper} {a : Act} {w : World} {Q : Exit → Act → World → Prop} (hgd : op.guard = none) (ty : TypeId) (x : Operand) (ho : op.op = .load ty x)
    (p : Addr) (hx : a.eval x = .pointer (some p)) (cs : List Value) (d : TypeDesc) (hc : At w p cs)
    (hu : P.underlying ty = some d) (hd : d.isRow = true) (hi : (P.info? ty).map (·.size) = some cs.length)
    (h : wpList P ops Q rest (a.put op.dst (.agg cs.toArray)) w) : wpList P ops Q (op :: rest) a w :=
  wpList_plain hgd fun _ hK => wp_load ty x ho p hx cs d hc hu hd hi (hK _ _ h)
end

/-! ### Kinds of elements without memory of their own -/
def flat {α : Type} (sz : Nat) (R : α → List Value → Prop) (hl : ∀ {x cs}, R x cs → cs.length = sz) (h1 : ∀ {x cs}, R x cs → ∀ u ∈ cs, u.oneCell' = true) : Kd α where
  sz := sz
  E := []
  K := fun _ x cs => R x cs
  M := fun _ _ _ x cs => R x cs
  K_len := hl
  K_one := h1
  K_below := fun _ h => h
  K_of_M := fun h => h
  M_mono := fun _ h => h
  M_bound := fun h => h
  M_move := fun _ h => h
  M_lower := fun _ h => h

def Bs (x : List Int) : Prop := ∀ u ∈ x, 0 ≤ u ∧ u ≤ 255
def u8s (x : List Int) : List Value := x.map (Value.int .u8)
theorem u8s_length (x : List Int) : (u8s x).length = x.length := by simp [u8s]
theorem u8s_one {x : List Int} : ∀ v ∈ u8s x, v.oneCell' = true := by
  intro v hv
  obtain ⟨u, _, rfl⟩ := List.mem_map.1 hv
  rfl
theorem u8s_inj {x y : List Int} (h : u8s x = u8s y) : x = y := by
  refine List.map_inj_right (f := Value.int .u8) ?_ |>.1 h
  intro a b e
  injection e
/-- An id. -/
structure IdOk (x : List Int) : Prop where
  len : x.length = 32
  bytes : Bs x
def idv (x : List Int) : Value := .agg (u8s x).toArray
def idK : Kd (List Int) := flat 32 (fun x cs => IdOk x ∧ cs = u8s x) (fun h => by rw [h.2, u8s_length, h.1.len]) (fun h => by rw [h.2]; exact u8s_one)
/-- A result: its action, its root, its code. -/
structure Res where
  act : List Int
  root : List Int
  code : Int
instance : DecidableEq Res := fun a b =>
  if h : a.act = b.act ∧ a.root = b.root ∧ a.code = b.code then .isTrue (by cases a; cases b; obtain ⟨h1, h2, h3⟩ := h; simp only at h1 h2 h3; subst h1 h2 h3; rfl)
  else .isFalse (fun e => h (by subst e; exact ⟨rfl, rfl, rfl⟩))
structure ResOk (r : Res) : Prop where
  act : IdOk r.act
  root : IdOk r.root
  code : -9223372036854775808 ≤ r.code ∧ r.code ≤ 9223372036854775807
def resC (r : Res) : List Value := u8s r.act ++ (u8s r.root ++ [.int .i64 r.code])
def resv (r : Res) : Value := .agg (resC r).toArray
theorem resC_length {r : Res} (h : ResOk r) : (resC r).length = 65 := by simp [resC, u8s_length, h.act.len, h.root.len]
theorem resC_one {r : Res} : ∀ v ∈ resC r, v.oneCell' = true := by
  intro v hv
  simp only [resC, List.mem_append, List.mem_singleton] at hv
  rcases hv with hv | hv | rfl
  · exact u8s_one v hv
  · exact u8s_one v hv
  · rfl
def resK : Kd Res := flat 65 (fun r cs => ResOk r ∧ cs = resC r) (fun h => by rw [h.2, resC_length h.1]) (fun h => by rw [h.2]; exact resC_one)

section
variable {w : World} {A : Option Addr} {n : Nat}
/-- The id at a place of a slice. -/
theorem id_at {xs : List (List Int)} (h : idK.C w A n xs) (i : Nat) (hi : i < n) : ∃ ad x, A = some ad ∧ xs[i]? = some x ∧ IdOk x ∧ At w (ad.add (i * 32)) (u8s x) := by
  obtain ⟨ad, c, e, _, ⟨hk, rfl⟩, hc⟩ := Kd.C_get h ([] : List Int) (i : Int) (by omega) (by omega)
  have hl : i < xs.length := by have := h.1; omega
  have hx : xs[i]? = some (xs.getD ((i : Int).toNat) []) := by rw [Int.toNat_natCast, List.getD_eq_getElem?_getD, List.getElem?_eq_getElem hl]; rfl
  exact ⟨ad, _, e, hx, hk, fun j v hv => by rw [Addr.add_add]; exact hc j v hv⟩
/-- The result at a place of a slice. -/
theorem res_at {rs : List Res} (h : resK.C w A n rs) (i : Nat) (hi : i < n) : ∃ ad r, A = some ad ∧ rs[i]? = some r ∧ ResOk r ∧ At w (ad.add (i * 65)) (resC r) := by
  obtain ⟨ad, c, e, _, ⟨hk, rfl⟩, hc⟩ := Kd.C_get h (⟨[], [], 0⟩ : Res) (i : Int) (by omega) (by omega)
  have hl : i < rs.length := by have := h.1; omega
  have hx : rs[i]? = some (rs.getD ((i : Int).toNat) ⟨[], [], 0⟩) := by rw [Int.toNat_natCast, List.getD_eq_getElem?_getD, List.getElem?_eq_getElem hl]; rfl
  exact ⟨ad, _, e, hx, hk, fun j v hv => by rw [Addr.add_add]; exact hc j v hv⟩
end
/-- The parts of a result. -/
theorem res_act {w : World} {p : Addr} {r : Res} (h : At w p (resC r)) : At w p (u8s r.act) := by
  intro j v hv
  refine h j v ?_
  rw [resC, List.getElem?_append_left (by exact (List.getElem?_eq_some_iff.1 hv).1)]
  exact hv
theorem res_root {w : World} {p : Addr} {r : Res} (hr : ResOk r) (h : At w p (resC r)) : At w (p.add 32) (u8s r.root) := by
  intro j v hv
  rw [Addr.add_add]
  refine h _ v ?_
  have hl : j < (u8s r.root).length := (List.getElem?_eq_some_iff.1 hv).1
  have ha : (u8s r.act).length = 32 := by rw [u8s_length, hr.act.len]
  rw [resC, List.getElem?_append_right (by omega), ha, Nat.add_sub_cancel_left, List.getElem?_append_left hl]
  exact hv
theorem res_code {w : World} {p : Addr} {r : Res} (hr : ResOk r) (h : At w p (resC r)) : w.cell? (p.add 64) = some (.int .i64 r.code) := by
  refine h 64 _ ?_
  have ha : (u8s r.act).length = 32 := by rw [u8s_length, hr.act.len]
  have hb : (u8s r.root).length = 32 := by rw [u8s_length, hr.root.len]
  rw [resC, List.getElem?_append_right (by omega), ha, List.getElem?_append_right (by omega), hb]
  rfl

/-! ### '==' -/
theorem mapM_some {α β : Type} {f : α → Option β} {g : α → β} : ∀ l : List α, (∀ x ∈ l, f x = some (g x)) → l.mapM f = some (l.map g)
  | [], _ => rfl
  | a :: r, h => by
    rw [List.mapM_cons, h a (by simp), mapM_some r (fun x hx => h x (List.mem_cons_of_mem _ hx))]
    rfl
section
variable {P : Program}
theorem wf_u8' {n : Int} (h : 0 ≤ n ∧ n ≤ 255) : (Lit.int .u8 n).wf = true := by
  have h1 : IntKind.u8.min = 0 := rfl
  have h2 : IntKind.u8.max = 255 := rfl
  simp [Lit.wf, h1, h2]; omega
theorem keyLits_u8s {t e n d : Nat} (hu : P.underlying t = some (.array n e)) (he : P.underlying e = some (.int .u8)) (h1 : P.cellsOf e = 1) (hn : P.cellsOf t = n) {x : List Int} (hl : x.length = n) (hb : Bs x) :
    P.keyLits (d + 2) t (u8s x) = some (x.map (Lit.int .u8)) := by
  unfold Program.keyLits
  simp only [hu]
  rw [if_pos (by rw [u8s_length, hl, hn])]
  rw [mapM_some (g := fun i => [Lit.int .u8 (x.getD i 0)])]
  · simp only [Option.map_some, Option.some.injEq]
    rw [← List.flatMap_def]
    apply List.ext_getElem?
    intro i
    have hfl : ∀ (m : Nat), m ≤ n → ((List.range m).flatMap fun i => [Lit.int .u8 (x.getD i 0)]) = (x.take m).map (Lit.int .u8) := by
      intro m hm
      induction m with
      | zero => rfl
      | succ m ih =>
        rw [List.range_succ, List.flatMap_append, ih (by omega), List.take_add_one, List.map_append]
        have : x[m]? = some (x.getD m 0) := by rw [List.getD_eq_getElem?_getD, List.getElem?_eq_getElem (by omega)]; rfl
        rw [this]
        simp
    rw [hfl n (Nat.le_refl _), List.take_of_length_le (by omega)]
  · intro i hi
    have hi' : i < n := List.mem_range.1 hi
    have hxi : x[i]? = some (x.getD i 0) := by rw [List.getD_eq_getElem?_getD, List.getElem?_eq_getElem (by omega)]; rfl
    have hcell : ((u8s x).drop (i * P.cellsOf e)).take (P.cellsOf e) = [.int .u8 (x.getD i 0)] := by
      rw [h1, Nat.mul_one]
      have : (u8s x)[i]? = some (.int .u8 (x.getD i 0)) := by rw [u8s, List.getElem?_map, hxi]; rfl
      rw [List.drop_eq_getElem_cons (by rw [u8s_length]; omega)]
      rw [List.getElem?_eq_getElem (by rw [u8s_length]; omega)] at this
      rw [Option.some.inj this]
      rfl
    rw [hcell]
    unfold Program.keyLits
    simp only [he]
    have hwf := wf_u8' (hb _ (List.mem_of_getElem? hxi))
    rw [if_pos ⟨trivial, hwf⟩]
end
end Go.Proofs.YtdekmeanlcpenaaGreatDoor.Mid

namespace Go.Proofs.YtdekmeanlcpenaaGreatDoor.Mid

/-- How two ids stand. -/
def cmp : List Int → List Int → Int
  | x :: xs, y :: ys => if x < y then -1 else if y < x then 1 else cmp xs ys
  | _, _ => 0
theorem cmp_vals : ∀ x y, cmp x y = -1 ∨ cmp x y = 0 ∨ cmp x y = 1
  | [], y => by right; left; cases y <;> rfl
  | x :: xs, [] => by right; left; rfl
  | x :: xs, y :: ys => by
    rw [cmp]
    split
    · exact .inl rfl
    · split
      · exact .inr (.inr rfl)
      · exact cmp_vals xs ys
theorem cmp_self : ∀ x, cmp x x = 0
  | [] => rfl
  | x :: xs => by rw [cmp, if_neg (by omega), if_neg (by omega)]; exact cmp_self xs
theorem cmp_anti : ∀ x y, cmp y x = - cmp x y
  | [], y => by cases y <;> rfl
  | x :: xs, [] => rfl
  | x :: xs, y :: ys => by
    rw [cmp, cmp]
    by_cases h1 : x < y
    · rw [if_pos h1, if_neg (by omega), if_pos h1]; rfl
    · by_cases h2 : y < x
      · simp [h1, h2]
      · rw [if_neg h1, if_neg h2, if_neg h2, if_neg h1]; exact cmp_anti xs ys
theorem cmp_zero : ∀ {x y : List Int}, x.length = y.length → cmp x y = 0 → x = y
  | [], [], _, _ => rfl
  | x :: xs, y :: ys, hl, h => by
    rw [cmp] at h
    split at h
    · cases h
    · split at h
      · cases h
      · rw [cmp_zero (by simpa using hl) h, show x = y by omega]
theorem cmp_trans : ∀ {x y z : List Int}, x.length = y.length → y.length = z.length → cmp x y ≤ 0 → cmp y z ≤ 0 → cmp x z ≤ 0
  | [], [], [], _, _, _, _ => by decide
  | x :: xs, y :: ys, z :: zs, h1, h2, h3, h4 => by
    have ih := @cmp_trans xs ys zs (by simpa using h1) (by simpa using h2)
    rw [cmp] at h3 h4 ⊢
    split at h3
    · split at h4
      · rw [if_pos (by omega)]; decide
      · split at h4
        · exact absurd h4 (by decide)
        · rw [if_pos (by omega)]; decide
    · split at h3
      · exact absurd h3 (by decide)
      · split at h4
        · rw [if_pos (by omega)]; decide
        · split at h4
          · exact absurd h4 (by decide)
          · rw [if_neg (by omega), if_neg (by omega)]; exact ih h3 h4
theorem cmp_lt_trans {x y z : List Int} (h1 : x.length = y.length) (h2 : y.length = z.length) (h3 : cmp x y < 0) (h4 : cmp y z < 0) : cmp x z < 0 := by
  have h5 := cmp_trans h1 h2 (by omega) (by omega)
  by_cases h : cmp x z < 0
  · exact h
  · have h6 : cmp x z = 0 := by omega
    have := cmp_zero (h1.trans h2) h6
    subst this
    have := cmp_anti x y
    omega

/-- A table: at most 32 results, rising by their actions, each with a code from 0 to 255. -/
structure Table (rs : List Res) : Prop where
  most : rs.length ≤ 32
  code : ∀ r ∈ rs, 0 ≤ r.code ∧ r.code ≤ 255
  rise : ∀ (i : Nat) (r s : Res), rs[i]? = some r → rs[i + 1]? = some s → cmp r.act s.act < 0

theorem Table.lt {rs : List Res} (T : Table rs) (ok : ∀ r ∈ rs, ResOk r) : ∀ (d i : Nat) (r s : Res), rs[i]? = some r → rs[i + 1 + d]? = some s → cmp r.act s.act < 0
  | 0, i, r, s, hr, hs => T.rise i r s hr hs
  | d + 1, i, r, s, hr, hs => by
    have hl : i + 1 + d < rs.length := by have := (List.getElem?_eq_some_iff.1 hs).1; omega
    obtain ⟨q, hq⟩ : ∃ q, rs[i + 1 + d]? = some q := ⟨_, List.getElem?_eq_getElem hl⟩
    have h1 := Table.lt T ok d i r q hr hq
    have h2 := T.rise (i + 1 + d) q s hq hs
    have l1 := (ok r (List.mem_of_getElem? hr)).act.len
    have l2 := (ok q (List.mem_of_getElem? hq)).act.len
    have l3 := (ok s (List.mem_of_getElem? hs)).act.len
    exact cmp_lt_trans (by omega) (by omega) h1 h2
/-- A table has no action twice. -/
theorem Table.once {rs : List Res} (T : Table rs) (ok : ∀ r ∈ rs, ResOk r) {i j : Nat} {r s : Res} (hr : rs[i]? = some r) (hs : rs[j]? = some s) (he : r.act = s.act) : i = j := by
  rcases Nat.lt_trichotomy i j with h | h | h
  · have h1 := T.lt ok (j - (i + 1)) i r s hr (by rw [show i + 1 + (j - (i + 1)) = j by omega]; exact hs)
    rw [he, cmp_self] at h1; omega
  · exact h
  · have h1 := T.lt ok (i - (j + 1)) j s r hs (by rw [show j + 1 + (i - (j + 1)) = i by omega]; exact hr)
    rw [he, cmp_self] at h1; omega

/-- The results of these actions, in their order. -/
def pickS (rs : List Res) (qas : List (List Int)) : List Res := rs.filter fun r => qas.contains r.act
/-- An action that is asked for and is not there. -/
def Lacks (rs : List Res) (qas : List (List Int)) (a : List Int) : Prop := a ∈ qas ∧ ∀ r ∈ rs, r.act ≠ a
/-- The least of them. -/
def Least (p : List Int → Prop) (a : List Int) : Prop := p a ∧ ∀ b, p b → cmp a b ≤ 0
theorem Least.same {p : List Int → Prop} (hl : ∀ a, p a → a.length = 32) {a b : List Int} (h : Least p a) (h' : Least p b) : a = b := by
  have h1 := h.2 b h'.1
  have h2 := h'.2 a h.1
  rw [cmp_anti] at h2
  exact cmp_zero ((hl a h.1).trans (hl b h'.1).symm) (by omega)
/-- What Pick answers: the results, a number (0, 1, 96), an id. -/
structure Picked (rs : List Res) (qas : List (List Int)) (out : List Res) (e : Int) (id : List Int) : Prop where
  bad : ¬ Table rs → out = [] ∧ e = 1 ∧ id = List.replicate 32 0
  fine : Table rs → (∀ a, ¬ Lacks rs qas a) → out = pickS rs qas ∧ e = 0 ∧ id = List.replicate 32 0
  lacks : Table rs → (∃ a, Lacks rs qas a) → out = [] ∧ e = 96 ∧ Least (Lacks rs qas) id
theorem Picked.same {rs : List Res} {qas : List (List Int)} (ok : ∀ a ∈ qas, IdOk a) {o o' : List Res} {e e' : Int} {i i' : List Int} (h : Picked rs qas o e i) (h' : Picked rs qas o' e' i') : o = o' ∧ e = e' ∧ i = i' := by
  by_cases hT : Table rs
  · by_cases hL : ∃ a, Lacks rs qas a
    · obtain ⟨rfl, rfl, h1⟩ := h.lacks hT hL
      obtain ⟨rfl, rfl, h2⟩ := h'.lacks hT hL
      exact ⟨rfl, rfl, h1.same (fun a ha => (ok a ha.1).len) h2⟩
    · have hL' : ∀ a, ¬ Lacks rs qas a := fun a ha => hL ⟨a, ha⟩
      obtain ⟨rfl, rfl, rfl⟩ := h.fine hT hL'
      obtain ⟨rfl, rfl, rfl⟩ := h'.fine hT hL'
      exact ⟨rfl, rfl, rfl⟩
  · obtain ⟨rfl, rfl, rfl⟩ := h.bad hT
    obtain ⟨rfl, rfl, rfl⟩ := h'.bad hT
    exact ⟨rfl, rfl, rfl⟩
end Go.Proofs.YtdekmeanlcpenaaGreatDoor.Mid

namespace Go.Proofs.YtdekmeanlcpenaaGreatDoor.Mid
open Go.RowKit Go.Proofs.YtdekmeanlcpenaaGreatDoorW.PrintWords

/-! ### A whole array in a new block -/
theorem At.new (w : World) (cs : List Value) (t : TypeId) : At (w.alloc (.cells cs.toArray t)) ⟨w.heap.size, 0, none⟩ cs := fun j v hv => by
  rw [Addr.add_mid, Nat.zero_add]
  have h : (w.alloc (.cells cs.toArray t)).heap[w.heap.size]? = some (.cells cs.toArray t (0, 0)) := heap_alloc_new w _
  rw [blk_cell h]
  simpa using hv
theorem setCells_new (w : World) (t : TypeId) : ∀ (cs pre zs : List Value), zs.length = cs.length → (w.alloc (.cells (pre ++ zs).toArray t)).setCells w.heap.size pre.length cs = w.alloc (.cells (pre ++ cs).toArray t)
  | [], pre, zs, h => by
    have : zs = [] := List.length_eq_zero_iff.1 (by simpa using h)
    subst this
    rfl
  | c :: cs, pre, [], h => by simp at h
  | c :: cs, pre, z :: zs, h => by
    have h1 : (w.alloc (.cells (pre ++ z :: zs).toArray t)).setCell ⟨w.heap.size, pre.length, none⟩ c = w.alloc (.cells ((pre ++ [c]) ++ zs).toArray t) := by
      rw [World.setCell_alloc_new]
      congr 2
      simp
    rw [World.setCells, h1]
    have ih := setCells_new w t cs (pre ++ [c]) zs (by simpa using h)
    rw [List.length_append, List.length_singleton] at ih
    rw [ih, List.append_assoc]
    rfl
section
variable {P : Program} {ops : Array Oper} {rest : List Oper} {op : Oper} {a : Act} {w : World} {Q : Exit → Act → World → Prop} {K : Act → World → Prop}
/-- A whole new variable is stored. -/
theorem wp_store_new (ty : TypeId) (x y : Operand) (ho : op.op = .store ty x y) (zs : Array Value) (cs : List Value) (hx : a.eval x = .pointer (some ⟨w.heap.size, 0, none⟩)) (hy : a.eval y = .agg cs.toArray)
    (hl : zs.size = cs.length) (hi : (P.info? ty).map (·.size) = some cs.length) (h1 : ∀ v ∈ cs, v.oneCell' = true)
    (h : K (a.put op.dst undef) (w.alloc (.cells cs.toArray ty))) : op.wp P a (w.alloc (.cells zs ty)) K Q := by
  have hh : (w.alloc (.cells zs ty)).heap[w.heap.size]? = some (.cells zs ty (0, 0)) := heap_alloc_new w _
  refine wp_store_mid ty x y ho w.heap.size 0 cs.toArray hx hy ?_ (by simpa using hi) (all_oneCell_toArray h1) ?_
  · intro j hj
    have hj2 : j < cs.length := by simpa using hj
    have hj' : j < zs.size := by omega
    refine ⟨?_, blk_frozen hh _⟩
    rw [blk_cell hh]
    simp [hj']
  · have := setCells_new w ty cs [] zs.toList (by simpa using hl)
    simp only [List.nil_append, List.length_nil, Array.toArray_toList] at this
    show K _ ((w.alloc (.cells zs ty)).setCells w.heap.size 0 cs)
    rw [this]
    exact h
theorem wpList_store_new (hgd : op.guard = none) (ty : TypeId) (x y : Operand) (ho : op.op = .store ty x y) (zs : Array Value) (cs : List Value) (hx : a.eval x = .pointer (some ⟨w.heap.size, 0, none⟩)) (hy : a.eval y = .agg cs.toArray)
    (hl : zs.size = cs.length) (hi : (P.info? ty).map (·.size) = some cs.length) (h1 : ∀ v ∈ cs, v.oneCell' = true)
    (h : wpList P ops Q rest (a.put op.dst undef) (w.alloc (.cells cs.toArray ty))) : wpList P ops Q (op :: rest) a (w.alloc (.cells zs ty)) :=
  wpList_plain hgd fun _ hK => wp_store_new ty x y ho zs cs hx hy hl hi h1 (hK _ _ h)
end

/-! ### bytes.Compare -/
theorem compare_cmp : ∀ {x y : List Int}, x.length = y.length → Bs x → Bs y → Lib.compareBytes (Lib.bytesOf x) (Lib.bytesOf y) = cmp x y
  | [], [], _, _, _ => rfl
  | a :: x, b :: y, hl, hx, hy => by
    have ha := hx a (by simp)
    have hb := hy b (by simp)
    have ih := compare_cmp (x := x) (y := y) (by simpa using hl) (fun u hu => hx u (by simp [hu])) (fun u hu => hy u (by simp [hu]))
    have e : ∀ n : Int, 0 ≤ n ∧ n ≤ 255 → (n.toNat.toUInt8).toNat = n.toNat := fun n hn => by
      have : n.toNat < 256 := by omega
      simp [Nat.toUInt8, Nat.mod_eq_of_lt this]
    have h1 : (a.toNat.toUInt8 < b.toNat.toUInt8) ↔ a < b := by
      rw [UInt8.lt_iff_toNat_lt, e a ha, e b hb]; omega
    have h2 : (b.toNat.toUInt8 < a.toNat.toUInt8) ↔ b < a := by
      rw [UInt8.lt_iff_toNat_lt, e a ha, e b hb]; omega
    show (if a.toNat.toUInt8 < b.toNat.toUInt8 then (-1 : Int) else if b.toNat.toUInt8 < a.toNat.toUInt8 then 1 else Lib.compareBytes (Lib.bytesOf x) (Lib.bytesOf y)) = _
    rw [cmp, ih]
    simp only [h1, h2]
theorem run_compare {P : Program} (w : World) (p q : Addr) (c d : Nat) (x y : List Int) (hx : At w p (u8s x)) (hy : At w q (u8s y)) (hl : x.length = y.length) (bx : Bs x) (by_ : Bs y) :
    (Extern.BytealgCompare.compare #[.slice (some p) x.length c, .slice (some q) y.length d]).run P w = .ok (.int .i64 (cmp x y)) w := by
  have cells : ∀ {z : List Int} {r : Addr}, At w r (u8s z) → ∀ j u, z[j]? = some u → w.cell? (r.add j) = some (.int .u8 u) := fun h j u hu => h j _ (by rw [u8s, List.getElem?_map, hu]; rfl)
  have h1 := Lib.run_loadBytesX (P := P) w x p .empty (cells hx)
  have h2 := Lib.run_loadBytesX (P := P) w y q .empty (cells hy)
  have he : ∀ l : List UInt8, (⟨ByteArray.empty.data ++ l.toArray⟩ : ByteArray) = ⟨l.toArray⟩ := fun l => by
    apply ByteArray.ext
    show (#[] : Array UInt8) ++ l.toArray = l.toArray
    simp
  rw [he] at h1 h2
  change Sem.run P (do pure (goInt (Extern.BytealgCompare.cmp (← Extern.Bytes.bytesOf (.slice (some p) x.length c)) (← Extern.Bytes.bytesOf (.slice (some q) y.length d))))) w = _
  simp only [Extern.Bytes.bytesOf, Sem.run_bind, Sem.run_pure, h1, h2, Result.andThen]
  rw [Lib.cmp_eq]
  simp only [compare_cmp hl bx by_]
  rfl

theorem bytes_compare (w : World) (p q : Addr) (x y : List Int) (hx : At w p (u8s x)) (hy : At w q (u8s y)) (lx : IdOk x) (ly : IdOk y) :
    Calls Tryz.prog 119 #[.slice (some p) 32 32, .slice (some q) 32 32] w fun e w' => e = .returned (.int .i64 (cmp x y)) ∧ w' = w := by
  have h := run_compare (P := Tryz.prog) w p q 32 32 x y hx hy (lx.len.trans ly.len.symm) lx.bytes ly.bytes
  rw [lx.len, ly.len] at h
  have h133 := @run_callFunc_extern Tryz.prog 151 _ Extern.BytealgCompare.compare Tryz.func151 (by kernel_rfl) (by kernel_rfl) (by kernel_rfl) (by kernel_rfl)
  go_enter Tryz.func119, Tryz.ntmps119
  go_wp2
  go_ret
  exact ⟨rfl, rfl⟩
theorem info29 : (Tryz.prog.info? 29).map (·.size) = some 32 := by kernel_rfl
theorem info33 : (Tryz.prog.info? 33).map (·.size) = some 65 := by kernel_rfl

/-- digest.Compare. -/
theorem digest_compare (w : World) (x y : List Int) (lx : IdOk x) (ly : IdOk y) :
    Calls Tryz.prog 75 #[idv x, idv y] w fun e w' => e = .returned (.int .i64 (cmp x y)) ∧ Below w.heap.size w w' := by
  have h1 : At ((w.alloc (.cells (u8s x).toArray 29)).alloc (.cells (u8s y).toArray 29)).drew ⟨w.heap.size, 0, none⟩ (u8s x) :=
    (((At.new w (u8s x) 29).below (below_alloc (Below.refl _ _) _)).move rfl)
  have h2 : At ((w.alloc (.cells (u8s x).toArray 29)).alloc (.cells (u8s y).toArray 29)).drew ⟨w.heap.size + 1, 0, none⟩ (u8s y) := by
    have := (At.new (w.alloc (.cells (u8s x).toArray 29)) (u8s y) 29)
    have e : (w.alloc (.cells (u8s x).toArray 29)).heap.size = w.heap.size + 1 := by simp
    rw [e] at this
    exact this.move rfl
  unfold idv
  go_enter Tryz.func75, Tryz.ntmps75
  go_wp2
  go_region_with (go_at_call 119; refine (bytes_compare _ _ _ x y ?_ ?_ lx ly).mono ?_; exact h1; exact h2; rintro e w' ⟨rfl, rfl⟩)
  all_goals (try go_wp2)
  all_goals (go_ret; exact ⟨rfl, (below_alloc (below_alloc (Below.refl _ _) _) _).drew⟩)
end Go.Proofs.YtdekmeanlcpenaaGreatDoor.Mid

namespace Go.Proofs.YtdekmeanlcpenaaGreatDoor.Mid
open Go.RowKit Go.Proofs.YtdekmeanlcpenaaGreatDoorW.PrintWords

theorem below_true (w : World) (x y : List Int) (lx : IdOk x) (ly : IdOk y) :
    Calls Tryz.prog 74 #[idv x, idv y] w fun e w' => e = .returned (.bool (decide (cmp x y < 0))) ∧ Below w.heap.size w w' := by
  have h1 : At ((w.alloc (.cells (u8s x).toArray 29)).alloc (.cells (u8s y).toArray 29)).drew ⟨w.heap.size, 0, none⟩ (u8s x) :=
    (((At.new w (u8s x) 29).below (below_alloc (Below.refl _ _) _)).move rfl)
  have h2 : At ((w.alloc (.cells (u8s x).toArray 29)).alloc (.cells (u8s y).toArray 29)).drew ⟨w.heap.size + 1, 0, none⟩ (u8s y) := by
    have := (At.new (w.alloc (.cells (u8s x).toArray 29)) (u8s y) 29)
    have e : (w.alloc (.cells (u8s x).toArray 29)).heap.size = w.heap.size + 1 := by simp
    rw [e] at this
    exact this.move rfl
  unfold idv
  go_enter Tryz.func74, Tryz.ntmps74
  go_wp2
  go_region_with (go_at_call 119; refine (bytes_compare _ _ _ x y ?_ ?_ lx ly).mono ?_; exact h1; exact h2; rintro e w' ⟨rfl, rfl⟩)
  all_goals (try go_wp2)
  all_goals (go_ret; exact ⟨rfl, (below_alloc (below_alloc (Below.refl _ _) _) _).drew⟩)

theorem fits_any (w : World) (r : Res) (hr : ResOk r) : Calls Tryz.prog 73 #[resv r] w fun e w' => e = .returned (.bool (decide (0 ≤ r.code) && decide (r.code ≤ 255))) ∧ Below w.heap.size w w' := by
  have h1 : (w.alloc (.cells (resC r).toArray 33)).cell? ⟨w.heap.size, 64, none⟩ = some (.int .i64 r.code) := by
    have := res_code hr (At.new w (resC r) 33)
    rwa [Addr.add_mid] at this
  unfold resv
  by_cases hc : 0 ≤ r.code
  · go_enter Tryz.func73, Tryz.ntmps73
    go_wp2
    go_ret
    exact ⟨by simp [hc], below_alloc (Below.refl _ _) _⟩
  · have hd : decide (0 ≤ r.code) = false := by simpa using hc
    clear hc
    go_enter Tryz.func73, Tryz.ntmps73
    go_wp2
    go_ret
    exact ⟨by simp [hd], below_alloc (Below.refl _ _) _⟩

/-- Behind i bytes that are alike. -/
def Alk (x y : List Int) (i : Nat) : Prop := cmp x y = cmp (x.drop i) (y.drop i)
theorem alk_step {x y : List Int} {i : Nat} {a b : Int} (h : Alk x y i) (ha : x[i]? = some a) (hb : y[i]? = some b) (hn1 : ¬ a < b) (hn2 : ¬ b < a) : Alk x y (i + 1) := by
  unfold Alk at h ⊢
  have la := (List.getElem?_eq_some_iff.1 ha)
  have lb := (List.getElem?_eq_some_iff.1 hb)
  rw [h, List.drop_eq_getElem_cons la.1, List.drop_eq_getElem_cons lb.1, la.2, lb.2, cmp, if_neg hn1, if_neg hn2]
theorem alk_lt {x y : List Int} {i : Nat} {a b : Int} (h : Alk x y i) (ha : x[i]? = some a) (hb : y[i]? = some b) (hn1 : a < b) : cmp x y = -1 := by
  unfold Alk at h
  have la := (List.getElem?_eq_some_iff.1 ha)
  have lb := (List.getElem?_eq_some_iff.1 hb)
  rw [h, List.drop_eq_getElem_cons la.1, List.drop_eq_getElem_cons lb.1, la.2, lb.2, cmp, if_pos hn1]
theorem alk_gt {x y : List Int} {i : Nat} {a b : Int} (h : Alk x y i) (ha : x[i]? = some a) (hb : y[i]? = some b) (hn2 : b < a) : cmp x y = 1 := by
  unfold Alk at h
  have la := (List.getElem?_eq_some_iff.1 ha)
  have lb := (List.getElem?_eq_some_iff.1 hb)
  rw [h, List.drop_eq_getElem_cons la.1, List.drop_eq_getElem_cons lb.1, la.2, lb.2, cmp, if_neg (by omega), if_pos hn2]
theorem alk_end {x y : List Int} {i : Nat} (h : Alk x y i) (hx : x.length ≤ i) : cmp x y = 0 := by
  unfold Alk at h
  rw [h, List.drop_of_length_le hx]
  cases y.drop i <;> rfl
theorem At.u8 {w : World} {p : Addr} {x : List Int} (h : At w p (u8s x)) {i : Nat} {a : Int} (ha : x[i]? = some a) : w.cell? (p.add i) = some (.int .u8 a) := h i _ (by rw [u8s, List.getElem?_map, ha]; rfl)

set_option maxHeartbeats 1000000 in
theorem order_any (w : World) (x y : List Int) (lx : IdOk x) (ly : IdOk y) :
    Calls Tryz.prog 72 #[idv x, idv y] w fun e w' => e = .returned (.int .i64 (cmp x y)) ∧ Below w.heap.size w w' := by
  obtain ⟨W, hW⟩ : ∃ W, W = (w.alloc (.cells (u8s x).toArray 29)).alloc (.cells (u8s y).toArray 29) := ⟨_, rfl⟩
  have h1 : At W ⟨w.heap.size, 0, none⟩ (u8s x) := hW ▸ ((At.new w (u8s x) 29).below (below_alloc (Below.refl _ _) _))
  have h2 : At W ⟨w.heap.size + 1, 0, none⟩ (u8s y) := by
    have := (At.new (w.alloc (.cells (u8s x).toArray 29)) (u8s y) 29)
    have e : (w.alloc (.cells (u8s x).toArray 29)).heap.size = w.heap.size + 1 := by simp
    rw [e] at this
    exact hW ▸ this
  have HB : Aside0 (Below w.heap.size w W) := ⟨hW ▸ (below_alloc (below_alloc (Below.refl _ _) _) _)⟩
  have H1 := Aside0.mk h1
  have H2 := Aside0.mk h2
  have HX := Aside0.mk lx
  have HY := Aside0.mk ly
  have HW := Aside0.mk hW
  clear h1 h2 hW lx ly
  unfold idv
  go_enter Tryz.func72, Tryz.ntmps72
  go_wp2
  rw [← HW.out]
  go_loopg [5] 32 (fun k v5 w' => ∃ i : Nat, v5 = .int .i64 i ∧ i + k = 32 ∧ Aside0 (Alk x y i) ∧ Aside0 (Drawn0 W w'))
  case atStart => exact ⟨0, rfl, rfl, ⟨rfl⟩, ⟨Drawn0.refl _⟩⟩
  case round =>
    obtain ⟨i, rfl, hik, HA, HD⟩ := hrel
    cases gk with
    | zero =>
      have hd : decide ((i : Int) < 32) = false := by simp; omega
      have hi : Aside0 (i = 32) := ⟨by omega⟩
      clear hik
      go_wp2
      go_ret
      exact ⟨by rw [alk_end HA.out (by rw [HX.out.len, hi.out]; exact Nat.le_refl _)]; rfl, HB.out.trans ((HD.out.below).mono HB.out.size)⟩
    | succ k =>
      have hi : i < 32 := by omega
      have hi1 : (i : Int) < 32 := by omega
      obtain ⟨a, ha⟩ : ∃ a, x[i]? = some a := ⟨_, List.getElem?_eq_getElem (by rw [HX.out.len]; exact hi)⟩
      obtain ⟨b, hb⟩ : ∃ b, y[i]? = some b := ⟨_, List.getElem?_eq_getElem (by rw [HY.out.len]; exact hi)⟩
      have c1 := (H1.out.below HD.out.below).u8 ha
      have c2 := (H2.out.below HD.out.below).u8 hb
      rw [Addr.add_mid, Nat.zero_add] at c1 c2
      have HA1 := Aside0.mk ha
      have HB1 := Aside0.mk hb
      clear ha hb
      by_cases hlt : a < b
      · go_wp2
        go_quiet (fail)
        go_wp2
        go_ret
        exact ⟨by rw [alk_lt HA.out HA1.out HB1.out hlt]; rfl, HB.out.trans (((HD.out.step _).below).mono HB.out.size)⟩
      · have d1 : decide (a < b) = false := by simpa using hlt
        by_cases hgt : b < a
        · go_wp2
          go_quiet (fail)
          go_wp2
          go_quiet (fail)
          go_wp2
          go_ret
          exact ⟨by rw [alk_gt HA.out HA1.out HB1.out hgt]; rfl, HB.out.trans ((((HD.out.step _).step _).below).mono HB.out.size)⟩
        · have d2 : decide (b < a) = false := by simpa using hgt
          go_wp2
          go_quiet (fail)
          go_wp2
          go_quiet (fail)
          go_wp2
          go_roundg k
          case measure => omega
          case rel => exact ⟨i + 1, by go_num, by omega, ⟨alk_step HA.out HA1.out HB1.out (by omega) (by omega)⟩, ⟨HD.out.step _⟩⟩
set_option maxHeartbeats 1000000 in
theorem compare_any (w : World) (x y : List Int) (lx : IdOk x) (ly : IdOk y) :
    Calls Tryz.prog 30 #[idv x, idv y] w fun e w' => e = .returned (.int .i64 (cmp x y)) ∧ Below w.heap.size w w' := by
  obtain ⟨W, hW⟩ : ∃ W, W = (w.alloc (.cells (u8s x).toArray 29)).alloc (.cells (u8s y).toArray 29) := ⟨_, rfl⟩
  have h1 : At W ⟨w.heap.size, 0, none⟩ (u8s x) := hW ▸ ((At.new w (u8s x) 29).below (below_alloc (Below.refl _ _) _))
  have h2 : At W ⟨w.heap.size + 1, 0, none⟩ (u8s y) := by
    have := (At.new (w.alloc (.cells (u8s x).toArray 29)) (u8s y) 29)
    have e : (w.alloc (.cells (u8s x).toArray 29)).heap.size = w.heap.size + 1 := by simp
    rw [e] at this
    exact hW ▸ this
  have HB : Aside0 (Below w.heap.size w W) := ⟨hW ▸ (below_alloc (below_alloc (Below.refl _ _) _) _)⟩
  have H1 := Aside0.mk h1
  have H2 := Aside0.mk h2
  have HX := Aside0.mk lx
  have HY := Aside0.mk ly
  have HW := Aside0.mk hW
  clear h1 h2 hW lx ly
  unfold idv
  go_enter Tryz.func30, Tryz.ntmps30
  go_wp2
  rw [← HW.out]
  go_loopg [5] 32 (fun k v5 w' => ∃ i : Nat, v5 = .int .i64 i ∧ i + k = 32 ∧ Aside0 (Alk x y i) ∧ Aside0 (Drawn0 W w'))
  case atStart => exact ⟨0, rfl, rfl, ⟨rfl⟩, ⟨Drawn0.refl _⟩⟩
  case round =>
    obtain ⟨i, rfl, hik, HA, HD⟩ := hrel
    cases gk with
    | zero =>
      have hd : decide ((i : Int) < 32) = false := by simp; omega
      have hi : Aside0 (i = 32) := ⟨by omega⟩
      clear hik
      go_wp2
      go_ret
      exact ⟨by rw [alk_end HA.out (by rw [HX.out.len, hi.out]; exact Nat.le_refl _)]; rfl, HB.out.trans ((HD.out.below).mono HB.out.size)⟩
    | succ k =>
      have hi : i < 32 := by omega
      have hi1 : (i : Int) < 32 := by omega
      obtain ⟨a, ha⟩ : ∃ a, x[i]? = some a := ⟨_, List.getElem?_eq_getElem (by rw [HX.out.len]; exact hi)⟩
      obtain ⟨b, hb⟩ : ∃ b, y[i]? = some b := ⟨_, List.getElem?_eq_getElem (by rw [HY.out.len]; exact hi)⟩
      have c1 := (H1.out.below HD.out.below).u8 ha
      have c2 := (H2.out.below HD.out.below).u8 hb
      rw [Addr.add_mid, Nat.zero_add] at c1 c2
      have HA1 := Aside0.mk ha
      have HB1 := Aside0.mk hb
      clear ha hb
      by_cases hlt : a < b
      · go_wp2
        go_quiet (fail)
        go_wp2
        go_ret
        exact ⟨by rw [alk_lt HA.out HA1.out HB1.out hlt]; rfl, HB.out.trans (((HD.out.step _).below).mono HB.out.size)⟩
      · have d1 : decide (a < b) = false := by simpa using hlt
        by_cases hgt : b < a
        · go_wp2
          go_quiet (fail)
          go_wp2
          go_quiet (fail)
          go_wp2
          go_ret
          exact ⟨by rw [alk_gt HA.out HA1.out HB1.out hgt]; rfl, HB.out.trans ((((HD.out.step _).step _).below).mono HB.out.size)⟩
        · have d2 : decide (b < a) = false := by simpa using hgt
          go_wp2
          go_quiet (fail)
          go_wp2
          go_quiet (fail)
          go_wp2
          go_roundg k
          case measure => omega
          case rel => exact ⟨i + 1, by go_num, by omega, ⟨alk_step HA.out HA1.out HB1.out (by omega) (by omega)⟩, ⟨HD.out.step _⟩⟩
end Go.Proofs.YtdekmeanlcpenaaGreatDoor.Mid
