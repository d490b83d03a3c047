import Derived.Test.YtdekmeanlcpenaaGreatDoorProg
import Derived.WalkKit
import Derived.LaidEql
import Derived.Stop.Asserts
import Derived.RowKitTokens
import Derived.Test.YtdekmeanlcpenaaGreatDoorWWords
import Derived.Test.YtdekmeanlcpenaaGreatDoorTie
import Derived.Test.YtdekmeanlcpenaaGreatDoorCards
import Derived.ProofKit
import Derived.OpenShut
import Derived.ShutString
import Derived.ChangeOld
import Derived.Below
import Derived.SizedLaws
import Derived.LaidMore
import Derived.LaidHandle
import Derived.Lay
import Derived.SevenTiedAt
import Derived.Stop.Joined
import Derived.Conc.Holds
import Derived.Test.YtdekmeanlcpenaaGreatDoorWSized
import Derived.Deep.Draws
import Derived.Deep.AppendLies
import Derived.Maps.AppendAt
import Derived.OwnWalk
import Derived.Laws.BytesArg
import Derived.Laws.MakeOwn
import Derived.Laws.OwnMore
import Derived.Deep.OwnRows
import Derived.Tactics
import Derived.Lib.ConvBytes
import Derived.Laws.Slices
import Derived.KernelRfl
import Derived.RowKit3
import Derived.Deep.LoopGhost
import Derived.Deep.QuietTactic
import Derived.BigQuiet
import Derived.WideLaws
import Derived.Deep.DeepCutAuto
import Derived.Deep.CutBlock
import Derived.Deep.RegionHeld3
import Derived.Laws.Rows
import Derived.Lib.AppendStr
import Derived.ArgAppend
import Derived.Laws.IdiomCopy
import Derived.OrdersHeld
import Derived.Laws.BitsLemmas
import Derived.RowKit
import Derived.Test.YtdekmeanlcpenaaGreatDoorWLast
import Derived.Test.YtdekmeanlcpenaaGreatDoorWQPut
import Derived.Test.YtdekmeanlcpenaaGreatDoorWApart
import Derived.Test.YtdekmeanlcpenaaGreatDoorWArr
import Derived.Test.YtdekmeanlcpenaaGreatDoorWZeros
import Derived.Test.YtdekmeanlcpenaaGreatDoorWFoot
import Derived.Test.YtdekmeanlcpenaaGreatDoorWKept
import Derived.Test.YtdekmeanlcpenaaGreatDoorWShare
import Derived.Test.YtdekmeanlcpenaaGreatDoorWN
import Derived.Test.YtdekmeanlcpenaaGreatDoorWFootNe
import Derived.Test.YtdekmeanlcpenaaGreatDoorWAt
import Derived.Test.YtdekmeanlcpenaaGreatDoorWNEv
import Derived.Test.YtdekmeanlcpenaaGreatDoorWMore
set_option linter.unusedSimpArgs false
set_option linter.unusedVariables false
namespace Go.Proofs.YtdekmeanlcpenaaGreatDoor.Closed
end Go.Proofs.YtdekmeanlcpenaaGreatDoor.Closed
namespace Go.Proofs.YtdekmeanlcpenaaGreatDoor.Err
end Go.Proofs.YtdekmeanlcpenaaGreatDoor.Err
namespace Go.Proofs.YtdekmeanlcpenaaGreatDoor.Err
open Go.RowKit Go.Extern.Stop Go.Stop Go.Extern

theorem valueOf110 (t : Addr) (w : World) : (ReflectliteValue.unpack (.iface 142 (.pointer (some t)))).run Tryz.prog w
    = .ok (.agg #[.pointer (some ⟨4, 142, none⟩), .pointer (some ⟨w.heap.size, 0, none⟩), .int .u64 150]) (w.alloc (.cells #[.pointer (some t)] 142)) := by kernel_rfl
theorem valueOf67 (n : Int) (w : World) : (ReflectliteValue.unpack (.iface 80 (.int .i64 n))).run Tryz.prog w
    = .ok (.agg #[.pointer (some ⟨4, 80, none⟩), .pointer (some ⟨w.heap.size, 0, none⟩), .int .u64 130]) (w.alloc (.cells #[.int .i64 n] 80)) := by kernel_rfl
theorem type110 (a : Addr) (w : World) : (ReflectliteValue.methodAny (ReflectliteValue.valueError "reflectlite.Value.Type" 0) (fun t _ _ _ => ReflectliteType.toType t) #[.agg #[.pointer (some ⟨4, 142, none⟩), .pointer (some a), .int .u64 150]]).run Tryz.prog w
    = .ok (.iface 211 (.agg #[.pointer (some ⟨4, 142, none⟩)])) w := by kernel_rfl
theorem methodKind (h : Value) (w : World) : (Go.method 583 211 (.agg #[h]) "Kind").run Tryz.prog w = .ok (347, h) w := by kernel_rfl
theorem kind110 (w : World) : ((ReflectliteType.abiMethod fun t => (fun a : Nat => Value.int IntKind.u8 (a : Int)) <$> Rtype.kind t) #[.pointer (some ⟨4, 142, none⟩)]).run Tryz.prog w = .ok (.int .u8 22) w := by kernel_rfl
theorem kind67 (w : World) : ((ReflectliteType.abiMethod fun t => (fun a : Nat => Value.int IntKind.u8 (a : Int)) <$> Rtype.kind t) #[.pointer (some ⟨4, 80, none⟩)]).run Tryz.prog w = .ok (.int .u8 2) w := by kernel_rfl
theorem rlm (z : Sem Value) (f : TypeId → Addr → Nat → Nat → Sem Value) (v : Value) :
    ReflectliteValue.method z f #[v] = (do match ← ReflectliteValue.parts v with | none => z | some (t, a, fl) => f t a fl (fl % 32)) := rfl
theorem parts110 (a : Addr) (w : World) : (ReflectliteValue.parts (.agg #[.pointer (some ⟨4, 142, none⟩), .pointer (some a), .int .u64 150])).run Tryz.prog w = .ok (some (142, a, 150)) w := by kernel_rfl
theorem isNil110 (a p : Addr) (W : World) (ha : W.cell? a = some (.pointer (some p))) :
    (ReflectliteValue.method (ReflectliteValue.valueError "reflectlite.Value.IsNil" 0) ReflectliteValue.isNil #[.agg #[.pointer (some ⟨4, 142, none⟩), .pointer (some a), .int .u64 150]]).run Tryz.prog W = .ok (.bool false) W := by
  rw [rlm]
  simp only [Sem.run_bind, parts110, Result.andThen]
  simp [ReflectliteValue.isNil, loadVar, isAgg, underlying, Tryz.underlying142, ha, Result.andThen]
theorem methodElem (h : Value) (w : World) : (Go.method 583 211 (.agg #[h]) "Elem").run Tryz.prog w = .ok (360, .agg #[h]) w := by kernel_rfl
theorem methodImplements (h : Value) (w : World) : (Go.method 583 211 (.agg #[h]) "Implements").run Tryz.prog w = .ok (361, .agg #[h]) w := by kernel_rfl
theorem methodAssignableTo (h : Value) (w : World) : (Go.method 583 211 (.agg #[h]) "AssignableTo").run Tryz.prog w = .ok (358, .agg #[h]) w := by kernel_rfl
theorem methodUnwrap (h : Value) (w : World) : (Go.method 583 79 h "Unwrap").run Tryz.prog w = .ok (352, h) w := by kernel_rfl
theorem elem110 (w : World) : (ReflectliteType.method ReflectliteType.elem #[.agg #[.pointer (some ⟨4, 142, none⟩)]]).run Tryz.prog w = .ok (.iface 211 (.agg #[.pointer (some ⟨4, 80, none⟩)])) w := by kernel_rfl
theorem implements67 (w : World) : (ReflectliteType.relation "Implements" ReflectliteType.implements_ #[.agg #[.pointer (some ⟨4, 80, none⟩)], .iface 211 (.agg #[.pointer (some ⟨4, 35, none⟩)])]).run Tryz.prog w = .ok (.bool true) w := by kernel_rfl
theorem typeOf66 (v : Value) (w : World) : (ReflectliteType.typeOf #[.iface 79 v]).run Tryz.prog w = .ok (.iface 211 (.agg #[.pointer (some ⟨4, 79, none⟩)])) w := by kernel_rfl
theorem typeOf67 (v : Value) (w : World) : (ReflectliteType.typeOf #[.iface 80 v]).run Tryz.prog w = .ok (.iface 211 (.agg #[.pointer (some ⟨4, 80, none⟩)])) w := by kernel_rfl
theorem assignable6667 (w : World) : (ReflectliteType.relation "AssignableTo" ReflectliteType.assignableTo #[.agg #[.pointer (some ⟨4, 79, none⟩)], .iface 211 (.agg #[.pointer (some ⟨4, 80, none⟩)])]).run Tryz.prog w = .ok (.bool false) w := by kernel_rfl
theorem assignable6767 (w : World) : (ReflectliteType.relation "AssignableTo" ReflectliteType.assignableTo #[.agg #[.pointer (some ⟨4, 80, none⟩)], .iface 211 (.agg #[.pointer (some ⟨4, 80, none⟩)])]).run Tryz.prog w = .ok (.bool true) w := by kernel_rfl
theorem elemOf110 (w : World) : (Rtype.elem? 142).run Tryz.prog w = .ok (some 80) w := by kernel_rfl
theorem mk67 (p : Addr) (w : World) : (ReflectliteValue.mk 80 p ReflectliteValue.flagAddr).run Tryz.prog w = .ok (.agg #[.pointer (some ⟨4, 80, none⟩), .pointer (some p), .int .u64 386]) w := by kernel_rfl
theorem elemV110 (a p : Addr) (W : World) (ha : W.cell? a = some (.pointer (some p))) :
    (ReflectliteValue.method (ReflectliteValue.valueError "reflectlite.Value.Elem" 0) ReflectliteValue.elem #[.agg #[.pointer (some ⟨4, 142, none⟩), .pointer (some a), .int .u64 150]]).run Tryz.prog W
      = .ok (.agg #[.pointer (some ⟨4, 80, none⟩), .pointer (some p), .int .u64 386]) W := by
  rw [rlm]
  simp only [Sem.run_bind, parts110, Result.andThen]
  simp [ReflectliteValue.elem, loadVar, isAgg, underlying, Tryz.underlying142, ha, Result.andThen, elemOf110, mk67]
theorem rls (v x : Value) : ReflectliteValue.set #[v, x] = (do
    let (some (dst, a, fl), some (src, b, _)) := (← ReflectliteValue.parts v, ← ReflectliteValue.parts x)
      | unsupported (.noEntry "extern/(internal/reflectlite.Value).Set.zeroValue")
    if fl / ReflectliteValue.flagAddr % 2 == 0 then unsupported (.noEntry "extern/(internal/reflectlite.Value).Set.unaddressable")
    let val ← loadVar src b
    if ← Rtype.directlyAssignable dst src then storeVar dst a val
    else if ← Rtype.implements dst src then
      if (← Rtype.kind src) == 20 then
        match val with
        | .nilIface => unsupported (.noEntry "extern/reflectlite: a nil value of one interface type handed on as a value of another")
        | _ => storeVar dst a val
      else storeVar dst a (.iface src val)
    else panicString ("reflectlite.Set: value of type " ++ (← Rtype.spelt src) ++ " is not assignable to type " ++ (← Rtype.spelt dst))
    pure (.tuple #[])) := rfl
theorem parts67a (a : Addr) (w : World) : (ReflectliteValue.parts (.agg #[.pointer (some ⟨4, 80, none⟩), .pointer (some a), .int .u64 386])).run Tryz.prog w = .ok (some (80, a, 386)) w := by kernel_rfl
theorem parts67 (a : Addr) (w : World) : (ReflectliteValue.parts (.agg #[.pointer (some ⟨4, 80, none⟩), .pointer (some a), .int .u64 130])).run Tryz.prog w = .ok (some (80, a, 130)) w := by kernel_rfl
theorem direct67 (w : World) : (Rtype.directlyAssignable 80 80).run Tryz.prog w = .ok true w := by kernel_rfl
theorem set67 (ta b : Addr) (n : Int) (old : Value) (W : World) (hb : W.cell? b = some (.int .i64 n)) (ht : W.cell? ta = some old) (hf : W.frozen? ta = false) :
    (ReflectliteValue.set #[.agg #[.pointer (some ⟨4, 80, none⟩), .pointer (some ta), .int .u64 386], .agg #[.pointer (some ⟨4, 80, none⟩), .pointer (some b), .int .u64 130]]).run Tryz.prog W
      = .ok (.tuple #[]) (W.setCell ta (.int .i64 n)) := by
  rw [rls]
  simp only [Sem.run_bind, parts67a, parts67, Result.andThen]
  simp [ReflectliteValue.flagAddr, loadVar, isAgg, underlying, Tryz.underlying80, hb, Result.andThen, direct67, storeVar, Value.cells, storeCells, Addr.add]
  rw [run_store Tryz.prog W ta _ _ (by rfl)]
  simp [ht, hf]
theorem noAs (v : Value) (xT : TypeId) (w : World) : (Instr.typeAssert (.iface 79 v) xT 255 true).run Tryz.prog w = .ok (.tuple #[.nilIface, .bool false]) w := run_typeAssert_lacksB Tryz.underlying255 (by kernel_rfl) (by kernel_rfl) v xT w
theorem hasUnwrap (v : Value) (xT : TypeId) (w : World) : (Instr.typeAssert (.iface 79 v) xT 216 true).run Tryz.prog w = .ok (.tuple #[.iface 79 v, .bool true]) w := run_typeAssert_hasB Tryz.underlying216 (by kernel_rfl) v xT w
end Go.Proofs.YtdekmeanlcpenaaGreatDoor.Err

namespace Go.Proofs.YtdekmeanlcpenaaGreatDoor.Err
open Go.RowKit Go.Extern.Stop Go.Stop Go.Extern Go.Proofs.YtdekmeanlcpenaaGreatDoorW.PrintWords
set_option maxHeartbeats 4000000
set_option maxRecDepth 100000

theorem unwrap_any (g : Nat) (err : Value) (w : World) (h : w.cell? ⟨g, 34, none⟩ = some err) : Calls Tryz.prog 352 #[.pointer (some ⟨g, 0, none⟩)] w fun e w' => e = .returned err ∧ w' = w := by
  go_enter Tryz.func352, Tryz.ntmps352
  go_wp2
  go_ret
  exact ⟨rfl, rfl⟩

/-- errors.as at a fault that wraps a number, the target a number's variable. -/
theorem as88 (g : Nat) (a t : Addr) (n : Int) (old : Value) (w : World) (hc : w.cell? ⟨g, 34, none⟩ = some (.iface 80 (.int .i64 n))) (ha : w.cell? a = some (.pointer (some t))) (ht0 : w.cell? t = some old) (hf0 : w.frozen? t = false) :
    Calls Tryz.prog 106 #[.iface 79 (.pointer (some ⟨g, 0, none⟩)), .iface 142 (.pointer (some t)), .agg #[.pointer (some ⟨4, 142, none⟩), .pointer (some a), .int .u64 150], .iface 211 (.agg #[.pointer (some ⟨4, 80, none⟩)])] w
      fun e w' => e = .returned (.bool true) ∧ w' = ((w.alloc (.cells #[.pointer (some ⟨4, 142, none⟩), .pointer (some a), .int .u64 150] 192)).alloc (.cells #[.int .i64 n] 80)).setCell t (.int .i64 n) := by
  have h64 := @run_callFunc_extern Tryz.prog 76 _ ReflectliteType.typeOf Tryz.func76 (by kernel_rfl) (by kernel_rfl) (by kernel_rfl) (by kernel_rfl)
  have h356 := @run_callFunc_extern Tryz.prog 358 _ (ReflectliteType.relation "AssignableTo" ReflectliteType.assignableTo) Tryz.func358 (by kernel_rfl) (by kernel_rfl) (by kernel_rfl) (by kernel_rfl)
  have h119 := @run_callFunc_extern Tryz.prog 143 _ (ReflectliteValue.method (ReflectliteValue.valueError "reflectlite.Value.Elem" 0) ReflectliteValue.elem) Tryz.func143 (by kernel_rfl) (by kernel_rfl) (by kernel_rfl) (by kernel_rfl)
  have h120 := @run_callFunc_extern Tryz.prog 144 _ ReflectliteValue.set Tryz.func144 (by kernel_rfl) (by kernel_rfl) (by kernel_rfl) (by kernel_rfl)
  have h85 := @run_callFunc_extern Tryz.prog 103 _ (fun args => ReflectliteValue.unpack (args.getD 0 (.tuple #[]))) Tryz.func103 (by kernel_rfl) (by kernel_rfl) (by kernel_rfl) (by kernel_rfl)
  have tO6 := typeOf66
  have tO7 := typeOf67
  have mA := methodAssignableTo
  have mU := methodUnwrap
  have a1 := assignable6667
  have a2 := assignable6767
  have v67 := valueOf67
  have nA := noAs
  have hU := hasUnwrap
  have halt : a.block < w.heap.size := by
    rcases Nat.lt_or_ge a.block w.heap.size with h | h
    · exact h
    · simp [World.cell?, Array.getElem?_eq_none h] at ha
  have htl : t.block < w.heap.size := by
    rcases Nat.lt_or_ge t.block w.heap.size with h | h
    · exact h
    · simp [World.cell?, Array.getElem?_eq_none h] at ht0
  have hgl : g < w.heap.size := by
    rcases Nat.lt_or_ge g w.heap.size with h | h
    · exact h
    · simp [World.cell?, Array.getElem?_eq_none h] at hc
  have el := elemV110 a t (w.alloc (.cells #[.pointer (some ⟨4, 142, none⟩), .pointer (some a), .int .u64 150] 192)) (by rw [World.cell?_alloc_lt _ _ a halt]; exact ha)
  have hc1 : (w.alloc (.cells #[.pointer (some ⟨4, 142, none⟩), .pointer (some a), .int .u64 150] 192)).cell? ⟨g, 34, none⟩ = some (.iface 80 (.int .i64 n)) := by
    rw [World.cell?_alloc_lt _ _ ⟨g, 34, none⟩ hgl]; exact hc
  have st := set67 t ⟨w.heap.size + 1, 0, none⟩ n old ((w.alloc (.cells #[.pointer (some ⟨4, 142, none⟩), .pointer (some a), .int .u64 150] 192)).alloc (.cells #[.int .i64 n] 80))
    (by rw [World.cell?_alloc_at _ _ _ _ (by simp)]; rfl)
    (by rw [World.cell?_alloc_lt _ _ t (by simp; omega), World.cell?_alloc_lt _ _ t htl]; exact ht0)
    (by rw [World.frozen?_alloc_old _ _ t (by simp; omega), World.frozen?_alloc_old _ _ t (Nat.ne_of_lt htl)]; exact hf0)
  go_enter Tryz.func106, Tryz.ntmps106
  go_wp2
  refine wp_loop_rounds 2 ?_
  rw [rounds_succ]
  go_wp2_with (first
    | (go_at_call 352; refine (unwrap_any g _ _ hc1).mono ?_; rintro e w' ⟨rfl, rfl⟩)
    | go_in)
  rw [rounds_succ]
  go_wp2
  go_ret
  exact ⟨rfl, rfl⟩
end Go.Proofs.YtdekmeanlcpenaaGreatDoor.Err

namespace Go.Proofs.YtdekmeanlcpenaaGreatDoor.Err
open Go.RowKit Go.Extern.Stop Go.Stop Go.Extern Go.Proofs.YtdekmeanlcpenaaGreatDoorW.PrintWords
set_option maxHeartbeats 4000000
set_option maxRecDepth 100000

theorem lt_of_cell {w : World} {a : Addr} {v : Value} (h : w.cell? a = some v) : a.block < w.heap.size := by
  rcases Nat.lt_or_ge a.block w.heap.size with h1 | h1
  · exact h1
  · simp [World.cell?, Array.getElem?_eq_none h1] at h
/-- The handle of the type error, which errors.As reads. -/
def Handle (w : World) : Prop := w.cell? ⟨0, 0, none⟩ = some (.iface 211 (.agg #[.pointer (some ⟨4, 35, none⟩)]))
theorem as49 (g : Nat) (t : Addr) (n : Int) (old : Value) (w : World) (hg : Handle w) (hc : w.cell? ⟨g, 34, none⟩ = some (.iface 80 (.int .i64 n))) (ht0 : w.cell? t = some old) (hf0 : w.frozen? t = false) :
    Calls Tryz.prog 61 #[.iface 79 (.pointer (some ⟨g, 0, none⟩)), .iface 142 (.pointer (some t))] w
      fun e w' => e = .returned (.bool true) ∧ ∃ w2 : World, Below w.heap.size w w2 ∧ w' = w2.setCell t (.int .i64 n) := by
  have h85 := @run_callFunc_extern Tryz.prog 103 _ (fun args => ReflectliteValue.unpack (args.getD 0 (.tuple #[]))) Tryz.func103 (by kernel_rfl) (by kernel_rfl) (by kernel_rfl) (by kernel_rfl)
  have h86 := @run_callFunc_extern Tryz.prog 104 _ (ReflectliteValue.methodAny (ReflectliteValue.valueError "reflectlite.Value.Type" 0) (fun t _ _ _ => ReflectliteType.toType t)) Tryz.func104 (by kernel_rfl) (by kernel_rfl) (by kernel_rfl) (by kernel_rfl)
  have h87 := @run_callFunc_extern Tryz.prog 105 _ (ReflectliteValue.method (ReflectliteValue.valueError "reflectlite.Value.IsNil" 0) ReflectliteValue.isNil) Tryz.func105 (by kernel_rfl) (by kernel_rfl) (by kernel_rfl) (by kernel_rfl)
  have h345 := @run_callFunc_extern Tryz.prog 347 _ (ReflectliteType.abiMethod fun t => do pure (.int .u8 (← Rtype.kind t))) Tryz.func347 (by kernel_rfl) (by kernel_rfl) (by kernel_rfl) (by kernel_rfl)
  have h358 := @run_callFunc_extern Tryz.prog 360 _ (ReflectliteType.method ReflectliteType.elem) Tryz.func360 (by kernel_rfl) (by kernel_rfl) (by kernel_rfl) (by kernel_rfl)
  have h359 := @run_callFunc_extern Tryz.prog 361 _ (ReflectliteType.relation "Implements" ReflectliteType.implements_) Tryz.func361 (by kernel_rfl) (by kernel_rfl) (by kernel_rfl) (by kernel_rfl)
  have f6 := valueOf110
  have f7 := type110
  have mK := methodKind
  have mE := methodElem
  have mI := methodImplements
  have k1 := kind110
  have k2 := kind67
  have e1 := elem110
  have i1 := implements67
  have hlt : 0 < w.heap.size := lt_of_cell hg
  have htl := lt_of_cell ht0
  have hgl := lt_of_cell hc
  simp only at hgl
  have n8 := isNil110 ⟨w.heap.size, 0, none⟩ t ((w.alloc (.cells #[.pointer (some t)] 142)).alloc (.cells #[.pointer (some ⟨4, 142, none⟩), .pointer (some ⟨w.heap.size, 0, none⟩), .int .u64 150] 192)) (by simp)
  have hg2 : ((w.alloc (.cells #[.pointer (some t)] 142)).alloc (.cells #[.pointer (some ⟨4, 142, none⟩), .pointer (some ⟨w.heap.size, 0, none⟩), .int .u64 150] 192)).cell? ⟨0, 0, none⟩ = some (.iface 211 (.agg #[.pointer (some ⟨4, 35, none⟩)])) := by
    rw [World.cell?_alloc_lt _ _ ⟨0, 0, none⟩ (by simp), World.cell?_alloc_lt _ _ ⟨0, 0, none⟩ hlt]; exact hg
  have hc2 : ((w.alloc (.cells #[.pointer (some t)] 142)).alloc (.cells #[.pointer (some ⟨4, 142, none⟩), .pointer (some ⟨w.heap.size, 0, none⟩), .int .u64 150] 192)).cell? ⟨g, 34, none⟩ = some (.iface 80 (.int .i64 n)) := by
    rw [World.cell?_alloc_lt _ _ ⟨g, 34, none⟩ (by simp; omega), World.cell?_alloc_lt _ _ ⟨g, 34, none⟩ hgl]; exact hc
  have ha2 : ((w.alloc (.cells #[.pointer (some t)] 142)).alloc (.cells #[.pointer (some ⟨4, 142, none⟩), .pointer (some ⟨w.heap.size, 0, none⟩), .int .u64 150] 192)).cell? ⟨w.heap.size, 0, none⟩ = some (.pointer (some t)) := by simp
  have ht2 : ((w.alloc (.cells #[.pointer (some t)] 142)).alloc (.cells #[.pointer (some ⟨4, 142, none⟩), .pointer (some ⟨w.heap.size, 0, none⟩), .int .u64 150] 192)).cell? t = some old := by
    rw [World.cell?_alloc_lt _ _ t (by simp; omega), World.cell?_alloc_lt _ _ t htl]; exact ht0
  have hf2 : ((w.alloc (.cells #[.pointer (some t)] 142)).alloc (.cells #[.pointer (some ⟨4, 142, none⟩), .pointer (some ⟨w.heap.size, 0, none⟩), .int .u64 150] 192)).frozen? t = false := by
    rw [World.frozen?_alloc_old _ _ t (by simp; omega), World.frozen?_alloc_old _ _ t (Nat.ne_of_lt htl)]; exact hf0
  go_enter Tryz.func61, Tryz.ntmps61
  go_wp2_with (first
    | (go_at_call 106; refine (as88 g ⟨w.heap.size, 0, none⟩ t n old _ hc2 ha2 ht2 hf2).mono ?_; rintro e w' ⟨rfl, rfl⟩)
    | go_in)
  go_ret
  exact ⟨rfl, _, below_alloc (below_alloc (below_alloc (below_alloc (Below.refl _ _) _) _) _) _, rfl⟩

/-- api.Code at a fault that wraps a number. -/
theorem code_any (g : Nat) (n : Int) (w : World) (hg : Handle w) (hc : w.cell? ⟨g, 34, none⟩ = some (.iface 80 (.int .i64 n))) :
    Calls Tryz.prog 34 #[.iface 79 (.pointer (some ⟨g, 0, none⟩))] w fun e w' => e = .returned (.int .i64 n) ∧ Below w.heap.size w w' := by
  have hlt : 0 < w.heap.size := lt_of_cell hg
  have hgl := lt_of_cell hc
  simp only at hgl
  have hg2 : Handle (w.alloc (.cells #[.int .i64 0] 80)) := by
    unfold Handle at hg ⊢
    rw [World.cell?_alloc_lt _ _ ⟨0, 0, none⟩ hlt]; exact hg
  have hc2 : (w.alloc (.cells #[.int .i64 0] 80)).cell? ⟨g, 34, none⟩ = some (.iface 80 (.int .i64 n)) := by
    rw [World.cell?_alloc_lt _ _ ⟨g, 34, none⟩ hgl]; exact hc
  have HG2 := Aside0.mk hg2
  clear hg hg2
  go_enter Tryz.func34, Tryz.ntmps34
  go_wp2_with (first
    | (go_at_call 61; refine (as49 g ⟨w.heap.size, 0, none⟩ n (.int .i64 0) _ HG2.out hc2 (by simp) (by simp)).mono ?_; rintro e w' ⟨rfl, w2, hb2, rfl⟩;
       have hcell : (w2.setCell ⟨w.heap.size, 0, none⟩ (.int .i64 n)).cell? ⟨w.heap.size, 0, none⟩ = some (.int .i64 n) := World.cell?_setCell_same _ _ _ (pw_cell_below hb2 (by simp : (w.alloc (.cells #[.int .i64 0] 80)).cell? ⟨w.heap.size, 0, none⟩ = some (.int .i64 0))))
    | go_in)
  go_ret
  refine ⟨rfl, ?_⟩
  have h1 : Below w.heap.size w w2 := (below_alloc (Below.refl _ _) _).trans (hb2.mono (by simp))
  exact h1.setCell (Nat.le_refl _) _
end Go.Proofs.YtdekmeanlcpenaaGreatDoor.Err

namespace Go.Proofs.YtdekmeanlcpenaaGreatDoor.LaidC
open Go.ChangeShapes Go.WideShapes Go.ChangeAt Go.RowKit Go.Proofs.YtdekmeanlcpenaaGreatDoorW.PrintWords Go.Proofs.YtdekmeanlcpenaaGreatDoor.Err
set_option maxRecDepth 100000
theorem own : ownKnob Tryz.prog.godebug = none := by kernel_rfl
theorem laidOut : laidOutB Tryz.prog = true := by kernel_rfl
theorem et : Tryz.prog.globalNamed "errors.errorType" = some 0 := by kernel_rfl
theorem rt : (Tryz.prog.cutTypes.find? (·.1 == "internal/reflectlite.rtype")).map (·.2) = some 211 := by kernel_rfl
theorem size : Tryz.prog.types.size = 483 := by kernel_rfl
theorem oneRow : ((List.range 483).filter fun t => Tryz.prog.rowNamed t [101, 114, 114, 111, 114]) = [35] := by kernel_rfl

/-- What the condition gives the walk: the handle's cell. -/
theorem handle_of_laid {W : World} (h : laidMetH Tryz.prog Rows.restorePicksRow.laid W) : Handle W := by
  have h' : laidMet Tryz.prog (Rows.restorePicksRow.laid.filter fun x => x.2.handleName?.isNone) W ∧ handlesMet Tryz.prog [("errors.errorType", Rows.laid_errors_errorType)] W := h
  obtain ⟨name, u, ty, e1, e2, e3, e4, e5⟩ := h'.2 _ (List.mem_singleton.2 rfl)
  have en : name = [101, 114, 114, 111, 114] := (Option.some.inj e1).symm
  subst en
  obtain rfl := Option.some.inj (rt.symm.trans e2)
  have hm : ty ∈ (List.range 483).filter fun t => Tryz.prog.rowNamed t [101, 114, 114, 111, 114] := List.mem_filter.2 ⟨List.mem_range.2 (by rw [← size]; exact e3), e4⟩
  rw [oneRow] at hm
  obtain rfl := List.mem_singleton.1 hm
  have hh : typeHandle Tryz.prog 35 = .pointer (some ⟨4, 35, none⟩) := by kernel_rfl
  rw [hh] at e5
  have := World.var?_cell et e5 0
  simpa [Handle] using this

/-- A world that meets the condition. -/
noncomputable def handleWorld (os : Os) : World :=
  let w0 := World.holding Tryz.prog os ⟨#[], #[], []⟩
  { w0 with heap := w0.heap.modify 0 fun
      | .cells _ t frozen => .cells #[.iface 211 (.agg #[.pointer (some ⟨4, 35, none⟩)])] t frozen
      | o => o }
def plainLaid : List (String × DataW Unit) := Rows.restorePicksRow.laid.filter fun x => x.2.handleName?.isNone
noncomputable def laidWorld (os : Os) : World := (handleWorld os).layVars Tryz.prog plainLaid
theorem laidWorld_os (os : Os) : (laidWorld os).os = os := World.layVars_os _ _ _
theorem laidWorld_plain (os : Os) : laidMet Tryz.prog plainLaid (laidWorld os) := by
  have e1 : (plainLaid.filter fun x => (plainLaid.map (·.1)).contains x.1) = plainLaid := List.filter_eq_self.2 fun x hx => List.contains_iff_mem.2 (List.mem_map.2 ⟨x, hx, rfl⟩)
  have e2 : (plainLaid.filter fun x => !(plainLaid.map (·.1)).contains x.1) = [] := List.filter_eq_nil_iff.2 fun x hx => by rw [List.contains_iff_mem.2 (List.mem_map.2 ⟨x, hx, rfl⟩)]; simp
  exact laidMet_layVars (w0 := handleWorld os) (plainLaid.map (·.1)) [] (by rw [e1]; rfl) (by rw [e1]; kernel_rfl) (by rw [e1]; kernel_rfl) (by rw [e2]; exact LaidIn.none)
theorem laidWorld_met (os : Os) (args : Array Value) : laidMetH Tryz.prog Rows.restorePicksRow.laid ((laidWorld os).forCall (fun _ _ => 0) ⟨#[], args, []⟩).memory :=
  laidMetH_of_parts ((laidWorld_plain os).of_heap (by simp [World.memory, World.forCall, Input.heap])) (by kernel_rfl)

/-- The tied card of a row that may hand goroutines over (after the kit's holds_tied_plain_at, 'goes' being what the program says). -/
theorem tied_plain_goes (Lk : Looks) {p : Pinned} {s : OpenSpec} {c : OpenClaim} (al : List (List PathCond)) (kinds : List LaidKind) (tests : Bool) (har : Bool × String) (lk gs : Bool)
    (hc : c.holds p s) (hal : ∀ D ∈ al, (c.withDomain D).holds p s) (hw : c.wfByText s = true) (hwal : ∀ D ∈ al, (c.withDomain D).wfByText s = true)
    (htie : c.laidByTextAt Lk p kinds tests)
    (hst : c.start = .entering) (hnb : c.noBlocks = false ∧ c.again = false) (hm : p.checked.prog.mainIs = some (har.1, har.2.toList)) (hn : (!har.1 && har.2.isEmpty && !lk) = false)
    (hl : ∀ f fn, p.checked.prog.funcNamed c.func = some f → p.checked.prog.funcs[f]? = some fn → lk = p.checked.prog.looks [] ∧ ∀ (j : Nat) t, fn.params[j]? = some t → p.checked.prog.wantsStandIn t = false)
    (hg : gs = c.goesBy p.checked.prog) :
    Claim7.holds p (.plain s) { stood := { row := c, standIns := [], harness := har, looks := lk }, kinds := [], alts := al, goes := gs, laidByText := true, laidKinds := kinds, laidTests := tests, laidLooks := Lk } := by
  have h6 : ∀ r : OpenClaim, Claim7.isSixth { stood := { row := r, standIns := [], harness := har, looks := lk }, kinds := [] } = false := fun r => by simpa [Claim7.isSixth] using hn
  refine ⟨Claim7.tied_new_at Lk kinds tests (Claim7.new_of_sixth hc har lk hst hnb hm (h6 c) hl) hw, fun D hD => ?_, htie, (fun h => by cases h), hg⟩
  exact Claim7.tied_new_at Lk kinds tests (Claim7.new_of_sixth (hal D hD) har lk hst hnb hm (h6 _) hl) (hwal D hD)
end Go.Proofs.YtdekmeanlcpenaaGreatDoor.LaidC

namespace Go.Proofs.YtdekmeanlcpenaaGreatDoor.Closed
set_option maxRecDepth 100000
theorem and2 {a b : Bool} (h1 : a = true) (h2 : b = true) : (a && b) = true := by rw [h1, h2]; rfl
theorem kLaidOut : laidOutB Tryz.prog = true := by kernel_rfl
theorem kMaps : mapsRowed Tryz.prog = true := by kernel_rfl
theorem kStops : (Tryz.prog.stops == []) = true := by kernel_rfl
theorem kKnobs : (Tryz.prog.stopKnobs == []) = true := by kernel_rfl
theorem kHeard : Tryz.prog.stopsHeard = true := by kernel_rfl
theorem kMayEnter : Tryz.prog.mayEnter = true := by kernel_rfl
end Go.Proofs.YtdekmeanlcpenaaGreatDoor.Closed

namespace Go.Proofs.YtdekmeanlcpenaaGreatDoor.intakeDecodes
open Go.Proofs.YtdekmeanlcpenaaGreatDoor.Closed
set_option maxRecDepth 100000
theorem c1 : Rows.intakeDecodesRow.wf (OpenSpec.ofChange Rows.intakeDecodesSpec) = true := by kernel_rfl
theorem c4 : Tryz.f6.params.all (Tryz.prog.readableRec ·) = true := by kernel_rfl
theorem c5 : namedTie Tryz.prog Rows.intakeDecodesRow.named Rows.intakeDecodesSpec.vars = true := by kernel_rfl
theorem c6 : (Rows.intakeDecodesRow.stops == []) = true := by kernel_rfl
theorem c8 : (Rows.intakeDecodesRow.knobs == []) = true := by kernel_rfl
theorem c10 : (Rows.intakeDecodesRow.inPlace == Tryz.prog.inPlace 6) = true := by kernel_rfl
theorem c11 : (Rows.intakeDecodesRow.unfollowed == Tryz.prog.unfollowed 6) = true := by kernel_rfl
theorem c12 : (Rows.intakeDecodesRow.recurses == Tryz.prog.recurses 6) = true := by kernel_rfl
theorem c13 : (Rows.intakeDecodesRow.named == Tryz.prog.varsNamed 6) = true := by kernel_rfl
theorem c14 : (Rows.intakeDecodesRow.maps == (Tryz.f6.params.toList ++ Rows.intakeDecodesSpec.plain.varTypes Tryz.prog).any (Tryz.prog.mapsRec ·)) = true := by kernel_rfl
theorem c15 : (Rows.intakeDecodesRow.ifaces == (Tryz.f6.params.toList ++ Rows.intakeDecodesSpec.plain.varTypes Tryz.prog).any (Tryz.prog.ifacesRec ·)) = true := by kernel_rfl
theorem c16 : (Rows.intakeDecodesRow.mapsOut == Tryz.prog.mapsAmong Tryz.f6.resultTypes.toList) = true := by kernel_rfl
theorem c17 : (Rows.intakeDecodesRow.loops == (Tryz.f6.params.toList ++ Rows.intakeDecodesSpec.plain.varTypes Tryz.prog).any (Tryz.prog.loopsFrom ·)) = true := by kernel_rfl
theorem c18 : (Rows.intakeDecodesRow.wideKeys == (Tryz.f6.params.toList ++ Rows.intakeDecodesSpec.plain.varTypes Tryz.prog ++ Tryz.f6.resultTypes.toList).any (Tryz.prog.wideKeysFrom ·)) = true := by kernel_rfl
theorem c19 : Rows.intakeDecodesSpec.vars.all (Tryz.prog.varReadable ·) = true := by kernel_rfl
theorem c20 : Tryz.f6.resultTypes.all (fun t => Tryz.prog.readableRec t && decide (t < Tryz.prog.types.size)) = true := by kernel_rfl
theorem c21 : (Rows.intakeDecodesRow.ifacesOut == Tryz.f6.resultTypes.toList.any (Tryz.prog.ifacesRec ·)) = true := by kernel_rfl
theorem c22 : (Rows.intakeDecodesRow.loopsOut == Tryz.f6.resultTypes.toList.any (Tryz.prog.loopsFrom ·)) = true := by kernel_rfl
theorem c23 : (Rows.intakeDecodesRow.plainKeys == Tryz.prog.plainKeys) = true := by kernel_rfl
theorem c24 : Rows.intakeDecodesRow.shortTexts.isNone = true := by kernel_rfl
theorem c27 : (Rows.intakeDecodesRow.lifted == Tryz.prog.liftsFinal) = true := by kernel_rfl
theorem c28 : (Tryz.prog.make == some Rows.intakeDecodesRow.make) = true := by kernel_rfl
theorem c29 : (Rows.intakeDecodesRow.kinds == (if Rows.intakeDecodesRow.domain.isEmpty then [] else Tryz.f6.params.toList.map fun t => match Tryz.prog.underlying t with | some (.int k) => some k | _ => none)) = true := by kernel_rfl
theorem c30 : (Rows.intakeDecodesRow.pinned == Rows.intakeDecodesRow.pinnedBy) = true := by kernel_rfl
theorem c31 : (Rows.intakeDecodesRow.veiled == (Tryz.f6.params.toList ++ Rows.intakeDecodesSpec.plain.varTypes Tryz.prog ++ Tryz.f6.resultTypes.toList).any (Tryz.prog.veiledRec ·)) = true := by kernel_rfl
theorem c32 : Rows.intakeDecodesRow.veiledFits Tryz.prog Tryz.f6.params.toList (Tryz.f6.params.toList ++ Rows.intakeDecodesSpec.plain.varTypes Tryz.prog ++ Tryz.f6.resultTypes.toList) = true := by kernel_rfl
theorem closed : joinedFacts Tryz.prog 6 Tryz.f6 Rows.intakeDecodesSpec Rows.intakeDecodesRow = true := by
  unfold joinedFacts
  exact and2 (and2 (and2 (and2 (and2 (and2 (and2 (and2 (and2 (and2 (and2 (and2 (and2 (and2 (and2 (and2 (and2 (and2 (and2 (and2 (and2 (and2 (and2 (and2 (and2 (and2 (and2 (and2 (and2 (and2 (and2 (c1) kLaidOut) kMaps) c4) c5) c6) kStops) c8) kKnobs) c10) c11) c12) c13) c14) c15) c16) c17) c18) c19) c20) c21) c22) c23) c24) kHeard) kMayEnter) c27) c28) c29) c30) c31) c32
end Go.Proofs.YtdekmeanlcpenaaGreatDoor.intakeDecodes

-- out of the kit's print: what the reference's reader wants of it
namespace Go.Proofs.YtdekmeanlcpenaaGreatDoor.PIntakeEncodes
open Go.RowKit Go.Proofs.YtdekmeanlcpenaaGreatDoorW.PrintWords Go.Proofs.YtdekmeanlcpenaaGreatDoorW.PrintLast Go.Proofs.YtdekmeanlcpenaaGreatDoorW.PrintMore
def errW : Option Int → Value
  | none => .nilIface
  | some c => .iface 80 (.int .i64 c)
theorem errW_none : errW none = .nilIface := rfl
theorem errW_some (c : Int) : errW (some c) = .iface 80 (.int .i64 c) := rfl
theorem info5 : (Tryz.prog.info? 5).map (fun i => (i.zero, i.size, i.bytes)) = some (some (.int .u8 0), 1, 1) := by kernel_rfl
end Go.Proofs.YtdekmeanlcpenaaGreatDoor.PIntakeEncodes
