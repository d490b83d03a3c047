import Derived.Test.YtdekmeanlcpenaaGreatDoorProg
import Derived.Test.YtdekmeanlcpenaaGreatDoorWMore
import Derived.Deep.Slices
import Derived.ChangeSame
import Derived.SizedLaws
import Derived.OpenShut
import Derived.Test.YtdekmeanlcpenaaGreatDoorGrP2
import Derived.Test.YtdekmeanlcpenaaGreatDoorTie
import Derived.Test.YtdekmeanlcpenaaGreatDoorCards
import Derived.Test.YtdekmeanlcpenaaGreatDoorGrP9
import Derived.WalkKit
import Derived.ProofKit
import Derived.ShutString
import Derived.ChangeOld
import Derived.Below
import Derived.LaidMore
import Derived.LaidHandle
import Derived.Lay
import Derived.SevenTiedAt
import Derived.Stop.Joined
import Derived.Conc.Holds
import Derived.Test.YtdekmeanlcpenaaGreatDoorWSized
namespace Go.Proofs.YtdekmeanlcpenaaGreatDoor.OpenK
open Go.ChangeShapes Go.WideShapes Go.Deep Go.Proofs.YtdekmeanlcpenaaGreatDoorW.PrintWords

/-- Whatever reads as a datum of a type reads as a value of a kind, and the value is good. -/
def Opens {α H : Type} (P : Program) (enc : TypeId × Value → H) (w : World) (d : Kd α) (e : TypeId) (good : α → Prop) : Prop :=
  ∀ (fuel : Nat) (cs : List Value) (x : DataW H × List MemPlace), DataW.trod enc P w 0 (fun _ => true) true fuel e cs = some x → (∀ n ∈ DataW.weights P e x.1, n ≤ reachBytes) → ∃ v, d.K w v cs ∧ good v

theorem opens_int {H : Type} {P : Program} {enc : TypeId × Value → H} {w : World} {e : TypeId} {k : IntKind} (he : P.underlying e = some (.int k)) : Opens P enc w (Kd.int k) e (fun n => (Lit.int k n).wf = true) := by
  intro fuel cs x h _
  obtain ⟨n, rfl, _, hw⟩ := DataW.trod_int he h
  exact ⟨n, rfl, hw⟩

theorem opens_slice {α H : Type} {P : Program} {enc : TypeId × Value → H} {w : World} {d : Kd α} {t e : TypeId} {good : α → Prop} [Inhabited α] (ht : P.underlying t = some (.slice e)) (hc : P.cellsOf e = d.sz) {B : Nat} (hB : P.bytesOf e = B) (h : Opens P enc w d e good) :
    Opens P enc w (Kd.slice e d) t (fun l => l.length * B ≤ 140737488351232 ∧ ∀ x ∈ l, good x) := by
  intro fuel cs x hx hw
  rcases open_slice ht hx with ⟨rfl, _⟩ | ⟨a, len, cap, m, n, D, Pl, rfl, _, hl, hm, rfl, rfl, hi⟩
  · exact ⟨[], ⟨none, 0, rfl, Nat.le_refl _, Kd.C_nil d w⟩, by simp, by simp⟩
  · simp only [] at hi hw
    simp only [DataW.weights, ht] at hw
    have hwl := hw _ (List.mem_cons_self)
    have hwe : ∀ i, i < len → ∀ z ∈ DataW.weights P e (D i), z ≤ reachBytes := by
      intro i hil z hz
      refine hw z (List.mem_cons_of_mem _ (List.mem_append_left _ ?_))
      have key : ∀ (l : List (DataW H)), D i ∈ l → z ∈ DataW.weightsAll P e l := by
        intro l
        induction l with
        | nil => intro h; simp at h
        | cons y r ih =>
          intro h
          rw [DataW.weightsAll, List.mem_append]
          rcases List.mem_cons.1 h with rfl | h
          · exact .inl hz
          · exact .inr (ih h)
      exact key _ (List.mem_map.2 ⟨i, List.mem_range.2 hil, rfl⟩)
    obtain ⟨f, hf⟩ := choose_lt (n := len) (p := fun i v => (∃ cs', w.cells? 0 (a.add (i * P.cellsOf e)) (P.cellsOf e) = some cs' ∧ d.K w v cs') ∧ good v) (fun i hil => by
      obtain ⟨cs', h1, h2⟩ := hi i (by omega)
      obtain ⟨v, hK, hg⟩ := h n cs' _ h2 (hwe i hil)
      exact ⟨v, ⟨cs', h1, hK⟩, hg⟩)
    refine ⟨(List.range len).map f, ⟨some a, m, by simp, by simpa using hl, ?_⟩, ?_, ?_⟩
    · refine ⟨rfl, by simp; unfold maxLen at hm; omega, fun hpos => ⟨a, rfl, fun j p hj => ?_⟩⟩
      simp only [List.length_map, List.length_range] at hpos
      rw [List.getElem?_map] at hj
      obtain ⟨i, hi1, rfl⟩ := Option.map_eq_some_iff.1 hj
      have hjl : j < len := by have := (List.getElem?_eq_some_iff.1 hi1).1; simpa using this
      have hij : i = j := by
        rw [List.getElem?_range hjl] at hi1
        simpa using hi1.symm
      subst hij
      obtain ⟨⟨cs', h1, hK⟩, _⟩ := hf i hjl
      rw [hc] at h1
      obtain ⟨_, hlen, hcell⟩ := World.cells?_some h1
      refine ⟨cs', hlen, hK, fun k u hk => ?_⟩
      have hkl : k < d.sz := by have := (List.getElem?_eq_some_iff.1 hk).1; omega
      rw [← Go.Deep.add_add, hcell k hkl]
      exact hk
    · simp only [List.length_map, List.length_range] at hwl ⊢
      rw [hB] at hwl
      refine Nat.le_trans (Nat.mul_le_mul_right _ ?_) (Nat.le_trans hwl (by decide))
      omega
    · intro x hx
      obtain ⟨i, hi1, rfl⟩ := List.mem_map.1 hx
      exact (hf i (List.mem_range.1 hi1)).2

theorem opens_pair {α β H : Type} {P : Program} {enc : TypeId × Value → H} {w : World} {a : Kd α} {b : Kd β} {e : TypeId} {f0 f1 : Field} {ga : α → Prop} {gb : β → Prop} (hs : P.underlying e = some (.struct #[f0, f1])) (o0 : f0.offset = 0) (o1 : f1.offset = a.sz)
    (c0 : P.cellsOf f0.type = a.sz) (c1 : P.cellsOf f1.type = b.sz) (hc : P.cellsOf e = a.sz + b.sz) (ha : Opens P enc w a f0.type ga) (hb : Opens P enc w b f1.type gb) : Opens P enc w (Kd.pair a b) e (fun x => ga x.1 ∧ gb x.2) := by
  intro fuel cs x h hw
  obtain ⟨y0, y1, n, rfl, hl, h0, h1⟩ := trod_struct2 hs h
  simp only [DataW.weights, hs] at hw
  rw [o0, c0, List.drop_zero] at h0
  rw [o1, c1] at h1
  have hcs : (cs.drop a.sz).take b.sz = cs.drop a.sz := List.take_of_length_le (by simp; omega)
  rw [hcs] at h1
  obtain ⟨v0, hK0, g0⟩ := ha _ _ _ h0 (fun z hz => hw z (by simp [DataW.weightsEach]; exact .inl hz))
  obtain ⟨v1, hK1, g1⟩ := hb _ _ _ h1 (fun z hz => hw z (by simp [DataW.weightsEach]; exact .inr hz))
  exact ⟨(v0, v1), ⟨_, _, (List.take_append_drop _ _).symm, hK0, hK1⟩, g0, g1⟩

/-- Another name of the values. -/
theorem opens_iso {α β H : Type} {P : Program} {enc : TypeId × Value → H} {w : World} {d : Kd α} {e : TypeId} {good : α → Prop} (f : β → α) (g : α → β) (hfg : ∀ x, f (g x) = x) (h : Opens P enc w d e good) : Opens P enc w (Kd.iso d f) e (fun x => good (f x)) := by
  intro fuel cs x hx hw
  obtain ⟨v, hK, hg⟩ := h fuel cs x hx hw
  exact ⟨g v, by show d.K w (f (g v)) cs; rw [hfg]; exact hK, by show good (f (g v)); rw [hfg]; exact hg⟩

/-- A slice among a law's arguments. -/
theorem arg_slice {α H : Type} {P : Program} {enc : TypeId × Value → H} {W : World} {d : Kd α} {t e : TypeId} {good : α → Prop} {B : Nat} {a : Option Addr} {len cap : Nat} {x : DataW H} {ps : List MemPlace} {ts : List TypeId} {ds : List (DataW H)} {j : Nat}
    (ho : Opens P enc W (Kd.slice e d) t (fun l => l.length * B ≤ 140737488351232 ∧ ∀ x ∈ l, good x)) (hsz : (DataW.weightsEach P ts ds).all (· ≤ reachBytes) = true) (ht : ts[j]? = some t) (hd : ds[j]? = some x)
    (h : DataW.Trod enc P W 0 (fun _ => true) true t (.slice a len cap) x ps) : ∃ l : List α, len = l.length ∧ l.length ≤ cap ∧ d.C W a l.length l ∧ l.length * B ≤ 140737488351232 ∧ ∀ x ∈ l, good x := by
  obtain ⟨fuel, hf⟩ := h
  obtain ⟨l, ⟨A, c, e1, h1, h2⟩, h3, h4⟩ := ho fuel _ _ hf (fun n hn => by
    have := List.all_eq_true.1 hsz _ (DataW.weights_mem_each ht hd n hn)
    simpa using this)
  simp [Value.cells] at e1
  obtain ⟨rfl, rfl, rfl⟩ := e1
  exact ⟨l, rfl, h1, h2, h3, h4⟩

end Go.Proofs.YtdekmeanlcpenaaGreatDoor.OpenK

namespace Go.Proofs.YtdekmeanlcpenaaGreatDoor.OpenK
open Go.ChangeShapes Go.WideShapes Go.Deep Go.Proofs.YtdekmeanlcpenaaGreatDoorW.PrintWords Go.Proofs.YtdekmeanlcpenaaGreatDoor.Mid

set_option maxRecDepth 100000
theorem arr29 : ∃ e, Tryz.prog.underlying 29 = some (.array 32 e) ∧ Tryz.prog.underlying e = some (.int .u8) ∧ Tryz.prog.cellsOf e = 1 := by
  refine ⟨5, ?_, ?_, ?_⟩ <;> kernel_rfl
theorem cells29 : Tryz.prog.cellsOf 29 = 32 := by kernel_rfl
theorem cells33 : Tryz.prog.cellsOf 33 = 65 := by kernel_rfl
theorem id_of_trod {H : Type} {enc : TypeId × Value → H} {w : World} {fuel : Nat} {cs : List Value} {x : DataW H × List MemPlace} (hx : DataW.trod enc Tryz.prog w 0 (fun _ => true) true fuel 29 cs = some x) : ∃ v, IdOk v ∧ cs = u8s v := by
  obtain ⟨e, hu, he, hc⟩ := arr29
  obtain ⟨xs, m, -, -, hl, hxl, hi⟩ := DataW.trod_array hu hx
  rw [cells29] at hl
  obtain ⟨f, hf⟩ := choose_lt (n := 32) (p := fun i (v : Int) => cs[i]? = some (.int .u8 v) ∧ 0 ≤ v ∧ v ≤ 255) (fun i hil => by
    have h1 := hi i hil
    rw [hc, Nat.mul_one, List.getElem?_eq_getElem (by omega)] at h1
    obtain ⟨n, e1, -, hw⟩ := DataW.trod_int he h1
    refine ⟨n, ?_, ?_⟩
    · rw [List.drop_eq_getElem_cons (by omega), List.take_succ_cons, List.take_zero] at e1
      rw [List.getElem?_eq_getElem (by omega)]
      injection e1 with e1
      rw [e1]
    · have h1 : IntKind.u8.min = 0 := rfl
      have h2 : IntKind.u8.max = 255 := rfl
      simp [Lit.wf, h1, h2] at hw
      omega)
  have hcs : cs = u8s ((List.range 32).map f) := by
    apply List.ext_getElem?
    intro i
    by_cases hil : i < 32
    · rw [(hf i hil).1, u8s, List.getElem?_map, List.getElem?_map, List.getElem?_range hil]
      rfl
    · rw [List.getElem?_eq_none (by omega), List.getElem?_eq_none (by simp [u8s]; omega)]
  have hok : IdOk ((List.range 32).map f) := ⟨by simp, fun u hu => by
    obtain ⟨i, hi, rfl⟩ := List.mem_map.1 hu
    exact (hf i (List.mem_range.1 hi)).2⟩
  exact ⟨_, hok, hcs⟩
theorem opens_id {H : Type} {enc : TypeId × Value → H} {w : World} : Opens Tryz.prog enc w idK 29 (fun x => IdOk x) := fun _ _ _ hx _ => by
  obtain ⟨v, h1, h2⟩ := id_of_trod hx
  exact ⟨v, ⟨h1, h2⟩, h1⟩
theorem opens23 {H : Type} {enc : TypeId × Value → H} {w : World} : Opens Tryz.prog enc w (Kd.slice 29 idK) 23 (fun l => l.length * 32 ≤ 140737488351232 ∧ ∀ x ∈ l, IdOk x) :=
  opens_slice Tryz.underlying23 cells29 (by kernel_rfl) opens_id
theorem str33 : ∃ f0 f1 f2 : Field, Tryz.prog.underlying 33 = some (.struct #[f0, f1, f2]) ∧ (f0.type = 29 ∧ f0.offset = 0) ∧ (f1.type = 29 ∧ f1.offset = 32) ∧ (f2.type = 3 ∧ f2.offset = 64) := by
  refine ⟨_, _, _, Tryz.underlying33, ?_, ?_, ?_⟩ <;> exact ⟨by kernel_rfl, by kernel_rfl⟩
theorem cells3 : Tryz.prog.cellsOf 3 = 1 := by kernel_rfl
theorem und3 : Tryz.prog.underlying 3 = some (.int .i64) := by kernel_rfl
theorem opens_res {H : Type} {enc : TypeId × Value → H} {w : World} : Opens Tryz.prog enc w resK 33 (fun x => ResOk x) := fun fuel cs x hx _ => by
  obtain ⟨f0, f1, f2, hu, ⟨t0, o0⟩, ⟨t1, o1⟩, ⟨t2, o2⟩⟩ := str33
  obtain ⟨xs, n, -, -, hl, hlen, hf⟩ := DataW.trod_struct hu hx
  rw [cells33] at hl
  match xs, hlen with
  | [y0, y1, y2], _ =>
    have h0 := hf 0 f0 rfl
    have h1 := hf 1 f1 rfl
    have h2 := hf 2 f2 rfl
    rw [t0, o0, cells29] at h0
    rw [t1, o1, cells29] at h1
    rw [t2, o2, cells3] at h2
    obtain ⟨a, ha, ea⟩ := id_of_trod h0
    obtain ⟨b, hb, eb⟩ := id_of_trod h1
    obtain ⟨m, em, -, hw⟩ := DataW.trod_int und3 h2
    have hm : -9223372036854775808 ≤ m ∧ m ≤ 9223372036854775807 := by
      have h1 : IntKind.i64.min = -9223372036854775808 := rfl
      have h2 : IntKind.i64.max = 9223372036854775807 := rfl
      simp [Lit.wf, h1, h2] at hw
      omega
    have hr : ResOk ⟨a, b, m⟩ := ⟨ha, hb, hm⟩
    refine ⟨⟨a, b, m⟩, ⟨hr, ?_⟩, hr⟩
    show cs = u8s a ++ (u8s b ++ [.int .i64 m])
    rw [← ea, ← eb, ← em, List.drop_zero]
    have e1 : cs = cs.take 32 ++ cs.drop 32 := (List.take_append_drop 32 cs).symm
    have e2 : cs.drop 32 = (cs.drop 32).take 32 ++ (cs.drop 32).drop 32 := (List.take_append_drop 32 _).symm
    have e3 : (cs.drop 32).drop 32 = (cs.drop 64).take 1 := by
      rw [List.drop_drop, List.take_of_length_le (by rw [List.length_drop]; omega)]
    rw [← e3, ← e2, ← e1]
theorem opens22 {H : Type} {enc : TypeId × Value → H} {w : World} : Opens Tryz.prog enc w (Kd.slice 33 resK) 22 (fun l => l.length * 72 ≤ 140737488351232 ∧ ∀ x ∈ l, ResOk x) :=
  haveI : Inhabited Res := ⟨⟨[], [], 0⟩⟩
  opens_slice Tryz.underlying22 cells33 (by kernel_rfl) opens_res
end Go.Proofs.YtdekmeanlcpenaaGreatDoor.OpenK

namespace Go.Proofs.YtdekmeanlcpenaaGreatDoor.restorePicks
open Go.ChangeShapes Go.WideShapes Go.ChangeAt Go.RowKit Go.Proofs.YtdekmeanlcpenaaGreatDoorW.PrintWords Go.Proofs.YtdekmeanlcpenaaGreatDoor.Mid Go.Proofs.YtdekmeanlcpenaaGreatDoor.Err
set_option maxRecDepth 100000

theorem own : ownKnob Tryz.prog.godebug = none := by kernel_rfl
theorem laidOut : laidOutB Tryz.prog = true := by kernel_rfl
theorem et : Tryz.prog.globalNamed "errors.errorType" = some 0 := by kernel_rfl
theorem rt : (Tryz.prog.cutTypes.find? (·.1 == "internal/reflectlite.rtype")).map (·.2) = some 211 := by kernel_rfl
theorem size : Tryz.prog.types.size = 483 := by kernel_rfl
theorem oneRow : ((List.range 483).filter fun t => Tryz.prog.rowNamed t [101, 114, 114, 111, 114]) = [35] := by kernel_rfl

/-- What the condition gives the walk: the handle's cell. -/
theorem handle_of_laid {W : World} (h : laidMetH Tryz.prog Rows.restorePicksRow.laid W) : Handle W := by
  have h' : laidMet Tryz.prog (Rows.restorePicksRow.laid.filter fun x => x.2.handleName?.isNone) W ∧ handlesMet Tryz.prog [("errors.errorType", Rows.laid_errors_errorType)] W := h
  obtain ⟨name, u, ty, e1, e2, e3, e4, e5⟩ := h'.2 _ (List.mem_singleton.2 rfl)
  have en : name = [101, 114, 114, 111, 114] := (Option.some.inj e1).symm
  subst en
  obtain rfl := Option.some.inj (rt.symm.trans e2)
  have hm : ty ∈ (List.range 483).filter fun t => Tryz.prog.rowNamed t [101, 114, 114, 111, 114] := List.mem_filter.2 ⟨List.mem_range.2 (by rw [← size]; exact e3), e4⟩
  rw [oneRow] at hm
  obtain rfl := List.mem_singleton.1 hm
  have hh : typeHandle Tryz.prog 35 = .pointer (some ⟨4, 35, none⟩) := by kernel_rfl
  rw [hh] at e5
  have := World.var?_cell et e5 0
  simpa [Handle] using this

/-- A world that meets the condition. -/
noncomputable def handleWorld (os : Os) : World :=
  let w0 := World.holding Tryz.prog os ⟨#[], #[], []⟩
  { w0 with heap := w0.heap.modify 0 fun
      | .cells _ t frozen => .cells #[.iface 211 (.agg #[.pointer (some ⟨4, 35, none⟩)])] t frozen
      | o => o }
def plainLaid : List (String × DataW Unit) := Rows.restorePicksRow.laid.filter fun x => x.2.handleName?.isNone
noncomputable def laidWorld (os : Os) : World := (handleWorld os).layVars Tryz.prog plainLaid
theorem laidWorld_os (os : Os) : (laidWorld os).os = os := World.layVars_os _ _ _
theorem laidWorld_plain (os : Os) : laidMet Tryz.prog plainLaid (laidWorld os) := by
  have e1 : (plainLaid.filter fun x => (plainLaid.map (·.1)).contains x.1) = plainLaid := List.filter_eq_self.2 fun x hx => List.contains_iff_mem.2 (List.mem_map.2 ⟨x, hx, rfl⟩)
  have e2 : (plainLaid.filter fun x => !(plainLaid.map (·.1)).contains x.1) = [] := List.filter_eq_nil_iff.2 fun x hx => by rw [List.contains_iff_mem.2 (List.mem_map.2 ⟨x, hx, rfl⟩)]; simp
  exact laidMet_layVars (w0 := handleWorld os) (plainLaid.map (·.1)) [] (by rw [e1]; rfl) (by rw [e1]; kernel_rfl) (by rw [e1]; kernel_rfl) (by rw [e2]; exact LaidIn.none)
theorem laidWorld_met (os : Os) (args : Array Value) : laidMetH Tryz.prog Rows.restorePicksRow.laid ((laidWorld os).forCall (fun _ _ => 0) ⟨#[], args, []⟩).memory :=
  laidMetH_of_parts ((laidWorld_plain os).of_heap (by simp [World.memory, World.forCall, Input.heap])) (by kernel_rfl)

theorem lifted (os : Os) (started : os.Started) (H : Type) (enc : TypeId × Value → H) :
    ReturnsInHanded {} Tryz.checked os 3 .any (fun w args => (Rows.restorePicksSpec.pre enc Tryz.prog Tryz.f3 Rows.restorePicksRow.domain false w args ∧ laidMetH Tryz.prog Rows.restorePicksRow.laid w) ∧ sizedMet enc Tryz.prog Tryz.f3 (OpenSpec.ofChange Rows.restorePicksSpec) false w args)
      (Rows.restorePicksSpec.post enc Tryz.prog Tryz.f3 false true false false) := by
  refine returnsInHanded_of_change_and (C := Tryz.checked) (X := fun w _ => laidMetH Tryz.prog Rows.restorePicksRow.laid w) (fun _ _ _ hh h => h.of_heap hh) own started (by kernel_rfl) Tryz.func3
    (ChangeSpec.witness_shaped (enc := enc) (C := Tryz.checked) (os := os) (X := fun w _ => laidMetH Tryz.prog Rows.restorePicksRow.laid w) false (laidWorld os) #[.slice none 0 0, .slice none 0 0] 8 (laidWorld_os _)
      (World.shaped_of_ZipB (by kernel_rfl) (by kernel_rfl)) (by kernel_rfl) (by kernel_rfl) (by kernel_rfl) (laidWorld_met os _)) ?_
  intro W base args ds gs before hval0 hW _ hsz0 hL _
  have hsz : (DataW.weightsEach Tryz.prog (Tryz.f3.params.toList ++ Rows.restorePicksSpec.plain.varTypes Tryz.prog) (ds ++ gs)).all (· ≤ reachBytes) = true := hsz0
  have hval : ∀ (j : Nat) t v, Tryz.f3.params[j]? = some t → args[j]? = some v → Value.okWide Tryz.prog W .any base t v := hval0
  have hg := handle_of_laid hL
  have hW' := hW
  obtain ⟨p, q, hA0, hV, rfl, hfz, hnd⟩ := hW
  have hA : DataW.TrodAll enc Tryz.prog W 0 (fun _ => true) true Tryz.f3.params.toList args.toList ds p := hA0
  rw [Tryz.params3] at hA hval hsz
  obtain ⟨v0, vs0, d0, ds0, p0, q0, hargs, rfl, rfl, h0, r0⟩ := trodAll_cons hA
  obtain ⟨v1, vs1, d1, ds1, p1, q1, rfl, rfl, rfl, h1, r1⟩ := trodAll_cons r0
  obtain ⟨rfl, rfl, rfl⟩ := trodAll_nil r1
  obtain rfl : args = #[v0, v1] := by cases args; simp_all
  obtain ⟨rfl, rfl⟩ := trodVars_none hV
  obtain ⟨a0, len0, cap0, rfl⟩ := okWide_slice Tryz.underlying22 (hval 0 22 v0 rfl rfl)
  have k0 := h0
  have lt0 : ∀ x ∈ p0, x.block < W.heap.size := by obtain ⟨m, hm⟩ := k0; exact DataW.trod_lt m _ _ _ hm
  obtain ⟨l0, rfl, hc0, hr0, hz0, hg0⟩ := OpenK.arg_slice OpenK.opens22 hsz (j := 0) (t := 22) rfl rfl h0
  obtain ⟨a1, len1, cap1, rfl⟩ := okWide_slice Tryz.underlying23 (hval 1 23 v1 rfl rfl)
  have k1 := h1
  have lt1 : ∀ x ∈ p1, x.block < W.heap.size := by obtain ⟨m, hm⟩ := k1; exact DataW.trod_lt m _ _ _ hm
  obtain ⟨l1, rfl, hc1, hr1, hz1, hg1⟩ := OpenK.arg_slice OpenK.opens23 hsz (j := 1) (t := 23) rfl rfl h1
  clear hA0 hval0 hsz0 hsz
  refine (Law.law_any a0 cap0 l0 a1 cap1 l1 W hr0 hr1 hc0 hg0 hg1 hg).mono fun e W' ⟨he, bel⟩ => ?_
  subst he
  exact ⟨_, rfl, _, _, _, [], _, [], hW', trodAll_mk1 (shut_bool Tryz.underlying4 _), (trodAll_cons_mk (Below.trod laidOut (by kernel_rfl) (of_decide_eq_true (by kernel_rfl)) k0 bel lt0) (trodAll_cons_mk (Below.trod laidOut (by kernel_rfl) (of_decide_eq_true (by kernel_rfl)) k1 bel lt1) trodAll_mk0)), rfl, bel.frame _, fun h => by cases h⟩

theorem leaving (os : Os) (started : os.Started) (H : Type) (enc : TypeId × Value → H) :
    ReturnsInLeavingWide {} Tryz.checked os 3 .any (fun w args => (Rows.restorePicksSpec.pre enc Tryz.prog Tryz.f3 Rows.restorePicksRow.domain false w args ∧ laidMetH Tryz.prog Rows.restorePicksRow.laid w) ∧ sizedMet enc Tryz.prog Tryz.f3 (OpenSpec.ofChange Rows.restorePicksSpec) false w args)
      (Rows.restorePicksSpec.post enc Tryz.prog Tryz.f3 false true false false) := fun enter =>
  (lifted os started H enc enter).mono (fun _ _ _ x => ⟨x.2.1, onlyLeaving_of_quiet x.1, x.2.2⟩) (fun _ h => h)
end Go.Proofs.YtdekmeanlcpenaaGreatDoor.restorePicks

namespace Go.Proofs.YtdekmeanlcpenaaGreatDoor.Closed
set_option maxRecDepth 100000
theorem and2 {a b : Bool} (h1 : a = true) (h2 : b = true) : (a && b) = true := by rw [h1, h2]; rfl
theorem kLaidOut : laidOutB Tryz.prog = true := by kernel_rfl
theorem kMaps : mapsRowed Tryz.prog = true := by kernel_rfl
theorem kStops : (Tryz.prog.stops == []) = true := by kernel_rfl
theorem kKnobs : (Tryz.prog.stopKnobs == []) = true := by kernel_rfl
theorem kHeard : Tryz.prog.stopsHeard = true := by kernel_rfl
theorem kMayEnter : Tryz.prog.mayEnter = true := by kernel_rfl
end Go.Proofs.YtdekmeanlcpenaaGreatDoor.Closed

namespace Go.Proofs.YtdekmeanlcpenaaGreatDoor.restorePicks
open Go.Proofs.YtdekmeanlcpenaaGreatDoor.Closed
set_option maxRecDepth 100000
theorem c1 : Rows.restorePicksRow.wf (OpenSpec.ofChange Rows.restorePicksSpec) = true := by kernel_rfl
theorem c4 : Tryz.f3.params.all (Tryz.prog.readableRec ·) = true := by kernel_rfl
theorem c5 : namedTie Tryz.prog Rows.restorePicksRow.named Rows.restorePicksSpec.vars = true := by kernel_rfl
theorem c6 : (Rows.restorePicksRow.stops == []) = true := by kernel_rfl
theorem c8 : (Rows.restorePicksRow.knobs == []) = true := by kernel_rfl
theorem c10 : (Rows.restorePicksRow.inPlace == Tryz.prog.inPlace 3) = true := by kernel_rfl
theorem c11 : (Rows.restorePicksRow.unfollowed == Tryz.prog.unfollowed 3) = true := by kernel_rfl
theorem c12 : (Rows.restorePicksRow.recurses == Tryz.prog.recurses 3) = true := by kernel_rfl
theorem c13 : (Rows.restorePicksRow.named == Tryz.prog.varsNamed 3) = true := by kernel_rfl
theorem c14 : (Rows.restorePicksRow.maps == (Tryz.f3.params.toList ++ Rows.restorePicksSpec.plain.varTypes Tryz.prog).any (Tryz.prog.mapsRec ·)) = true := by kernel_rfl
theorem c15 : (Rows.restorePicksRow.ifaces == (Tryz.f3.params.toList ++ Rows.restorePicksSpec.plain.varTypes Tryz.prog).any (Tryz.prog.ifacesRec ·)) = true := by kernel_rfl
theorem c16 : (Rows.restorePicksRow.mapsOut == Tryz.prog.mapsAmong Tryz.f3.resultTypes.toList) = true := by kernel_rfl
theorem c17 : (Rows.restorePicksRow.loops == (Tryz.f3.params.toList ++ Rows.restorePicksSpec.plain.varTypes Tryz.prog).any (Tryz.prog.loopsFrom ·)) = true := by kernel_rfl
theorem c18 : (Rows.restorePicksRow.wideKeys == (Tryz.f3.params.toList ++ Rows.restorePicksSpec.plain.varTypes Tryz.prog ++ Tryz.f3.resultTypes.toList).any (Tryz.prog.wideKeysFrom ·)) = true := by kernel_rfl
theorem c19 : Rows.restorePicksSpec.vars.all (Tryz.prog.varReadable ·) = true := by kernel_rfl
theorem c20 : Tryz.f3.resultTypes.all (fun t => Tryz.prog.readableRec t && decide (t < Tryz.prog.types.size)) = true := by kernel_rfl
theorem c21 : (Rows.restorePicksRow.ifacesOut == Tryz.f3.resultTypes.toList.any (Tryz.prog.ifacesRec ·)) = true := by kernel_rfl
theorem c22 : (Rows.restorePicksRow.loopsOut == Tryz.f3.resultTypes.toList.any (Tryz.prog.loopsFrom ·)) = true := by kernel_rfl
theorem c23 : (Rows.restorePicksRow.plainKeys == Tryz.prog.plainKeys) = true := by kernel_rfl
theorem c24 : Rows.restorePicksRow.shortTexts.isNone = true := by kernel_rfl
theorem c27 : (Rows.restorePicksRow.lifted == Tryz.prog.liftsFinal) = true := by kernel_rfl
theorem c28 : (Tryz.prog.make == some Rows.restorePicksRow.make) = true := by kernel_rfl
theorem c29 : (Rows.restorePicksRow.kinds == (if Rows.restorePicksRow.domain.isEmpty then [] else Tryz.f3.params.toList.map fun t => match Tryz.prog.underlying t with | some (.int k) => some k | _ => none)) = true := by kernel_rfl
theorem c30 : (Rows.restorePicksRow.pinned == Rows.restorePicksRow.pinnedBy) = true := by kernel_rfl
theorem c31 : (Rows.restorePicksRow.veiled == (Tryz.f3.params.toList ++ Rows.restorePicksSpec.plain.varTypes Tryz.prog ++ Tryz.f3.resultTypes.toList).any (Tryz.prog.veiledRec ·)) = true := by kernel_rfl
theorem c32 : Rows.restorePicksRow.veiledFits Tryz.prog Tryz.f3.params.toList (Tryz.f3.params.toList ++ Rows.restorePicksSpec.plain.varTypes Tryz.prog ++ Tryz.f3.resultTypes.toList) = true := by kernel_rfl
theorem closed : joinedFacts Tryz.prog 3 Tryz.f3 Rows.restorePicksSpec Rows.restorePicksRow = true := by
  unfold joinedFacts
  exact and2 (and2 (and2 (and2 (and2 (and2 (and2 (and2 (and2 (and2 (and2 (and2 (and2 (and2 (and2 (and2 (and2 (and2 (and2 (and2 (and2 (and2 (and2 (and2 (and2 (and2 (and2 (and2 (and2 (and2 (and2 (c1) kLaidOut) kMaps) c4) c5) c6) kStops) c8) kKnobs) c10) c11) c12) c13) c14) c15) c16) c17) c18) c19) c20) c21) c22) c23) c24) kHeard) kMayEnter) c27) c28) c29) c30) c31) c32
end Go.Proofs.YtdekmeanlcpenaaGreatDoor.restorePicks
