/- RestoreNothing returns true for every script, and its argument reads as before. Conditions: none beyond the given row's (the laid variables, which the card ties). -/
import Derived.Test.YtdekmeanlcpenaaGreatDoorGrN1
import Derived.Test.YtdekmeanlcpenaaGreatDoorGrN8
import Derived.Test.YtdekmeanlcpenaaGreatDoorGrN6
namespace Go.Proofs.YtdekmeanlcpenaaGreatDoor.restoreNothing
open Go.ChangeShapes Go.WideShapes Go.ChangeAt Go.RowKit Go.Proofs.YtdekmeanlcpenaaGreatDoorW.PrintWords Go.Proofs.YtdekmeanlcpenaaGreatDoor.LaidC
set_option maxRecDepth 100000
theorem lifted (os : Os) (started : os.Started) (H : Type) (enc : TypeId × Value → H) :
    ReturnsInHanded {} Tryz.checked os 4 .any (fun w args => (Rows.restoreNothingSpec.pre enc Tryz.prog Tryz.f4 Rows.restoreNothingRow.domain false w args ∧ laidMetH Tryz.prog Rows.restoreNothingRow.laid w) ∧ sizedMet enc Tryz.prog Tryz.f4 (OpenSpec.ofChange Rows.restoreNothingSpec) false w args)
      (Rows.restoreNothingSpec.post enc Tryz.prog Tryz.f4 false true false false) := by
  refine returnsInHanded_of_change_and (C := Tryz.checked) (X := fun w _ => laidMetH Tryz.prog Rows.restoreNothingRow.laid w) (fun _ _ _ hh h => h.of_heap hh) own started (by kernel_rfl) Tryz.func4
    (ChangeSpec.witness_shaped (enc := enc) (C := Tryz.checked) (os := os) (X := fun w _ => laidMetH Tryz.prog Rows.restoreNothingRow.laid w) false (laidWorld os) #[.slice none 0 0] 8 (laidWorld_os _)
      (World.shaped_of_ZipB (by kernel_rfl) (by kernel_rfl)) (by kernel_rfl) (by kernel_rfl) (by kernel_rfl) (laidWorld_met os _)) ?_
  intro W base args ds gs before hval0 hW _ hsz0 hL _
  have hsz : (DataW.weightsEach Tryz.prog (Tryz.f4.params.toList ++ Rows.restoreNothingSpec.plain.varTypes Tryz.prog) (ds ++ gs)).all (· ≤ reachBytes) = true := hsz0
  have hval : ∀ (j : Nat) t v, Tryz.f4.params[j]? = some t → args[j]? = some v → Value.okWide Tryz.prog W .any base t v := hval0
  have hg := handle_of_laid hL
  have hW' := hW
  obtain ⟨p, q, hA0, hV, rfl, hfz, hnd⟩ := hW
  have hA : DataW.TrodAll enc Tryz.prog W 0 (fun _ => true) true Tryz.f4.params.toList args.toList ds p := hA0
  rw [Tryz.params4] at hA hval hsz
  obtain ⟨v0, vs0, d0, ds0, p0, q0, hargs, rfl, rfl, h0, r0⟩ := trodAll_cons hA
  obtain ⟨rfl, rfl, rfl⟩ := trodAll_nil r0
  obtain rfl : args = #[v0] := by cases args; simp_all
  obtain ⟨rfl, rfl⟩ := trodVars_none hV
  have k0 := h0
  have lt0 : ∀ x ∈ p0, x.block < W.heap.size := by obtain ⟨m, hm⟩ := k0; exact DataW.trod_lt m _ _ _ hm
  obtain ⟨a0, len0, cap0, rfl⟩ := okWide_slice Tryz.underlying45 (hval 0 45 v0 rfl rfl)
  obtain ⟨l0, rfl, hc0, hr0, hz0, hg0⟩ := OpenK.arg_slice Nothing.opens45 hsz (j := 0) (t := 45) rfl rfl h0
  clear hA0 hval0 hsz0 hsz
  refine (Nothing.law_nothing a0 cap0 l0 W hr0 hc0 hg).mono fun e W' ⟨he, bel⟩ => ?_
  subst he
  exact ⟨_, rfl, _, _, _, [], _, [], hW', trodAll_mk1 (shut_bool Tryz.underlying4 _), (trodAll_cons_mk (Below.trod laidOut (by kernel_rfl) (of_decide_eq_true (by kernel_rfl)) k0 bel lt0) trodAll_mk0), rfl, bel.frame _, fun h => by cases h⟩
theorem leaving (os : Os) (started : os.Started) (H : Type) (enc : TypeId × Value → H) :
    ReturnsInLeavingWide {} Tryz.checked os 4 .any (fun w args => (Rows.restoreNothingSpec.pre enc Tryz.prog Tryz.f4 Rows.restoreNothingRow.domain false w args ∧ laidMetH Tryz.prog Rows.restoreNothingRow.laid w) ∧ sizedMet enc Tryz.prog Tryz.f4 (OpenSpec.ofChange Rows.restoreNothingSpec) false w args)
      (Rows.restoreNothingSpec.post enc Tryz.prog Tryz.f4 false true false false) := fun enter =>
  (lifted os started H enc enter).mono (fun _ _ _ x => ⟨x.2.1, onlyLeaving_of_quiet x.1, x.2.2⟩) (fun _ h => h)
theorem named : Tryz.prog.funcNamed Rows.restoreNothingRow.func = some 4 := by kernel_rfl
theorem wrap : Tryz.f4.isWrapper Tryz.prog Rows.restoreNothingRow.wrapper Rows.restoreNothingRow.mainSum := by unfold Func.isWrapper; first | (rw [if_pos (by decide +kernel)]; kernel_rfl) | (rw [if_neg (by decide +kernel)]; exact ⟨rfl, rfl⟩)
theorem inst : Tryz.f4.isInstance Tryz.prog Rows.restoreNothingRow.origin Rows.restoreNothingRow.targs := of_decide_eq_true (by kernel_rfl)
theorem over : Rows.restoreNothingRow.holds Tryz.pinned (OpenSpec.ofChange Rows.restoreNothingSpec) :=
  OpenClaim.holds_of_wide_leaving 4 Tryz.f4 rfl rfl rfl rfl rfl rfl rfl ⟨rfl, rfl, rfl, rfl, rfl⟩ rfl rfl rfl rfl rfl named Tryz.func4 closed inst wrap
    (fun os started H enc _ => leaving os started H enc)
theorem cardProved : Rows.RestoreNothingCardSaid :=
  tied_plain_goes .later [] [.data, .handle, .pinned] true (true, "77ec33d7c4b608a9c9831498d3c51b8cd9e3586456ecc2ea6e2cab7d46afc6c9") true true over (fun _ h => by cases h) (by kernel_rfl) (fun _ h => by cases h) restoreNothing_row_tie rfl ⟨rfl, rfl⟩ (by kernel_rfl) rfl
    (fun f fn hf hfn => by
      obtain rfl : f = 4 := Option.some.inj (named.symm.trans hf) |>.symm
      obtain rfl : fn = Tryz.f4 := (Option.some.inj (Tryz.func4.symm.trans hfn)).symm
      exact ⟨by kernel_rfl, fun j t ht => by
        rw [Tryz.params4] at ht
        have hm : t ∈ ([45] : List Nat) := by simpa using Array.mem_of_getElem? ht
        have hall : (([45] : List Nat).all fun u => !Tryz.prog.wantsStandIn u) = true := by kernel_rfl
        exact (show Tryz.prog.wantsStandIn t = false by simpa using List.all_eq_true.1 hall t hm)⟩)
    (by kernel_rfl)
end Go.Proofs.YtdekmeanlcpenaaGreatDoor.restoreNothing
namespace Go.Proofs.YtdekmeanlcpenaaGreatDoor
theorem restoreNothing_holds : Rows.RestoreNothingCardSaid := restoreNothing.cardProved
#print axioms restoreNothing_holds
end Go.Proofs.YtdekmeanlcpenaaGreatDoor
