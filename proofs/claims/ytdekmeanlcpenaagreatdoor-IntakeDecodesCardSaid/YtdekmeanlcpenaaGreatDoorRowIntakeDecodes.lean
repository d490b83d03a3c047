/- IntakeDecodes returns true for every list of bytes, and its argument reads as before. Conditions: none beyond those of the given row (the laid variables, which the card ties). -/
import Derived.Test.YtdekmeanlcpenaaGreatDoorCg1
import Derived.Test.YtdekmeanlcpenaaGreatDoorCg17
import Derived.Test.YtdekmeanlcpenaaGreatDoorCg11
namespace Go.Proofs.YtdekmeanlcpenaaGreatDoor.intakeDecodes
open Go.ChangeShapes Go.WideShapes Go.ChangeAt Go.RowKit Go.Proofs.YtdekmeanlcpenaaGreatDoorW.PrintWords Go.Proofs.YtdekmeanlcpenaaGreatDoor.LaidC
set_option maxRecDepth 100000
theorem lifted (os : Os) (started : os.Started) (H : Type) (enc : TypeId × Value → H) :
    ReturnsInHanded {} Tryz.checked os 6 .any (fun w args => (Rows.intakeDecodesSpec.pre enc Tryz.prog Tryz.f6 Rows.intakeDecodesRow.domain false w args ∧ laidMetH Tryz.prog Rows.intakeDecodesRow.laid w) ∧ sizedMet enc Tryz.prog Tryz.f6 (OpenSpec.ofChange Rows.intakeDecodesSpec) false w args)
      (Rows.intakeDecodesSpec.post enc Tryz.prog Tryz.f6 false true false false) := by
  refine returnsInHanded_of_change_and (C := Tryz.checked) (X := fun w _ => laidMetH Tryz.prog Rows.intakeDecodesRow.laid w) (fun _ _ _ hh h => h.of_heap hh) own started (by kernel_rfl) Tryz.func6
    (ChangeSpec.witness_shaped (enc := enc) (C := Tryz.checked) (os := os) (X := fun w _ => laidMetH Tryz.prog Rows.intakeDecodesRow.laid w) false (laidWorld os) #[.slice none 0 0] 8 (laidWorld_os _)
      (World.shaped_of_ZipB (by kernel_rfl) (by kernel_rfl)) (by kernel_rfl) (by kernel_rfl) (by kernel_rfl) (laidWorld_met os _)) ?_
  intro W base args ds gs before hval0 hW _ hsz0 hL _
  have hsz : (DataW.weightsEach Tryz.prog (Tryz.f6.params.toList ++ Rows.intakeDecodesSpec.plain.varTypes Tryz.prog) (ds ++ gs)).all (· ≤ reachBytes) = true := hsz0
  have hval : ∀ (j : Nat) t v, Tryz.f6.params[j]? = some t → args[j]? = some v → Value.okWide Tryz.prog W .any base t v := hval0
  have hg := handle_of_laid hL
  have hW' := hW
  obtain ⟨p, q, hA0, hV, rfl, hfz, hnd⟩ := hW
  have hA : DataW.TrodAll enc Tryz.prog W 0 (fun _ => true) true Tryz.f6.params.toList args.toList ds p := hA0
  rw [Tryz.params6] at hA hval hsz
  obtain ⟨v0, vs0, d0, ds0, p0, q0, hargs, rfl, rfl, h0, r0⟩ := trodAll_cons hA
  obtain ⟨rfl, rfl, rfl⟩ := trodAll_nil r0
  obtain rfl : args = #[v0] := by cases args; simp_all
  obtain ⟨rfl, rfl⟩ := trodVars_none hV
  have k0 := h0
  have lt0 : ∀ x ∈ p0, x.block < W.heap.size := by obtain ⟨m, hm⟩ := k0; exact DataW.trod_lt m _ _ _ hm
  obtain ⟨a0, len0, cap0, rfl⟩ := okWide_slice Tryz.underlying47 (hval 0 47 v0 rfl rfl)
  obtain ⟨l0, rfl, hc0, hr0, hz0, hg0⟩ := OpenK.arg_slice OpenK.opens47 hsz (j := 0) (t := 47) rfl rfl h0
  clear hA0 hval0 hsz0 hsz
  refine (Law.lawdec l0 a0 cap0 W hr0 (OpenK.bytes_wf hg0) (by omega) hc0 hg).mono fun e W' ⟨he, bel⟩ => ?_
  subst he
  exact ⟨_, rfl, _, _, _, [], _, [], hW', trodAll_mk1 (shut_bool Tryz.underlying4 _), (trodAll_cons_mk (Below.trod laidOut (by kernel_rfl) (of_decide_eq_true (by kernel_rfl)) k0 bel lt0) trodAll_mk0), rfl, bel.frame _, fun h => by cases h⟩
theorem leaving (os : Os) (started : os.Started) (H : Type) (enc : TypeId × Value → H) :
    ReturnsInLeavingWide {} Tryz.checked os 6 .any (fun w args => (Rows.intakeDecodesSpec.pre enc Tryz.prog Tryz.f6 Rows.intakeDecodesRow.domain false w args ∧ laidMetH Tryz.prog Rows.intakeDecodesRow.laid w) ∧ sizedMet enc Tryz.prog Tryz.f6 (OpenSpec.ofChange Rows.intakeDecodesSpec) false w args)
      (Rows.intakeDecodesSpec.post enc Tryz.prog Tryz.f6 false true false false) := fun enter =>
  (lifted os started H enc enter).mono (fun _ _ _ x => ⟨x.2.1, onlyLeaving_of_quiet x.1, x.2.2⟩) (fun _ h => h)
theorem named : Tryz.prog.funcNamed Rows.intakeDecodesRow.func = some 6 := by kernel_rfl
theorem wrap : Tryz.f6.isWrapper Tryz.prog Rows.intakeDecodesRow.wrapper Rows.intakeDecodesRow.mainSum := by unfold Func.isWrapper; first | (rw [if_pos (by decide +kernel)]; kernel_rfl) | (rw [if_neg (by decide +kernel)]; exact ⟨rfl, rfl⟩)
theorem inst : Tryz.f6.isInstance Tryz.prog Rows.intakeDecodesRow.origin Rows.intakeDecodesRow.targs := of_decide_eq_true (by kernel_rfl)
theorem over : Rows.intakeDecodesRow.holds Tryz.pinned (OpenSpec.ofChange Rows.intakeDecodesSpec) :=
  OpenClaim.holds_of_wide_leaving 6 Tryz.f6 rfl rfl rfl rfl rfl rfl rfl ⟨rfl, rfl, rfl, rfl, rfl⟩ rfl rfl rfl rfl rfl named Tryz.func6 closed inst wrap
    (fun os started H enc _ => leaving os started H enc)
theorem cardProved : Rows.IntakeDecodesCardSaid :=
  tied_plain_goes .later [] [.data, .handle, .pinned] true (true, "77ec33d7c4b608a9c9831498d3c51b8cd9e3586456ecc2ea6e2cab7d46afc6c9") true true over (fun _ h => by cases h) (by kernel_rfl) (fun _ h => by cases h) intakeDecodes_row_tie rfl ⟨rfl, rfl⟩ (by kernel_rfl) rfl
    (fun f fn hf hfn => by
      obtain rfl : f = 6 := Option.some.inj (named.symm.trans hf) |>.symm
      obtain rfl : fn = Tryz.f6 := (Option.some.inj (Tryz.func6.symm.trans hfn)).symm
      exact ⟨by kernel_rfl, fun j t ht => by
        rw [Tryz.params6] at ht
        have hm : t ∈ ([47] : List Nat) := by simpa using Array.mem_of_getElem? ht
        have hall : (([47] : List Nat).all fun u => !Tryz.prog.wantsStandIn u) = true := by kernel_rfl
        exact (show Tryz.prog.wantsStandIn t = false by simpa using List.all_eq_true.1 hall t hm)⟩)
    (by kernel_rfl)
end Go.Proofs.YtdekmeanlcpenaaGreatDoor.intakeDecodes
namespace Go.Proofs.YtdekmeanlcpenaaGreatDoor
theorem intakeDecodes_holds : Rows.IntakeDecodesCardSaid := intakeDecodes.cardProved
#print axioms intakeDecodes_holds
end Go.Proofs.YtdekmeanlcpenaaGreatDoor
