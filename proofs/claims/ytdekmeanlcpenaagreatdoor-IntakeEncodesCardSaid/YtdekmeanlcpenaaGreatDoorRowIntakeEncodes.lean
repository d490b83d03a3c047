/- IntakeEncodes returns true for every journal, and its argument reads as before. Conditions: none beyond those of the given row (the laid variables, which the card ties). -/
import Derived.Test.YtdekmeanlcpenaaGreatDoorCe1
import Derived.Test.YtdekmeanlcpenaaGreatDoorCe15
import Derived.Test.YtdekmeanlcpenaaGreatDoorCe9
namespace Go.Proofs.YtdekmeanlcpenaaGreatDoor.intakeEncodes
open Go.ChangeShapes Go.WideShapes Go.ChangeAt Go.RowKit Go.Proofs.YtdekmeanlcpenaaGreatDoorW.PrintWords Go.Proofs.YtdekmeanlcpenaaGreatDoor.LaidC
set_option maxRecDepth 100000
theorem lifted (os : Os) (started : os.Started) (H : Type) (enc : TypeId × Value → H) :
    ReturnsInHanded {} Tryz.checked os 5 .any (fun w args => (Rows.intakeEncodesSpec.pre enc Tryz.prog Tryz.f5 Rows.intakeEncodesRow.domain false w args ∧ laidMetH Tryz.prog Rows.intakeEncodesRow.laid w) ∧ sizedMet enc Tryz.prog Tryz.f5 (OpenSpec.ofChange Rows.intakeEncodesSpec) false w args)
      (Rows.intakeEncodesSpec.post enc Tryz.prog Tryz.f5 false true false false) := by
  refine returnsInHanded_of_change_and (C := Tryz.checked) (X := fun w _ => laidMetH Tryz.prog Rows.intakeEncodesRow.laid w) (fun _ _ _ hh h => h.of_heap hh) own started (by kernel_rfl) Tryz.func5
    (ChangeSpec.witness_shaped (enc := enc) (C := Tryz.checked) (os := os) (X := fun w _ => laidMetH Tryz.prog Rows.intakeEncodesRow.laid w) false (laidWorld os) #[.agg #[.string .empty, .int .i64 0, .int .i64 0, .slice none 0 0, .slice none 0 0, .slice none 0 0]] 8 (laidWorld_os _)
      (World.shaped_of_ZipB (by kernel_rfl) (by kernel_rfl)) (by kernel_rfl) (by kernel_rfl) (by kernel_rfl) (laidWorld_met os _)) ?_
  intro W base args ds gs before hval0 hW _ hsz0 hL _
  have hsz : (DataW.weightsEach Tryz.prog (Tryz.f5.params.toList ++ Rows.intakeEncodesSpec.plain.varTypes Tryz.prog) (ds ++ gs)).all (· ≤ reachBytes) = true := hsz0
  have hval : ∀ (j : Nat) t v, Tryz.f5.params[j]? = some t → args[j]? = some v → Value.okWide Tryz.prog W .any base t v := hval0
  have hg := handle_of_laid hL
  have hW' := hW
  obtain ⟨p, q, hA0, hV, rfl, hfz, hnd⟩ := hW
  have hA : DataW.TrodAll enc Tryz.prog W 0 (fun _ => true) true Tryz.f5.params.toList args.toList ds p := hA0
  rw [Tryz.params5] at hA hval hsz
  obtain ⟨v0, vs0, d0, ds0, p0, q0, hargs, rfl, rfl, h0, r0⟩ := trodAll_cons hA
  obtain ⟨rfl, rfl, rfl⟩ := trodAll_nil r0
  obtain rfl : args = #[v0] := by cases args; simp_all
  obtain ⟨rfl, rfl⟩ := trodVars_none hV
  have k0 := h0
  have lt0 : ∀ x ∈ p0, x.block < W.heap.size := by obtain ⟨m, hm⟩ := k0; exact DataW.trod_lt m _ _ _ hm
  obtain ⟨j0, A1, c1, A2, c2, A3, c3, rfl, hj0, hn0⟩ := OpenK.arg_jn hsz (i := 0) rfl rfl (hval 0 60 v0 rfl rfl) h0
  clear hA0 hval0 hsz0 hsz
  refine (Law.lawenc j0 A1 c1 A2 c2 A3 c3 W hj0 hn0.res hn0.need hn0.tab hg).mono fun e W' ⟨he, bel⟩ => ?_
  subst he
  exact ⟨_, rfl, _, _, _, [], _, [], hW', trodAll_mk1 (shut_bool Tryz.underlying4 _), (trodAll_cons_mk (Below.trod laidOut (by kernel_rfl) (of_decide_eq_true (by kernel_rfl)) k0 bel lt0) trodAll_mk0), rfl, bel.frame _, fun h => by cases h⟩
theorem leaving (os : Os) (started : os.Started) (H : Type) (enc : TypeId × Value → H) :
    ReturnsInLeavingWide {} Tryz.checked os 5 .any (fun w args => (Rows.intakeEncodesSpec.pre enc Tryz.prog Tryz.f5 Rows.intakeEncodesRow.domain false w args ∧ laidMetH Tryz.prog Rows.intakeEncodesRow.laid w) ∧ sizedMet enc Tryz.prog Tryz.f5 (OpenSpec.ofChange Rows.intakeEncodesSpec) false w args)
      (Rows.intakeEncodesSpec.post enc Tryz.prog Tryz.f5 false true false false) := fun enter =>
  (lifted os started H enc enter).mono (fun _ _ _ x => ⟨x.2.1, onlyLeaving_of_quiet x.1, x.2.2⟩) (fun _ h => h)
theorem named : Tryz.prog.funcNamed Rows.intakeEncodesRow.func = some 5 := by kernel_rfl
theorem wrap : Tryz.f5.isWrapper Tryz.prog Rows.intakeEncodesRow.wrapper Rows.intakeEncodesRow.mainSum := by unfold Func.isWrapper; first | (rw [if_pos (by decide +kernel)]; kernel_rfl) | (rw [if_neg (by decide +kernel)]; exact ⟨rfl, rfl⟩)
theorem inst : Tryz.f5.isInstance Tryz.prog Rows.intakeEncodesRow.origin Rows.intakeEncodesRow.targs := of_decide_eq_true (by kernel_rfl)
theorem over : Rows.intakeEncodesRow.holds Tryz.pinned (OpenSpec.ofChange Rows.intakeEncodesSpec) :=
  OpenClaim.holds_of_wide_leaving 5 Tryz.f5 rfl rfl rfl rfl rfl rfl rfl ⟨rfl, rfl, rfl, rfl, rfl⟩ rfl rfl rfl rfl rfl named Tryz.func5 closed inst wrap
    (fun os started H enc _ => leaving os started H enc)
theorem cardProved : Rows.IntakeEncodesCardSaid :=
  tied_plain_goes .later [] [.data, .handle, .pinned] true (true, "77ec33d7c4b608a9c9831498d3c51b8cd9e3586456ecc2ea6e2cab7d46afc6c9") true true over (fun _ h => by cases h) (by kernel_rfl) (fun _ h => by cases h) intakeEncodes_row_tie rfl ⟨rfl, rfl⟩ (by kernel_rfl) rfl
    (fun f fn hf hfn => by
      obtain rfl : f = 5 := Option.some.inj (named.symm.trans hf) |>.symm
      obtain rfl : fn = Tryz.f5 := (Option.some.inj (Tryz.func5.symm.trans hfn)).symm
      exact ⟨by kernel_rfl, fun j t ht => by
        rw [Tryz.params5] at ht
        have hm : t ∈ ([60] : List Nat) := by simpa using Array.mem_of_getElem? ht
        have hall : (([60] : List Nat).all fun u => !Tryz.prog.wantsStandIn u) = true := by kernel_rfl
        exact (show Tryz.prog.wantsStandIn t = false by simpa using List.all_eq_true.1 hall t hm)⟩)
    (by kernel_rfl)
end Go.Proofs.YtdekmeanlcpenaaGreatDoor.intakeEncodes
namespace Go.Proofs.YtdekmeanlcpenaaGreatDoor
theorem intakeEncodes_holds : Rows.IntakeEncodesCardSaid := intakeEncodes.cardProved
#print axioms intakeEncodes_holds
end Go.Proofs.YtdekmeanlcpenaaGreatDoor
