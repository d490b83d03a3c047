/- IntakeForm returns true for every journal, number and byte, and its arguments read as before. Conditions: none beyond those of the given row (the laid variables, which the card ties). -/
import Derived.Test.YtdekmeanlcpenaaGreatDoorCf1
import Derived.Test.YtdekmeanlcpenaaGreatDoorCf11
namespace Go.Proofs.YtdekmeanlcpenaaGreatDoor.intakeForm
open Go.ChangeShapes Go.WideShapes Go.ChangeAt Go.RowKit Go.Proofs.YtdekmeanlcpenaaGreatDoorW.PrintWords Go.Proofs.YtdekmeanlcpenaaGreatDoor.LaidC
set_option maxRecDepth 100000
theorem lifted (os : Os) (started : os.Started) (H : Type) (enc : TypeId × Value → H) :
    ReturnsInHanded {} Tryz.checked os 7 .any (fun w args => (Rows.intakeFormSpec.pre enc Tryz.prog Tryz.f7 Rows.intakeFormRow.domain false w args ∧ laidMetH Tryz.prog Rows.intakeFormRow.laid w) ∧ sizedMet enc Tryz.prog Tryz.f7 (OpenSpec.ofChange Rows.intakeFormSpec) false w args)
      (Rows.intakeFormSpec.post enc Tryz.prog Tryz.f7 false true false false) := by
  refine returnsInHanded_of_change_and (C := Tryz.checked) (X := fun w _ => laidMetH Tryz.prog Rows.intakeFormRow.laid w) (fun _ _ _ hh h => h.of_heap hh) own started (by kernel_rfl) Tryz.func7
    (ChangeSpec.witness_shaped (enc := enc) (C := Tryz.checked) (os := os) (X := fun w _ => laidMetH Tryz.prog Rows.intakeFormRow.laid w) false (laidWorld os) #[.agg #[.string .empty, .int .i64 0, .int .i64 0, .slice none 0 0, .slice none 0 0, .slice none 0 0], .int .i64 0, .int .u8 0] 8 (laidWorld_os _)
      (World.shaped_of_ZipB (by kernel_rfl) (by kernel_rfl)) (by kernel_rfl) (by kernel_rfl) (by kernel_rfl) (laidWorld_met os _)) ?_
  intro W base args ds gs before hval0 hW _ hsz0 hL _
  have hsz : (DataW.weightsEach Tryz.prog (Tryz.f7.params.toList ++ Rows.intakeFormSpec.plain.varTypes Tryz.prog) (ds ++ gs)).all (· ≤ reachBytes) = true := hsz0
  have hval : ∀ (j : Nat) t v, Tryz.f7.params[j]? = some t → args[j]? = some v → Value.okWide Tryz.prog W .any base t v := hval0
  have hg := handle_of_laid hL
  have hW' := hW
  obtain ⟨p, q, hA0, hV, rfl, hfz, hnd⟩ := hW
  have hA : DataW.TrodAll enc Tryz.prog W 0 (fun _ => true) true Tryz.f7.params.toList args.toList ds p := hA0
  rw [Tryz.params7] at hA hval hsz
  obtain ⟨v0, vs0, d0, ds0, p0, q0, hargs, rfl, rfl, h0, r0⟩ := trodAll_cons hA
  obtain ⟨v1, vs1, d1, ds1, p1, q1, rfl, rfl, rfl, h1, r1⟩ := trodAll_cons r0
  obtain ⟨v2, vs2, d2, ds2, p2, q2, rfl, rfl, rfl, h2, r2⟩ := trodAll_cons r1
  obtain ⟨rfl, rfl, rfl⟩ := trodAll_nil r2
  obtain rfl : args = #[v0, v1, v2] := by cases args; simp_all
  obtain ⟨rfl, rfl⟩ := trodVars_none hV
  have k0 := h0
  have lt0 : ∀ x ∈ p0, x.block < W.heap.size := by obtain ⟨m, hm⟩ := k0; exact DataW.trod_lt m _ _ _ hm
  obtain ⟨j0, A1, c1, A2, c2, A3, c3, rfl, hj0, hn0⟩ := OpenK.arg_jn hsz (i := 0) rfl rfl (hval 0 60 v0 rfl rfl) h0
  have k1 := h1
  have lt1 : ∀ x ∈ p1, x.block < W.heap.size := by obtain ⟨m, hm⟩ := k1; exact DataW.trod_lt m _ _ _ hm
  obtain ⟨l1, rfl, hb1⟩ := OpenK.arg_int (k := .i64) Tryz.underlying3 (hval 1 3 v1 rfl rfl) h1
  have k2 := h2
  have lt2 : ∀ x ∈ p2, x.block < W.heap.size := by obtain ⟨m, hm⟩ := k2; exact DataW.trod_lt m _ _ _ hm
  obtain ⟨l2, rfl, hb2⟩ := OpenK.arg_int (k := .u8) Tryz.underlying5 (hval 2 5 v2 rfl rfl) h2
  clear hA0 hval0 hsz0 hsz
  refine (Law.law_form j0 A1 c1 A2 c2 A3 c3 l1 l2 W hj0 (OpenK.u8_wf hb2) hg).mono fun e W' ⟨he, bel⟩ => ?_
  subst he
  exact ⟨_, rfl, _, _, _, [], _, [], hW', trodAll_mk1 (shut_bool Tryz.underlying4 _), (trodAll_cons_mk (Below.trod laidOut (by kernel_rfl) (of_decide_eq_true (by kernel_rfl)) k0 bel lt0) (trodAll_cons_mk (Below.trod laidOut (by kernel_rfl) (of_decide_eq_true (by kernel_rfl)) k1 bel lt1) (trodAll_cons_mk (Below.trod laidOut (by kernel_rfl) (of_decide_eq_true (by kernel_rfl)) k2 bel lt2) trodAll_mk0))), rfl, bel.frame _, fun h => by cases h⟩
theorem leaving (os : Os) (started : os.Started) (H : Type) (enc : TypeId × Value → H) :
    ReturnsInLeavingWide {} Tryz.checked os 7 .any (fun w args => (Rows.intakeFormSpec.pre enc Tryz.prog Tryz.f7 Rows.intakeFormRow.domain false w args ∧ laidMetH Tryz.prog Rows.intakeFormRow.laid w) ∧ sizedMet enc Tryz.prog Tryz.f7 (OpenSpec.ofChange Rows.intakeFormSpec) false w args)
      (Rows.intakeFormSpec.post enc Tryz.prog Tryz.f7 false true false false) := fun enter =>
  (lifted os started H enc enter).mono (fun _ _ _ x => ⟨x.2.1, onlyLeaving_of_quiet x.1, x.2.2⟩) (fun _ h => h)
theorem named : Tryz.prog.funcNamed Rows.intakeFormRow.func = some 7 := by kernel_rfl
theorem wrap : Tryz.f7.isWrapper Tryz.prog Rows.intakeFormRow.wrapper Rows.intakeFormRow.mainSum := by unfold Func.isWrapper; first | (rw [if_pos (by decide +kernel)]; kernel_rfl) | (rw [if_neg (by decide +kernel)]; exact ⟨rfl, rfl⟩)
theorem inst : Tryz.f7.isInstance Tryz.prog Rows.intakeFormRow.origin Rows.intakeFormRow.targs := of_decide_eq_true (by kernel_rfl)
theorem over : Rows.intakeFormRow.holds Tryz.pinned (OpenSpec.ofChange Rows.intakeFormSpec) :=
  OpenClaim.holds_of_wide_leaving 7 Tryz.f7 rfl rfl rfl rfl rfl rfl rfl ⟨rfl, rfl, rfl, rfl, rfl⟩ rfl rfl rfl rfl rfl named Tryz.func7 closed inst wrap
    (fun os started H enc _ => leaving os started H enc)
theorem cardProved : Rows.IntakeFormCardSaid :=
  tied_plain_goes .later [] [.data, .handle, .pinned] true (true, "77ec33d7c4b608a9c9831498d3c51b8cd9e3586456ecc2ea6e2cab7d46afc6c9") true true over (fun _ h => by cases h) (by kernel_rfl) (fun _ h => by cases h) intakeForm_row_tie rfl ⟨rfl, rfl⟩ (by kernel_rfl) rfl
    (fun f fn hf hfn => by
      obtain rfl : f = 7 := Option.some.inj (named.symm.trans hf) |>.symm
      obtain rfl : fn = Tryz.f7 := (Option.some.inj (Tryz.func7.symm.trans hfn)).symm
      exact ⟨by kernel_rfl, fun j t ht => by
        rw [Tryz.params7] at ht
        have hm : t ∈ ([60, 3, 5] : List Nat) := by simpa using Array.mem_of_getElem? ht
        have hall : (([60, 3, 5] : List Nat).all fun u => !Tryz.prog.wantsStandIn u) = true := by kernel_rfl
        exact (show Tryz.prog.wantsStandIn t = false by simpa using List.all_eq_true.1 hall t hm)⟩)
    (by kernel_rfl)
end Go.Proofs.YtdekmeanlcpenaaGreatDoor.intakeForm
namespace Go.Proofs.YtdekmeanlcpenaaGreatDoor
theorem intakeForm_holds : Rows.IntakeFormCardSaid := intakeForm.cardProved
#print axioms intakeForm_holds
end Go.Proofs.YtdekmeanlcpenaaGreatDoor
