/- RestorePicks returns true for every table and every list of actions, and its arguments read as before. Conditions: none beyond the given row's (errors.errorType and unicode/utf8's two tables are laid as the program's text lays them; the card ties them). -/
import Derived.Test.YtdekmeanlcpenaaGreatDoorGrP10
namespace Go.Proofs.YtdekmeanlcpenaaGreatDoor.restorePicks
set_option maxRecDepth 100000
theorem named : Tryz.prog.funcNamed Rows.restorePicksRow.func = some 3 := by kernel_rfl
theorem wrap : Tryz.f3.isWrapper Tryz.prog Rows.restorePicksRow.wrapper Rows.restorePicksRow.mainSum := by unfold Func.isWrapper; first | (rw [if_pos (by decide +kernel)]; kernel_rfl) | (rw [if_neg (by decide +kernel)]; exact ⟨rfl, rfl⟩)
theorem inst : Tryz.f3.isInstance Tryz.prog Rows.restorePicksRow.origin Rows.restorePicksRow.targs := of_decide_eq_true (by kernel_rfl)
theorem over : Rows.restorePicksRow.holds Tryz.pinned (OpenSpec.ofChange Rows.restorePicksSpec) :=
  OpenClaim.holds_of_wide_leaving 3 Tryz.f3 rfl rfl rfl rfl rfl rfl rfl ⟨rfl, rfl, rfl, rfl, rfl⟩ rfl rfl rfl rfl rfl named Tryz.func3 closed inst wrap
    (fun os started H enc _ => leaving os started H enc)
/-- The tied card of a row that may hand goroutines over (after the kit's holds_tied_plain_at, 'goes' being what the program says). -/
theorem tied_plain_goes (Lk : Looks) {p : Pinned} {s : OpenSpec} {c : OpenClaim} (al : List (List PathCond)) (kinds : List LaidKind) (tests : Bool) (har : Bool × String) (lk gs : Bool)
    (hc : c.holds p s) (hal : ∀ D ∈ al, (c.withDomain D).holds p s) (hw : c.wfByText s = true) (hwal : ∀ D ∈ al, (c.withDomain D).wfByText s = true)
    (htie : c.laidByTextAt Lk p kinds tests)
    (hst : c.start = .entering) (hnb : c.noBlocks = false ∧ c.again = false) (hm : p.checked.prog.mainIs = some (har.1, har.2.toList)) (hn : (!har.1 && har.2.isEmpty && !lk) = false)
    (hl : ∀ f fn, p.checked.prog.funcNamed c.func = some f → p.checked.prog.funcs[f]? = some fn → lk = p.checked.prog.looks [] ∧ ∀ (j : Nat) t, fn.params[j]? = some t → p.checked.prog.wantsStandIn t = false)
    (hg : gs = c.goesBy p.checked.prog) :
    Claim7.holds p (.plain s) { stood := { row := c, standIns := [], harness := har, looks := lk }, kinds := [], alts := al, goes := gs, laidByText := true, laidKinds := kinds, laidTests := tests, laidLooks := Lk } := by
  have h6 : ∀ r : OpenClaim, Claim7.isSixth { stood := { row := r, standIns := [], harness := har, looks := lk }, kinds := [] } = false := fun r => by simpa [Claim7.isSixth] using hn
  refine ⟨Claim7.tied_new_at Lk kinds tests (Claim7.new_of_sixth hc har lk hst hnb hm (h6 c) hl) hw, fun D hD => ?_, htie, (fun h => by cases h), hg⟩
  exact Claim7.tied_new_at Lk kinds tests (Claim7.new_of_sixth (hal D hD) har lk hst hnb hm (h6 _) hl) (hwal D hD)
theorem cardProved : Rows.RestorePicksCardSaid :=
  tied_plain_goes .later [] [.data, .handle, .pinned] true (true, "77ec33d7c4b608a9c9831498d3c51b8cd9e3586456ecc2ea6e2cab7d46afc6c9") true true over (fun _ h => by cases h) (by kernel_rfl) (fun _ h => by cases h) restorePicks_row_tie rfl ⟨rfl, rfl⟩ (by kernel_rfl) rfl
    (fun f fn hf hfn => by
      obtain rfl : f = 3 := Option.some.inj (named.symm.trans hf) |>.symm
      obtain rfl : fn = Tryz.f3 := (Option.some.inj (Tryz.func3.symm.trans hfn)).symm
      exact ⟨by kernel_rfl, fun j t ht => by
        rw [Tryz.params3] at ht
        have hm : t ∈ [22, 23] := by simpa using Array.mem_of_getElem? ht
        have hall : ([22, 23].all fun u => !Tryz.prog.wantsStandIn u) = true := by kernel_rfl
        exact (show Tryz.prog.wantsStandIn t = false by simpa using List.all_eq_true.1 hall t hm)⟩)
    (by kernel_rfl)
#print axioms cardProved
end Go.Proofs.YtdekmeanlcpenaaGreatDoor.restorePicks
namespace Go.Proofs.YtdekmeanlcpenaaGreatDoor
theorem restorePicks_holds : Rows.RestorePicksCardSaid := restorePicks.cardProved
end Go.Proofs.YtdekmeanlcpenaaGreatDoor
