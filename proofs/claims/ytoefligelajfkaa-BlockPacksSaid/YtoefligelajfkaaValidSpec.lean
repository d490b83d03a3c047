import Derived.Test.YtoefligelajfkaaBPack
namespace Go.Proofs.Ytoefligelajfkaa.Block
open Go.RowKit Go.Proofs.YtoefligelajfkaaW.PrintWords Go.Proofs.Ytoefligelajfkaa.PBlockOpens

/-- What Valid asks of one block: so many bytes of the row are left, and it stands there. -/
structure vOk (size row at_ : Int) (b : S58) : Prop where
  raw : b.f2 = min size row
  lo : 1 ≤ b.f1
  hi : b.f1 ≤ min size row
  s0 : 0 ≤ b.f3
  s1 : b.f3 ≤ 4294967295
  pos : b.f0 = at_
  a0 : 0 ≤ at_
  a1 : at_ ≤ 2147483647
theorem vOk_iff (size row at_ : Int) (b : S58) : vOk size row at_ b ↔ (b.f2 = min size row ∧ 1 ≤ b.f1 ∧ b.f1 ≤ min size row ∧ 0 ≤ b.f3 ∧ b.f3 ≤ 4294967295 ∧ b.f0 = at_ ∧ 0 ≤ at_ ∧ at_ ≤ 2147483647) :=
  ⟨fun ⟨a, b, c, d, e, f, g, h⟩ => ⟨a, b, c, d, e, f, g, h⟩, fun ⟨a, b, c, d, e, f, g, h⟩ => ⟨a, b, c, d, e, f, g, h⟩⟩
instance (size row at_ : Int) (b : S58) : Decidable (vOk size row at_ b) := decidable_of_iff _ (vOk_iff size row at_ b).symm

def validR (size : Int) : List S58 → Int → Int → Bool
  | [], _, _ => true
  | b :: t, row, at_ => decide (vOk size row at_ b) && validR size t (row - min size row) (at_ + b.f1)
def validS (bl : List S58) (row size : Int) : Bool :=
  if row < 0 ∨ row > 65536 ∨ ¬ isSize size ∨ (bl.length : Int) ≠ (row + size - 1) / size then false else validR size bl row (bl.headD z58).f0

theorem validR_ok {size row at_ : Int} {b : S58} {t : List S58} (h : vOk size row at_ b) : validR size (b :: t) row at_ = validR size t (row - min size row) (at_ + b.f1) := by rw [validR, decide_eq_true h, Bool.true_and]
theorem validR_no {size row at_ : Int} {b : S58} {t : List S58} (h : ¬ vOk size row at_ b) : validR size (b :: t) row at_ = false := by rw [validR, decide_eq_false h, Bool.false_and]
theorem drop_consB (l : List S58) (i : Nat) (h : i < l.length) : l.drop i = rd_T58 l (i : Int) :: l.drop (i + 1) := by
  rw [List.drop_eq_getElem_cons h, rd_T58, Int.toNat_natCast, List.getD_eq_getElem?_getD, List.getElem?_eq_getElem h]; rfl
end Go.Proofs.Ytoefligelajfkaa.Block
