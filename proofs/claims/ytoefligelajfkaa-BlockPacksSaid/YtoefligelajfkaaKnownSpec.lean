import Derived.Test.YtoefligelajfkaaValidSpec
import Derived.Test.YtoefligelajfkaaBOpen
import Derived.Test.YtoefligelajfkaaCover
namespace Go.Proofs.Ytoefligelajfkaa.Block
open Go.Proofs.Ytoefligelajfkaa.PBlockOpens Go.Proofs.Ytoefligelajfkaa.Press
/-- The row of the law's own example, what it packs to, and its blocks. -/
def rowK : List Int := [48,49,50,51,52,53,54,55,56,57,97,98,99,100,101,102,120,120,120,120,120,120,120,120,120,120,120,120,120,120,120,120,121,122]
def outK : List Int := [48, 49, 50, 51, 52, 53, 54, 55, 56, 57, 97, 98, 99, 100, 101, 102, 2, 120, 0, 12, 121, 122]
def blK : List S58 := [⟨0, 16, 16, 1757737011⟩, ⟨16, 4, 16, 3625542228⟩, ⟨20, 2, 2, 267667554⟩]
def xK : List Int := List.replicate 16 120
theorem bpack_known : bpackS rowK 16 = (outK, blK, 0) := by kernel_rfl
theorem open_known : openS [2, 120, 0, 12] ⟨16, 4, 16, 3625542228⟩ = (xK, 0) := by kernel_rfl
theorem valid_known : validS blK 34 16 = true := by kernel_rfl
theorem valid_known' : validS blK 35 16 = false := by kernel_rfl
theorem cover_known : block_Cover.f 16 15 2 = some (0, 2) := by kernel_rfl
end Go.Proofs.Ytoefligelajfkaa.Block
