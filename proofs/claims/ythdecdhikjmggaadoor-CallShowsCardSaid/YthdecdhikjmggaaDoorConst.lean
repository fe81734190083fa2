/- What the fixed lines of speaks are read as. -/
import Derived.Test.YthdecdhikjmggaaDoorText
import Derived.Test.YthdecdhikjmggaaDoorShow
namespace Go.Proofs.YthdecdhikjmggaaDoor
open Go.RowKit
theorem parse_c1 : parseL [114, 101, 97, 100, 32, 48, 32, 57, 32, 47, 97, 32, 98] = some ⟨4, [47, 97, 32, 98], 0, 9, 0, []⟩ := by
  decide +kernel
theorem parse_c2 : parseL [114, 101, 97, 100, 32, 48, 32, 47, 97, 32, 98] = none := by
  decide +kernel
theorem text_c : textL ⟨4, [47, 97, 32, 98], 0, 9, 0, []⟩ = [114, 101, 97, 100, 32, 48, 32, 57, 32, 47, 97, 32, 98] := by
  decide +kernel
theorem show_c : showL 6 ⟨0, 0, 0, 0, 0, [], [⟨#[97]⟩], true⟩ = [111, 107, 32, 101, 110, 100, 32, 54, 49] := by
  decide +kernel
end Go.Proofs.YthdecdhikjmggaaDoor
