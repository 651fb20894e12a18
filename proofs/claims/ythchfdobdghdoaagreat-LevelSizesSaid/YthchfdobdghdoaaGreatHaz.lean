/-
  Joined texts: Shown3.
-/
import Derived.Test.YthchfdobdghdoaaGreatHav
import Derived.Test.YthchfdobdghdoaaGreatHau
import Derived.Test.YthchfdobdghdoaaGreatHah
import Derived.Test.YthchfdobdghdoaaGreatHag
import Derived.Deep.RegionHeld3
set_option linter.unusedVariables false
set_option linter.unusedSimpArgs false
set_option linter.unusedSectionVars false
set_option linter.unnecessarySimpa false
section

/-
  The head of chapter 3's laws.
-/
namespace Go.Sg
open Go Go.RowKit
end Go.Sg
namespace Go.Proofs.YthchfdobdghdoaaGreat
open Go.RowKit Go.Sg

end Go.Proofs.YthchfdobdghdoaaGreat
end
