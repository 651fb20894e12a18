/-
  Joined texts: Same9.
-/
import Derived.Test.YthchfdobdghdoaaProg
import Derived.Test.YthchfdobdghdoaaHal
import Derived.Test.YthchfdobdghdoaaHae
import Derived.Deep.QuietTactic
import Derived.BigQuiet
set_option linter.unusedVariables false
set_option linter.unusedSimpArgs false
set_option linter.unusedSectionVars false
set_option linter.unnecessarySimpa false
section

/-
  The walk of shellgamelaw9.same.
-/
namespace Go.Proofs.Ythchfdobdghdoaa
open Go.RowKit Go.Sg

end Go.Proofs.Ythchfdobdghdoaa
end
