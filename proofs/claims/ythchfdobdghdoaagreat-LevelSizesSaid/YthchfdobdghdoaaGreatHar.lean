/-
  Joined texts: Same9, Same8.
-/
import Derived.Test.YthchfdobdghdoaaGreatProg
import Derived.Test.YthchfdobdghdoaaGreatHam
import Derived.Test.YthchfdobdghdoaaGreatHae
import Derived.Deep.QuietTactic
import Derived.BigQuiet
set_option linter.unusedVariables false
set_option linter.unusedSimpArgs false
set_option linter.unusedSectionVars false
set_option linter.unnecessarySimpa false
section

/-
  The walk of shellgamelaw9.same.
-/
namespace Go.Proofs.YthchfdobdghdoaaGreat
open Go.RowKit Go.Sg

end Go.Proofs.YthchfdobdghdoaaGreat
end
section

/-
  The walk of shellgamelaw8.same.
-/
namespace Go.Proofs.YthchfdobdghdoaaGreat
open Go.RowKit Go.Sg

end Go.Proofs.YthchfdobdghdoaaGreat
end
