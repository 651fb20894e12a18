/-
  Joined texts: Same9.
-/
import Derived.Test.YtiimdgdimjjboaaProg
import Derived.Test.YtiimdgdimjjboaaHal
import Derived.Test.YtiimdgdimjjboaaHae
import Derived.Deep.QuietTactic
import Derived.BigQuiet
set_option linter.unusedVariables false
set_option linter.unusedSimpArgs false
set_option linter.unusedSectionVars false
set_option linter.unnecessarySimpa false
section

/-
  The walk of shellgamelaw9.same.
-/
namespace Go.Proofs.Ytiimdgdimjjboaa
open Go.RowKit Go.Sg

end Go.Proofs.Ytiimdgdimjjboaa
end
