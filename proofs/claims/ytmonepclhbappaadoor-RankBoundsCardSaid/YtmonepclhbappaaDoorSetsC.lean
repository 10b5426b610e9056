/-
  Lists held against each other; which lists rise: the given program's and the document's.
-/
import Derived.Test.YtmonepclhbappaaDoorSetsRef
import Derived.Test.YtmonepclhbappaaDoorCmpS
namespace Go.Proofs.YtmonepclhbappaaDoor
open Go.RowKit
set_option maxRecDepth 100000
set_option linter.unusedVariables false

end Go.Proofs.YtmonepclhbappaaDoor
