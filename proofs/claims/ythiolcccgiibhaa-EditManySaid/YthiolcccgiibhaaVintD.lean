/- What the document's Take of layer 2 answers. -/
import Derived.Test.YthiolcccgiibhaaVintC
namespace Go.Proofs.Ythiolcccgiibhaa
open Go.RowKit
set_option linter.unusedVariables false
set_option linter.unusedSimpArgs false

end Go.Proofs.Ythiolcccgiibhaa
