/- What the document's Take of layer 2 answers. -/
import Derived.Test.YteediedhofapkaaVintC
namespace Go.Proofs.Yteediedhofapkaa
open Go.RowKit
set_option linter.unusedVariables false
set_option linter.unusedSimpArgs false

end Go.Proofs.Yteediedhofapkaa
