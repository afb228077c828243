/- The document's word of layer 6; mark.Name: MarkN. -/
import Derived.Test.YtbigoifpfkdkjaaGreatMarkN
namespace Go.Proofs.YtbigoifpfkdkjaaGreat.Sc
open Go Go.RowKit Go.ChangeShapes Go.WideShapes Go.ChangeAt
set_option maxRecDepth 100000

end Go.Proofs.YtbigoifpfkdkjaaGreat.Sc
