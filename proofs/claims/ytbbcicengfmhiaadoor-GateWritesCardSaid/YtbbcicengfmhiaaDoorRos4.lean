/- Two lists held against each other; the statements' own awake of layer 2. No condition. -/
import Derived.Test.YtbbcicengfmhiaaDoorRos3
import Derived.Test.YtbbcicengfmhiaaDoorSamI
namespace Go.Proofs.YtbbcicengfmhiaaDoor
set_option maxRecDepth 100000
open Go.RowKit

end Go.Proofs.YtbbcicengfmhiaaDoor
