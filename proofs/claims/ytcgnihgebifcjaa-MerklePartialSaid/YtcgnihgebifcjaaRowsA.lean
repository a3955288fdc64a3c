/- Contracts of the functions over rows of inputs. -/
import Derived.Test.YtcgnihgebifcjaaSlices
namespace Go.Proofs.Ytcgnihgebifcjaa
open Go Go.RowKit

end Go.Proofs.Ytcgnihgebifcjaa
