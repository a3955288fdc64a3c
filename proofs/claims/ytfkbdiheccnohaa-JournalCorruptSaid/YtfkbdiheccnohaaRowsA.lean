/- Contracts of the functions over rows of inputs. -/
import Derived.Test.YtfkbdiheccnohaaSlices
namespace Go.Proofs.Ytfkbdiheccnohaa
open Go Go.RowKit

end Go.Proofs.Ytfkbdiheccnohaa
