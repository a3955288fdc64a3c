/- Contracts of the functions over rows of inputs. -/
import Derived.Test.YtcccffohpmpmeaaSlices
namespace Go.Proofs.Ytcccffohpmpmeaa
open Go Go.RowKit

end Go.Proofs.Ytcccffohpmpmeaa
