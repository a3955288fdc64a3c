/- Contracts of the functions over rows of inputs. -/
import Derived.Test.YtpoffkkkkieniaaSlices
namespace Go.Proofs.Ytpoffkkkkieniaa
open Go Go.RowKit

end Go.Proofs.Ytpoffkkkkieniaa
