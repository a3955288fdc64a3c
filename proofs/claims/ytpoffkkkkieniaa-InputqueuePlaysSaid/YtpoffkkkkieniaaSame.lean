/- Contracts: equal slices; the first bytes of a string. -/
import Derived.Test.YtpoffkkkkieniaaRowsC
namespace Go.Proofs.Ytpoffkkkkieniaa
open Go Go.RowKit Go.BigFrame

/-- are they equal? -/
def sameL (xs ys : List Int) : Bool := decide (xs = ys)

end Go.Proofs.Ytpoffkkkkieniaa
