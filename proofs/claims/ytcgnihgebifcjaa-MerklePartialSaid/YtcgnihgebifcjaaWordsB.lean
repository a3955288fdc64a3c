/- The iterator over the words of a slice of bytes. -/
import Derived.Test.YtcgnihgebifcjaaWordsS
import Derived.Test.YtcgnihgebifcjaaSlices
namespace Go.Proofs.Ytcgnihgebifcjaa
open Go Go.RowKit Go.Shelf
attribute [local go_sem] Oper.semAt_some

end Go.Proofs.Ytcgnihgebifcjaa
