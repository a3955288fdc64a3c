/- The iterator over the words of a slice of bytes. -/
import Derived.Test.YtcpicifnadoeoaaWordsS
import Derived.Test.YtcpicifnadoeoaaSlices
namespace Go.Proofs.Ytcpicifnadoeoaa
open Go Go.RowKit Go.Shelf
attribute [local go_sem] Oper.semAt_some

end Go.Proofs.Ytcpicifnadoeoaa
