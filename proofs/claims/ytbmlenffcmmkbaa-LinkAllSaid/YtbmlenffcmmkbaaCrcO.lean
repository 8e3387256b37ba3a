/-
  What Open of crc and of its reference computes. Conditions: strings are at most as long as Go allows.
-/
import Derived.Test.YtbmlenffcmmkbaaCrcB
import Derived.Lib.QuietBelow
namespace Go.Proofs.Ytbmlenffcmmkbaa
open Go.RowKit Go.Shelf Ros
attribute [local go_sem] Oper.semAt_some

end Go.Proofs.Ytbmlenffcmmkbaa
