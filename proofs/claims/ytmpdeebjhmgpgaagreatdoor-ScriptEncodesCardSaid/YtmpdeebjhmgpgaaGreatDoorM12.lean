/- Part 12 of the proof. -/
import Derived.Test.YtmpdeebjhmgpgaaGreatDoorM4
import Derived.Test.YtmpdeebjhmgpgaaGreatDoorM9
import Derived.Test.YtmpdeebjhmgpgaaGreatDoorM11
set_option linter.all false
namespace Go.Proofs.YtmpdeebjhmgpgaaGreatDoor
open Go.Shade
abbrev tB :Table:=ext (ext tA 23 (atT scAA scAH scAR scAK)) 160 (atT scBA scBH scBR scBK)
theorem stE :stage (kcallT Tryz.prog tB 5000 100 28 scDA scDH) scDH scDK scDF scDR=true:=by kernel_rfl
end Go.Proofs.YtmpdeebjhmgpgaaGreatDoor
