/- Part 4 of the proof. -/
import Derived.Test.YtmpdeebjhmgpgaaGreatDoorRows
import Derived.Test.YtmpdeebjhmgpgaaGreatDoorM3
import Derived.KernelRfl
set_option linter.all false
namespace Go.Proofs.YtmpdeebjhmgpgaaGreatDoor
open Go.Shade
abbrev tA :Table:=ext (ext (ext T0 112 insT) 46 bnT) 77 popT
theorem stA :stage (kcallT Tryz.prog tA 5000 100 23 scAA scAH) scAH scAK scAF scAR=true:=by kernel_rfl
end Go.Proofs.YtmpdeebjhmgpgaaGreatDoor
