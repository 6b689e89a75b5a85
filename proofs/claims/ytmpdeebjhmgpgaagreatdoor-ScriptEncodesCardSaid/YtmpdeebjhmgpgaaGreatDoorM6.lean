/- Part 6 of the proof. -/
import Derived.Test.YtmpdeebjhmgpgaaGreatDoorM4
import Derived.Test.YtmpdeebjhmgpgaaGreatDoorM5
set_option linter.all false
namespace Go.Proofs.YtmpdeebjhmgpgaaGreatDoor
open Go.Shade
abbrev tC :Table:=ext tA 16 (atT scCA scCH scCR scCK)
theorem stD :isT (kcallT Tryz.prog tC 5000 100 9 [] [])=true:=by kernel_rfl
end Go.Proofs.YtmpdeebjhmgpgaaGreatDoor
