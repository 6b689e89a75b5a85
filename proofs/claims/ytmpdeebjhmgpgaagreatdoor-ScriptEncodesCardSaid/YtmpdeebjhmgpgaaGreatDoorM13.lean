/- Part 13 of the proof. -/
import Derived.Test.YtmpdeebjhmgpgaaGreatDoorM12
import Derived.Test.YtmpdeebjhmgpgaaGreatDoorM5
set_option linter.all false
namespace Go.Proofs.YtmpdeebjhmgpgaaGreatDoor
open Go.Shade
abbrev tE :Table:=ext tB 28 (atT scDA scDH scDR scDK)
theorem stC :stage (kcallT Tryz.prog tE 5000 100 16 scCA scCH) scCH scCK scCF scCR=true:=by kernel_rfl
end Go.Proofs.YtmpdeebjhmgpgaaGreatDoor
