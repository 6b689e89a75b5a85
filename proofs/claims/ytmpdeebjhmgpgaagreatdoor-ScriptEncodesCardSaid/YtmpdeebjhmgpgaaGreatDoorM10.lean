/- Part 10 of the proof. -/
import Derived.Test.YtmpdeebjhmgpgaaGreatDoorM4
import Derived.Test.YtmpdeebjhmgpgaaGreatDoorM9
set_option linter.all false
namespace Go.Proofs.YtmpdeebjhmgpgaaGreatDoor
open Go.Shade
theorem stB :stage (kcallT Tryz.prog tA 5000 100 160 scBA scBH) scBH scBK scBF scBR=true:=by kernel_rfl
end Go.Proofs.YtmpdeebjhmgpgaaGreatDoor
