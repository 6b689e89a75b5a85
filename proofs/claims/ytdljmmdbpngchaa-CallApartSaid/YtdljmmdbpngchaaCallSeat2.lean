/- CALL, part 19: the table of this seat's program: the other laws. -/
import Derived.Test.YtdljmmdbpngchaaCallSeat
import Derived.Test.YtdljmmdbpngchaaCallArg2
import Derived.Test.YtdljmmdbpngchaaCallLaw4
namespace Go.Proofs.Ytdljmmdbpngchaa
open Go.Shade
set_option linter.unusedVariables false
theorem lo6 : LoF Try.prog 6 (veneerlaw08CallBack 10 18 11 12) := ⟨⟨Try.f6, Try.func6, by kernel_rfl⟩, by kernel_rfl⟩
theorem lo7 : LoF Try.prog 7 (veneerlaw08CallJoins 10 18 11 12) := ⟨⟨Try.f7, Try.func7, by kernel_rfl⟩, by kernel_rfl⟩
theorem lo8 : LoF Try.prog 8 (veneerlaw08CallAhead 10 18 11 12) := ⟨⟨Try.f8, Try.func8, by kernel_rfl⟩, by kernel_rfl⟩
theorem lo9 : LoF Try.prog 9 (veneerlaw08CallApart 10 14) := ⟨⟨Try.f9, Try.func9, by kernel_rfl⟩, by kernel_rfl⟩
end Go.Proofs.Ytdljmmdbpngchaa
