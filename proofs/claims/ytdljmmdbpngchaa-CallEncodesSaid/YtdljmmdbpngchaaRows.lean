/-
  No cell of these rows narrows 'for every input' (looked for: loops, veiled, ifaces, maps, wideKeys, modest, calm, conditions, laid).
  DERIVED. THE GIVEN ROWS OF THIS SEAT. 7 by the template 'for every input the law returns true; each argument reads behind the call as it read before'; 0 by the template 'total and deterministic' (their statements: YtdljmmdbpngchaaTotals.lean).
  GIVEN WITH THE SEED: the statements are not yours to turn. If you find one false, say at which input.
  Laid BY PROGRAM, IN A SANDBOX (cutbox-rows.mjs): the forced cells as the released guide's own fill.sh prints them over the translation 7214bd3a97233cfa… (all of the seat's roots in one cut). By AI agents, Wed Nov 11 2026. No macro, syntax, notation, axiom, sorry.
-/
import Derived.Test.YtdljmmdbpngchaaChecked
import GoSem.Claim
import GoSem.ClaimJoined
import GoSem.ClaimMapViews
import Derived.JoinedTies
import Derived.KernelRfl
namespace Go.Proofs.Ytdljmmdbpngchaa
/- THE CELL 'sum', in the pinned program and in every row, IS THE sha256 OF THE DUMP (.gsa) THAT YtdljmmdbpngchaaProg.lean LOADS. Nothing in Lean hashes anything: it is a label: what it is worth is what the hold of that sum in a sandbox is worth. -/
noncomputable def Try.pinned : Pinned := { name := "ytdljmmdbpngchaa", sum := "7214bd3a97233cfa9976a035f55ac2062d5a236264fb619900c724c2b80fff54", checked := Try.checked }
namespace Rows
def none {H : Type} : Left H := { results := [], args := [] }

/-- 'veneerlaw08.CallDecodes': WHATEVER THE INPUT: true; the input reads as it did. -/
def callDecodesSpec : ChangeSpec := { name := "callDecodes", fn := fun _ => fun
  | [d] => { results := [.lit (.bool true)], args := [d] }
  | _ => none }
def callDecodesRow : OpenClaim := { program := "ytdljmmdbpngchaa", sum := "7214bd3a97233cfa9976a035f55ac2062d5a236264fb619900c724c2b80fff54", func := "veneer/veneerlaw08.CallDecodes", spec := "callDecodes", unfollowed := true, recurses := true, apart := false }
def CallDecodesSaid : Prop := callDecodesRow.holds Try.pinned (OpenSpec.ofChange callDecodesSpec)

/-- ITS FALSE NEIGHBOUR: 'it returns false'. Refute it at one input. -/
def callDecodesWrong : ChangeSpec := { name := "callDecodes", fn := fun _ => fun
  | [d] => { results := [.lit (.bool false)], args := [d] }
  | _ => none }
def CallDecodesWrongFalsely : Prop := callDecodesRow.holds Try.pinned (OpenSpec.ofChange callDecodesWrong)

/-- 'veneerlaw08.CallEncodes': WHATEVER THE INPUT: true; the input reads as it did. -/
def callEncodesSpec : ChangeSpec := { name := "callEncodes", fn := fun _ => fun
  | [d] => { results := [.lit (.bool true)], args := [d] }
  | _ => none }
def callEncodesRow : OpenClaim := { program := "ytdljmmdbpngchaa", sum := "7214bd3a97233cfa9976a035f55ac2062d5a236264fb619900c724c2b80fff54", func := "veneer/veneerlaw08.CallEncodes", spec := "callEncodes", unfollowed := true, recurses := true, apart := false }
def CallEncodesSaid : Prop := callEncodesRow.holds Try.pinned (OpenSpec.ofChange callEncodesSpec)

/-- ITS FALSE NEIGHBOUR: 'it returns false'. Refute it at one input. -/
def callEncodesWrong : ChangeSpec := { name := "callEncodes", fn := fun _ => fun
  | [d] => { results := [.lit (.bool false)], args := [d] }
  | _ => none }
def CallEncodesWrongFalsely : Prop := callEncodesRow.holds Try.pinned (OpenSpec.ofChange callEncodesWrong)

/-- 'veneerlaw08.CallTotal': WHATEVER THE INPUT: true; the input reads as it did. -/
def callTotalSpec : ChangeSpec := { name := "callTotal", fn := fun _ => fun
  | [d] => { results := [.lit (.bool true)], args := [d] }
  | _ => none }
def callTotalRow : OpenClaim := { program := "ytdljmmdbpngchaa", sum := "7214bd3a97233cfa9976a035f55ac2062d5a236264fb619900c724c2b80fff54", func := "veneer/veneerlaw08.CallTotal", spec := "callTotal", unfollowed := true, recurses := true, apart := false }
def CallTotalSaid : Prop := callTotalRow.holds Try.pinned (OpenSpec.ofChange callTotalSpec)

/-- ITS FALSE NEIGHBOUR: 'it returns false'. Refute it at one input. -/
def callTotalWrong : ChangeSpec := { name := "callTotal", fn := fun _ => fun
  | [d] => { results := [.lit (.bool false)], args := [d] }
  | _ => none }
def CallTotalWrongFalsely : Prop := callTotalRow.holds Try.pinned (OpenSpec.ofChange callTotalWrong)

/-- 'veneerlaw08.CallBack': WHATEVER THE INPUT: true; the input reads as it did. -/
def callBackSpec : ChangeSpec := { name := "callBack", fn := fun _ => fun
  | [d1, d2] => { results := [.lit (.bool true)], args := [d1, d2] }
  | _ => none }
def callBackRow : OpenClaim := { program := "ytdljmmdbpngchaa", sum := "7214bd3a97233cfa9976a035f55ac2062d5a236264fb619900c724c2b80fff54", func := "veneer/veneerlaw08.CallBack", spec := "callBack", unfollowed := true, recurses := true, apart := false }
def CallBackSaid : Prop := callBackRow.holds Try.pinned (OpenSpec.ofChange callBackSpec)

/-- ITS FALSE NEIGHBOUR: 'it returns false'. Refute it at one input. -/
def callBackWrong : ChangeSpec := { name := "callBack", fn := fun _ => fun
  | [d1, d2] => { results := [.lit (.bool false)], args := [d1, d2] }
  | _ => none }
def CallBackWrongFalsely : Prop := callBackRow.holds Try.pinned (OpenSpec.ofChange callBackWrong)

/-- 'veneerlaw08.CallJoins': WHATEVER THE INPUT: true; the input reads as it did. -/
def callJoinsSpec : ChangeSpec := { name := "callJoins", fn := fun _ => fun
  | [d1, d2] => { results := [.lit (.bool true)], args := [d1, d2] }
  | _ => none }
def callJoinsRow : OpenClaim := { program := "ytdljmmdbpngchaa", sum := "7214bd3a97233cfa9976a035f55ac2062d5a236264fb619900c724c2b80fff54", func := "veneer/veneerlaw08.CallJoins", spec := "callJoins", unfollowed := true, recurses := true, apart := false }
def CallJoinsSaid : Prop := callJoinsRow.holds Try.pinned (OpenSpec.ofChange callJoinsSpec)

/-- ITS FALSE NEIGHBOUR: 'it returns false'. Refute it at one input. -/
def callJoinsWrong : ChangeSpec := { name := "callJoins", fn := fun _ => fun
  | [d1, d2] => { results := [.lit (.bool false)], args := [d1, d2] }
  | _ => none }
def CallJoinsWrongFalsely : Prop := callJoinsRow.holds Try.pinned (OpenSpec.ofChange callJoinsWrong)

/-- 'veneerlaw08.CallAhead': WHATEVER THE INPUT: true; the input reads as it did. -/
def callAheadSpec : ChangeSpec := { name := "callAhead", fn := fun _ => fun
  | [d1, d2] => { results := [.lit (.bool true)], args := [d1, d2] }
  | _ => none }
def callAheadRow : OpenClaim := { program := "ytdljmmdbpngchaa", sum := "7214bd3a97233cfa9976a035f55ac2062d5a236264fb619900c724c2b80fff54", func := "veneer/veneerlaw08.CallAhead", spec := "callAhead", unfollowed := true, recurses := true, apart := false }
def CallAheadSaid : Prop := callAheadRow.holds Try.pinned (OpenSpec.ofChange callAheadSpec)

/-- ITS FALSE NEIGHBOUR: 'it returns false'. Refute it at one input. -/
def callAheadWrong : ChangeSpec := { name := "callAhead", fn := fun _ => fun
  | [d1, d2] => { results := [.lit (.bool false)], args := [d1, d2] }
  | _ => none }
def CallAheadWrongFalsely : Prop := callAheadRow.holds Try.pinned (OpenSpec.ofChange callAheadWrong)

/-- 'veneerlaw08.CallApart': WHATEVER THE INPUT: true; the input reads as it did. -/
def callApartSpec : ChangeSpec := { name := "callApart", fn := fun _ => fun
  | [d1, d2] => { results := [.lit (.bool true)], args := [d1, d2] }
  | _ => none }
def callApartRow : OpenClaim := { program := "ytdljmmdbpngchaa", sum := "7214bd3a97233cfa9976a035f55ac2062d5a236264fb619900c724c2b80fff54", func := "veneer/veneerlaw08.CallApart", spec := "callApart", unfollowed := true, recurses := true, apart := false }
def CallApartSaid : Prop := callApartRow.holds Try.pinned (OpenSpec.ofChange callApartSpec)

/-- ITS FALSE NEIGHBOUR: 'it returns false'. Refute it at one input. -/
def callApartWrong : ChangeSpec := { name := "callApart", fn := fun _ => fun
  | [d1, d2] => { results := [.lit (.bool false)], args := [d1, d2] }
  | _ => none }
def CallApartWrongFalsely : Prop := callApartRow.holds Try.pinned (OpenSpec.ofChange callApartWrong)

/- THE SECOND FORM. 'bulk': how many values and letters a reading holds, each counted each time it is reached (what is shared counts as often as it is met; a slice's spare places count too). A statement '..UptoSaid' is the law's where the arguments, and the package variables that the reading takes, are together of bulk at most 1048576: NARROWER than '..Said'. Prove '..Said' where nothing that the law and all that it calls make is longer than what came in: it says more and counts as full. Else prove '..UptoSaid'. A law counts once. -/
mutual
def uptoBulk {H : Type} : DataW H → Nat
  | .lit (.string bytes) => bytes.length + 1
  | .lit _ => 1
  | .nil => 1
  | .ptr d => uptoBulk d + 1
  | .slice elems spare => uptoBulkAll elems + uptoBulkAll spare + 1
  | .agg parts => uptoBulkAll parts + 1
  | .iface _ d => uptoBulk d + 1
  | .map entries => uptoBulkEntries entries + 1
  | .held _ => 1
def uptoBulkAll {H : Type} : List (DataW H) → Nat
  | [] => 0
  | d :: r => uptoBulk d + uptoBulkAll r
def uptoBulkEntries {H : Type} : List (Lit × DataW H) → Nat
  | [] => 0
  | x :: r => uptoBulkEntry x + uptoBulkEntries r
def uptoBulkEntry {H : Type} : Lit × DataW H → Nat
  | (.string bytes, d) => bytes.length + uptoBulk d + 1
  | (_, d) => uptoBulk d + 1
 end
def uptoSmall : (H : Type) → List (DataW H) → Bool := fun _ ds => decide (uptoBulkAll ds ≤ 1048576)
def OpenSpec.upto (s : _root_.Go.ChangeSpec) : _root_.Go.OpenSpec := { _root_.Go.OpenSpec.ofChange s with cond := some uptoSmall }

/-- 'veneerlaw08.CallDecodes', WHERE WHAT IT READS IS OF BULK AT MOST 1048576: true; the input reads as it did. -/
def callDecodesUptoRow : OpenClaim := { program := "ytdljmmdbpngchaa", sum := "7214bd3a97233cfa9976a035f55ac2062d5a236264fb619900c724c2b80fff54", func := "veneer/veneerlaw08.CallDecodes", spec := "callDecodes", unfollowed := true, recurses := true, apart := false, narrowed := true }
def CallDecodesUptoSaid : Prop := callDecodesUptoRow.holds Try.pinned (OpenSpec.upto callDecodesSpec)

/-- 'veneerlaw08.CallEncodes', WHERE WHAT IT READS IS OF BULK AT MOST 1048576: true; the input reads as it did. -/
def callEncodesUptoRow : OpenClaim := { program := "ytdljmmdbpngchaa", sum := "7214bd3a97233cfa9976a035f55ac2062d5a236264fb619900c724c2b80fff54", func := "veneer/veneerlaw08.CallEncodes", spec := "callEncodes", unfollowed := true, recurses := true, apart := false, narrowed := true }
def CallEncodesUptoSaid : Prop := callEncodesUptoRow.holds Try.pinned (OpenSpec.upto callEncodesSpec)

/-- 'veneerlaw08.CallTotal', WHERE WHAT IT READS IS OF BULK AT MOST 1048576: true; the input reads as it did. -/
def callTotalUptoRow : OpenClaim := { program := "ytdljmmdbpngchaa", sum := "7214bd3a97233cfa9976a035f55ac2062d5a236264fb619900c724c2b80fff54", func := "veneer/veneerlaw08.CallTotal", spec := "callTotal", unfollowed := true, recurses := true, apart := false, narrowed := true }
def CallTotalUptoSaid : Prop := callTotalUptoRow.holds Try.pinned (OpenSpec.upto callTotalSpec)

/-- 'veneerlaw08.CallBack', WHERE WHAT IT READS IS OF BULK AT MOST 1048576: true; the input reads as it did. -/
def callBackUptoRow : OpenClaim := { program := "ytdljmmdbpngchaa", sum := "7214bd3a97233cfa9976a035f55ac2062d5a236264fb619900c724c2b80fff54", func := "veneer/veneerlaw08.CallBack", spec := "callBack", unfollowed := true, recurses := true, apart := false, narrowed := true }
def CallBackUptoSaid : Prop := callBackUptoRow.holds Try.pinned (OpenSpec.upto callBackSpec)

/-- 'veneerlaw08.CallJoins', WHERE WHAT IT READS IS OF BULK AT MOST 1048576: true; the input reads as it did. -/
def callJoinsUptoRow : OpenClaim := { program := "ytdljmmdbpngchaa", sum := "7214bd3a97233cfa9976a035f55ac2062d5a236264fb619900c724c2b80fff54", func := "veneer/veneerlaw08.CallJoins", spec := "callJoins", unfollowed := true, recurses := true, apart := false, narrowed := true }
def CallJoinsUptoSaid : Prop := callJoinsUptoRow.holds Try.pinned (OpenSpec.upto callJoinsSpec)

/-- 'veneerlaw08.CallAhead', WHERE WHAT IT READS IS OF BULK AT MOST 1048576: true; the input reads as it did. -/
def callAheadUptoRow : OpenClaim := { program := "ytdljmmdbpngchaa", sum := "7214bd3a97233cfa9976a035f55ac2062d5a236264fb619900c724c2b80fff54", func := "veneer/veneerlaw08.CallAhead", spec := "callAhead", unfollowed := true, recurses := true, apart := false, narrowed := true }
def CallAheadUptoSaid : Prop := callAheadUptoRow.holds Try.pinned (OpenSpec.upto callAheadSpec)

/-- 'veneerlaw08.CallApart', WHERE WHAT IT READS IS OF BULK AT MOST 1048576: true; the input reads as it did. -/
def callApartUptoRow : OpenClaim := { program := "ytdljmmdbpngchaa", sum := "7214bd3a97233cfa9976a035f55ac2062d5a236264fb619900c724c2b80fff54", func := "veneer/veneerlaw08.CallApart", spec := "callApart", unfollowed := true, recurses := true, apart := false, narrowed := true }
def CallApartUptoSaid : Prop := callApartUptoRow.holds Try.pinned (OpenSpec.upto callApartSpec)

end Rows
end Go.Proofs.Ytdljmmdbpngchaa
