/-
  No cell of these rows narrows 'for every input' (looked for: loops, veiled, ifaces, maps, wideKeys, modest, calm, conditions, laid).
  DERIVED. THE GIVEN ROWS OF THIS SEAT. 5 by the template 'for every input the law returns true; each argument reads behind the call as it read before'; 0 by the template 'total and deterministic' (their statements: YtbcekfagnajooaaTotals.lean).
  GIVEN WITH THE SEED: the statements are not yours to turn. If you find one false, say at which input.
  Laid BY PROGRAM, IN A SANDBOX (cutbox-rows.mjs): the forced cells as the released guide's own fill.sh prints them over the translation 77df409f67012259… (all of the seat's roots in one cut). By AI agents, Wed Nov 11 2026. No macro, syntax, notation, axiom, sorry.
-/
import Derived.Test.YtbcekfagnajooaaChecked
import GoSem.Claim
import GoSem.ClaimJoined
import GoSem.ClaimMapViews
import Derived.JoinedTies
import Derived.KernelRfl
namespace Go.Proofs.Ytbcekfagnajooaa
/- THE CELL 'sum', in the pinned program and in every row, IS THE sha256 OF THE DUMP (.gsa) THAT YtbcekfagnajooaaProg.lean LOADS. Nothing in Lean hashes anything: it is a label: what it is worth is what the hold of that sum in a sandbox is worth. -/
noncomputable def Try.pinned : Pinned := { name := "ytbcekfagnajooaa", sum := "77df409f670122596a40c1fed9112bbb3a3f4c5a54aca861e1f7ac5c0b77b2df", checked := Try.checked }
namespace Rows
def none {H : Type} : Left H := { results := [], args := [] }

/-- 'veneerlaw07.DescDoes': WHATEVER THE INPUT: true; the input reads as it did. -/
def descDoesSpec : ChangeSpec := { name := "descDoes", fn := fun _ => fun
  | [d] => { results := [.lit (.bool true)], args := [d] }
  | _ => none }
def descDoesRow : OpenClaim := { program := "ytbcekfagnajooaa", sum := "77df409f670122596a40c1fed9112bbb3a3f4c5a54aca861e1f7ac5c0b77b2df", func := "veneer/veneerlaw07.DescDoes", spec := "descDoes", apart := false }
def DescDoesSaid : Prop := descDoesRow.holds Try.pinned (OpenSpec.ofChange descDoesSpec)

/-- ITS FALSE NEIGHBOUR: 'it returns false'. Refute it at one input. -/
def descDoesWrong : ChangeSpec := { name := "descDoes", fn := fun _ => fun
  | [d] => { results := [.lit (.bool false)], args := [d] }
  | _ => none }
def DescDoesWrongFalsely : Prop := descDoesRow.holds Try.pinned (OpenSpec.ofChange descDoesWrong)

/-- 'veneerlaw07.DescAlone': WHATEVER THE INPUT: true; the input reads as it did. -/
def descAloneSpec : ChangeSpec := { name := "descAlone", fn := fun _ => fun
  | [d1, d2, d3] => { results := [.lit (.bool true)], args := [d1, d2, d3] }
  | _ => none }
def descAloneRow : OpenClaim := { program := "ytbcekfagnajooaa", sum := "77df409f670122596a40c1fed9112bbb3a3f4c5a54aca861e1f7ac5c0b77b2df", func := "veneer/veneerlaw07.DescAlone", spec := "descAlone", apart := false }
def DescAloneSaid : Prop := descAloneRow.holds Try.pinned (OpenSpec.ofChange descAloneSpec)

/-- ITS FALSE NEIGHBOUR: 'it returns false'. Refute it at one input. -/
def descAloneWrong : ChangeSpec := { name := "descAlone", fn := fun _ => fun
  | [d1, d2, d3] => { results := [.lit (.bool false)], args := [d1, d2, d3] }
  | _ => none }
def DescAloneWrongFalsely : Prop := descAloneRow.holds Try.pinned (OpenSpec.ofChange descAloneWrong)

/-- 'veneerlaw07.DescLowest': WHATEVER THE INPUT: true; the input reads as it did. -/
def descLowestSpec : ChangeSpec := { name := "descLowest", fn := fun _ => fun
  | [d] => { results := [.lit (.bool true)], args := [d] }
  | _ => none }
def descLowestRow : OpenClaim := { program := "ytbcekfagnajooaa", sum := "77df409f670122596a40c1fed9112bbb3a3f4c5a54aca861e1f7ac5c0b77b2df", func := "veneer/veneerlaw07.DescLowest", spec := "descLowest", apart := false }
def DescLowestSaid : Prop := descLowestRow.holds Try.pinned (OpenSpec.ofChange descLowestSpec)

/-- ITS FALSE NEIGHBOUR: 'it returns false'. Refute it at one input. -/
def descLowestWrong : ChangeSpec := { name := "descLowest", fn := fun _ => fun
  | [d] => { results := [.lit (.bool false)], args := [d] }
  | _ => none }
def DescLowestWrongFalsely : Prop := descLowestRow.holds Try.pinned (OpenSpec.ofChange descLowestWrong)

/-- 'veneerlaw07.DescSets': WHATEVER THE INPUT: true; the input reads as it did. -/
def descSetsSpec : ChangeSpec := { name := "descSets", fn := fun _ => fun
  | [d1, d2, d3] => { results := [.lit (.bool true)], args := [d1, d2, d3] }
  | _ => none }
def descSetsRow : OpenClaim := { program := "ytbcekfagnajooaa", sum := "77df409f670122596a40c1fed9112bbb3a3f4c5a54aca861e1f7ac5c0b77b2df", func := "veneer/veneerlaw07.DescSets", spec := "descSets", apart := false }
def DescSetsSaid : Prop := descSetsRow.holds Try.pinned (OpenSpec.ofChange descSetsSpec)

/-- ITS FALSE NEIGHBOUR: 'it returns false'. Refute it at one input. -/
def descSetsWrong : ChangeSpec := { name := "descSets", fn := fun _ => fun
  | [d1, d2, d3] => { results := [.lit (.bool false)], args := [d1, d2, d3] }
  | _ => none }
def DescSetsWrongFalsely : Prop := descSetsRow.holds Try.pinned (OpenSpec.ofChange descSetsWrong)

/-- 'veneerlaw07.DescFulls': WHATEVER THE INPUT: true; the input reads as it did. -/
def descFullsSpec : ChangeSpec := { name := "descFulls", fn := fun _ => fun
  | [d] => { results := [.lit (.bool true)], args := [d] }
  | _ => none }
def descFullsRow : OpenClaim := { program := "ytbcekfagnajooaa", sum := "77df409f670122596a40c1fed9112bbb3a3f4c5a54aca861e1f7ac5c0b77b2df", func := "veneer/veneerlaw07.DescFulls", spec := "descFulls", apart := false }
def DescFullsSaid : Prop := descFullsRow.holds Try.pinned (OpenSpec.ofChange descFullsSpec)

/-- ITS FALSE NEIGHBOUR: 'it returns false'. Refute it at one input. -/
def descFullsWrong : ChangeSpec := { name := "descFulls", fn := fun _ => fun
  | [d] => { results := [.lit (.bool false)], args := [d] }
  | _ => none }
def DescFullsWrongFalsely : Prop := descFullsRow.holds Try.pinned (OpenSpec.ofChange descFullsWrong)

/- THE SECOND FORM. 'bulk': how many values and letters a reading holds, each counted each time it is reached (what is shared counts as often as it is met; a slice's spare places count too). A statement '..UptoSaid' is the law's where the arguments, and the package variables that the reading takes, are together of bulk at most 1048576: NARROWER than '..Said'. Prove '..Said' where nothing that the law and all that it calls make is longer than what came in: it says more and counts as full. Else prove '..UptoSaid'. A law counts once. -/
mutual
def uptoBulk {H : Type} : DataW H → Nat
  | .lit (.string bytes) => bytes.length + 1
  | .lit _ => 1
  | .nil => 1
  | .ptr d => uptoBulk d + 1
  | .slice elems spare => uptoBulkAll elems + uptoBulkAll spare + 1
  | .agg parts => uptoBulkAll parts + 1
  | .iface _ d => uptoBulk d + 1
  | .map entries => uptoBulkEntries entries + 1
  | .held _ => 1
def uptoBulkAll {H : Type} : List (DataW H) → Nat
  | [] => 0
  | d :: r => uptoBulk d + uptoBulkAll r
def uptoBulkEntries {H : Type} : List (Lit × DataW H) → Nat
  | [] => 0
  | x :: r => uptoBulkEntry x + uptoBulkEntries r
def uptoBulkEntry {H : Type} : Lit × DataW H → Nat
  | (.string bytes, d) => bytes.length + uptoBulk d + 1
  | (_, d) => uptoBulk d + 1
 end
def uptoSmall : (H : Type) → List (DataW H) → Bool := fun _ ds => decide (uptoBulkAll ds ≤ 1048576)
def OpenSpec.upto (s : _root_.Go.ChangeSpec) : _root_.Go.OpenSpec := { _root_.Go.OpenSpec.ofChange s with cond := some uptoSmall }

/-- 'veneerlaw07.DescDoes', WHERE WHAT IT READS IS OF BULK AT MOST 1048576: true; the input reads as it did. -/
def descDoesUptoRow : OpenClaim := { program := "ytbcekfagnajooaa", sum := "77df409f670122596a40c1fed9112bbb3a3f4c5a54aca861e1f7ac5c0b77b2df", func := "veneer/veneerlaw07.DescDoes", spec := "descDoes", apart := false, narrowed := true }
def DescDoesUptoSaid : Prop := descDoesUptoRow.holds Try.pinned (OpenSpec.upto descDoesSpec)

/-- 'veneerlaw07.DescAlone', WHERE WHAT IT READS IS OF BULK AT MOST 1048576: true; the input reads as it did. -/
def descAloneUptoRow : OpenClaim := { program := "ytbcekfagnajooaa", sum := "77df409f670122596a40c1fed9112bbb3a3f4c5a54aca861e1f7ac5c0b77b2df", func := "veneer/veneerlaw07.DescAlone", spec := "descAlone", apart := false, narrowed := true }
def DescAloneUptoSaid : Prop := descAloneUptoRow.holds Try.pinned (OpenSpec.upto descAloneSpec)

/-- 'veneerlaw07.DescLowest', WHERE WHAT IT READS IS OF BULK AT MOST 1048576: true; the input reads as it did. -/
def descLowestUptoRow : OpenClaim := { program := "ytbcekfagnajooaa", sum := "77df409f670122596a40c1fed9112bbb3a3f4c5a54aca861e1f7ac5c0b77b2df", func := "veneer/veneerlaw07.DescLowest", spec := "descLowest", apart := false, narrowed := true }
def DescLowestUptoSaid : Prop := descLowestUptoRow.holds Try.pinned (OpenSpec.upto descLowestSpec)

/-- 'veneerlaw07.DescSets', WHERE WHAT IT READS IS OF BULK AT MOST 1048576: true; the input reads as it did. -/
def descSetsUptoRow : OpenClaim := { program := "ytbcekfagnajooaa", sum := "77df409f670122596a40c1fed9112bbb3a3f4c5a54aca861e1f7ac5c0b77b2df", func := "veneer/veneerlaw07.DescSets", spec := "descSets", apart := false, narrowed := true }
def DescSetsUptoSaid : Prop := descSetsUptoRow.holds Try.pinned (OpenSpec.upto descSetsSpec)

/-- 'veneerlaw07.DescFulls', WHERE WHAT IT READS IS OF BULK AT MOST 1048576: true; the input reads as it did. -/
def descFullsUptoRow : OpenClaim := { program := "ytbcekfagnajooaa", sum := "77df409f670122596a40c1fed9112bbb3a3f4c5a54aca861e1f7ac5c0b77b2df", func := "veneer/veneerlaw07.DescFulls", spec := "descFulls", apart := false, narrowed := true }
def DescFullsUptoSaid : Prop := descFullsUptoRow.holds Try.pinned (OpenSpec.upto descFullsSpec)

end Rows
end Go.Proofs.Ytbcekfagnajooaa
