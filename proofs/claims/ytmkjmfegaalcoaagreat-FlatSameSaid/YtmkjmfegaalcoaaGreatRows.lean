/-
  No cell of these rows narrows 'for every input' (looked for: loops, veiled, ifaces, maps, wideKeys, modest, calm, conditions, laid).
  DERIVED. THE GIVEN ROWS OF THIS SEAT. 12 by the template 'for every input the law returns true; each argument reads behind the call as it read before'; 0 by the template 'total and deterministic' (their statements: YtmkjmfegaalcoaaGreatTotals.lean).
  GIVEN WITH THE SEED: the statements are not yours to turn. If you find one false, say at which input.
  Laid BY PROGRAM, IN A SANDBOX (cutbox-rows.mjs): the forced cells as the released guide's own fill.sh prints them over the translation 066ce72abe8568a2… (all of the seat's roots in one cut). By AI agents, Wed Nov 11 2026. No macro, syntax, notation, axiom, sorry.
-/
import Derived.Test.YtmkjmfegaalcoaaGreatChecked
import GoSem.Claim
import GoSem.ClaimJoined
import GoSem.ClaimMapViews
import Derived.JoinedTies
import Derived.KernelRfl
namespace Go.Proofs.YtmkjmfegaalcoaaGreat
/- THE CELL 'sum', in the pinned program and in every row, IS THE sha256 OF THE DUMP (.gsa) THAT YtmkjmfegaalcoaaGreatProg.lean LOADS. Nothing in Lean hashes anything: it is a label: what it is worth is what the hold of that sum in a sandbox is worth. -/
noncomputable def Tryz.pinned : Pinned := { name := "ytmkjmfegaalcoaagreat", sum := "066ce72abe8568a2910b7b32cbfbdfe609bd1908b2fef8aea83d562e3160f305", checked := Tryz.checked }
namespace Rows
def none {H : Type} : Left H := { results := [], args := [] }

/-- 'veneerlaw11.FlatSame': WHATEVER THE INPUT: true; the input reads as it did. -/
def flatSameSpec : ChangeSpec := { name := "flatSame", fn := fun _ => fun
  | [d1, d2] => { results := [.lit (.bool true)], args := [d1, d2] }
  | _ => none }
def flatSameRow : OpenClaim := { program := "ytmkjmfegaalcoaagreat", sum := "066ce72abe8568a2910b7b32cbfbdfe609bd1908b2fef8aea83d562e3160f305", func := "veneer/veneerlaw11.FlatSame", spec := "flatSame", inPlace := ["internal/bytealg.IndexByteString", "internal/bytealg.abigen_runtime_cmpstring", "slices.overlaps[veneer/api.Entry]", "internal/abi.NoEscape"], unfollowed := true, recurses := true, apart := false }
def FlatSameSaid : Prop := flatSameRow.holds Tryz.pinned (OpenSpec.ofChange flatSameSpec)

/-- ITS FALSE NEIGHBOUR: 'it returns false'. Refute it at one input. -/
def flatSameWrong : ChangeSpec := { name := "flatSame", fn := fun _ => fun
  | [d1, d2] => { results := [.lit (.bool false)], args := [d1, d2] }
  | _ => none }
def FlatSameWrongFalsely : Prop := flatSameRow.holds Tryz.pinned (OpenSpec.ofChange flatSameWrong)

/-- 'veneerlaw11.FlatMany': WHATEVER THE INPUT: true; the input reads as it did. -/
def flatManySpec : ChangeSpec := { name := "flatMany", fn := fun _ => fun
  | [d1, d2] => { results := [.lit (.bool true)], args := [d1, d2] }
  | _ => none }
def flatManyRow : OpenClaim := { program := "ytmkjmfegaalcoaagreat", sum := "066ce72abe8568a2910b7b32cbfbdfe609bd1908b2fef8aea83d562e3160f305", func := "veneer/veneerlaw11.FlatMany", spec := "flatMany", inPlace := ["internal/bytealg.IndexByteString", "internal/bytealg.abigen_runtime_cmpstring", "slices.overlaps[veneer/api.Entry]", "internal/abi.NoEscape"], unfollowed := true, recurses := true, apart := false }
def FlatManySaid : Prop := flatManyRow.holds Tryz.pinned (OpenSpec.ofChange flatManySpec)

/-- ITS FALSE NEIGHBOUR: 'it returns false'. Refute it at one input. -/
def flatManyWrong : ChangeSpec := { name := "flatMany", fn := fun _ => fun
  | [d1, d2] => { results := [.lit (.bool false)], args := [d1, d2] }
  | _ => none }
def FlatManyWrongFalsely : Prop := flatManyRow.holds Tryz.pinned (OpenSpec.ofChange flatManyWrong)

/-- 'veneerlaw10.MergeTells': WHATEVER THE INPUT: true; the input reads as it did. -/
def mergeTellsSpec : ChangeSpec := { name := "mergeTells", fn := fun _ => fun
  | [d1, d2, d3, d4, d5, d6, d7] => { results := [.lit (.bool true)], args := [d1, d2, d3, d4, d5, d6, d7] }
  | _ => none }
def mergeTellsRow : OpenClaim := { program := "ytmkjmfegaalcoaagreat", sum := "066ce72abe8568a2910b7b32cbfbdfe609bd1908b2fef8aea83d562e3160f305", func := "veneer/veneerlaw10.MergeTells", spec := "mergeTells", inPlace := ["internal/bytealg.IndexByteString", "internal/bytealg.abigen_runtime_cmpstring", "slices.overlaps[veneer/api.Entry]"], unfollowed := true, recurses := true, apart := false }
def MergeTellsSaid : Prop := mergeTellsRow.holds Tryz.pinned (OpenSpec.ofChange mergeTellsSpec)

/-- ITS FALSE NEIGHBOUR: 'it returns false'. Refute it at one input. -/
def mergeTellsWrong : ChangeSpec := { name := "mergeTells", fn := fun _ => fun
  | [d1, d2, d3, d4, d5, d6, d7] => { results := [.lit (.bool false)], args := [d1, d2, d3, d4, d5, d6, d7] }
  | _ => none }
def MergeTellsWrongFalsely : Prop := mergeTellsRow.holds Tryz.pinned (OpenSpec.ofChange mergeTellsWrong)

/-- 'veneerlaw10.MergeNames': WHATEVER THE INPUT: true; the input reads as it did. -/
def mergeNamesSpec : ChangeSpec := { name := "mergeNames", fn := fun _ => fun
  | [d1, d2, d3] => { results := [.lit (.bool true)], args := [d1, d2, d3] }
  | _ => none }
def mergeNamesRow : OpenClaim := { program := "ytmkjmfegaalcoaagreat", sum := "066ce72abe8568a2910b7b32cbfbdfe609bd1908b2fef8aea83d562e3160f305", func := "veneer/veneerlaw10.MergeNames", spec := "mergeNames", inPlace := ["internal/bytealg.IndexByteString", "internal/bytealg.abigen_runtime_cmpstring", "slices.overlaps[veneer/api.Entry]"], unfollowed := true, recurses := true, apart := false }
def MergeNamesSaid : Prop := mergeNamesRow.holds Tryz.pinned (OpenSpec.ofChange mergeNamesSpec)

/-- ITS FALSE NEIGHBOUR: 'it returns false'. Refute it at one input. -/
def mergeNamesWrong : ChangeSpec := { name := "mergeNames", fn := fun _ => fun
  | [d1, d2, d3] => { results := [.lit (.bool false)], args := [d1, d2, d3] }
  | _ => none }
def MergeNamesWrongFalsely : Prop := mergeNamesRow.holds Tryz.pinned (OpenSpec.ofChange mergeNamesWrong)

/-- 'veneerlaw10.MergeAlone': WHATEVER THE INPUT: true; the input reads as it did. -/
def mergeAloneSpec : ChangeSpec := { name := "mergeAlone", fn := fun _ => fun
  | [d1, d2, d3] => { results := [.lit (.bool true)], args := [d1, d2, d3] }
  | _ => none }
def mergeAloneRow : OpenClaim := { program := "ytmkjmfegaalcoaagreat", sum := "066ce72abe8568a2910b7b32cbfbdfe609bd1908b2fef8aea83d562e3160f305", func := "veneer/veneerlaw10.MergeAlone", spec := "mergeAlone", inPlace := ["internal/bytealg.IndexByteString", "internal/bytealg.abigen_runtime_cmpstring", "slices.overlaps[veneer/api.Entry]"], unfollowed := true, recurses := true, apart := false }
def MergeAloneSaid : Prop := mergeAloneRow.holds Tryz.pinned (OpenSpec.ofChange mergeAloneSpec)

/-- ITS FALSE NEIGHBOUR: 'it returns false'. Refute it at one input. -/
def mergeAloneWrong : ChangeSpec := { name := "mergeAlone", fn := fun _ => fun
  | [d1, d2, d3] => { results := [.lit (.bool false)], args := [d1, d2, d3] }
  | _ => none }
def MergeAloneWrongFalsely : Prop := mergeAloneRow.holds Tryz.pinned (OpenSpec.ofChange mergeAloneWrong)

/-- 'veneerlaw10.MergeHides': WHATEVER THE INPUT: true; the input reads as it did. -/
def mergeHidesSpec : ChangeSpec := { name := "mergeHides", fn := fun _ => fun
  | [d1, d2] => { results := [.lit (.bool true)], args := [d1, d2] }
  | _ => none }
def mergeHidesRow : OpenClaim := { program := "ytmkjmfegaalcoaagreat", sum := "066ce72abe8568a2910b7b32cbfbdfe609bd1908b2fef8aea83d562e3160f305", func := "veneer/veneerlaw10.MergeHides", spec := "mergeHides", inPlace := ["internal/bytealg.IndexByteString", "internal/bytealg.abigen_runtime_cmpstring", "slices.overlaps[veneer/api.Entry]"], unfollowed := true, recurses := true, apart := false }
def MergeHidesSaid : Prop := mergeHidesRow.holds Tryz.pinned (OpenSpec.ofChange mergeHidesSpec)

/-- ITS FALSE NEIGHBOUR: 'it returns false'. Refute it at one input. -/
def mergeHidesWrong : ChangeSpec := { name := "mergeHides", fn := fun _ => fun
  | [d1, d2] => { results := [.lit (.bool false)], args := [d1, d2] }
  | _ => none }
def MergeHidesWrongFalsely : Prop := mergeHidesRow.holds Tryz.pinned (OpenSpec.ofChange mergeHidesWrong)

/-- 'veneerlaw10.MergeWhite': WHATEVER THE INPUT: true; the input reads as it did. -/
def mergeWhiteSpec : ChangeSpec := { name := "mergeWhite", fn := fun _ => fun
  | [d1, d2] => { results := [.lit (.bool true)], args := [d1, d2] }
  | _ => none }
def mergeWhiteRow : OpenClaim := { program := "ytmkjmfegaalcoaagreat", sum := "066ce72abe8568a2910b7b32cbfbdfe609bd1908b2fef8aea83d562e3160f305", func := "veneer/veneerlaw10.MergeWhite", spec := "mergeWhite", inPlace := ["internal/bytealg.IndexByteString", "internal/bytealg.abigen_runtime_cmpstring", "slices.overlaps[veneer/api.Entry]"], unfollowed := true, recurses := true, apart := false }
def MergeWhiteSaid : Prop := mergeWhiteRow.holds Tryz.pinned (OpenSpec.ofChange mergeWhiteSpec)

/-- ITS FALSE NEIGHBOUR: 'it returns false'. Refute it at one input. -/
def mergeWhiteWrong : ChangeSpec := { name := "mergeWhite", fn := fun _ => fun
  | [d1, d2] => { results := [.lit (.bool false)], args := [d1, d2] }
  | _ => none }
def MergeWhiteWrongFalsely : Prop := mergeWhiteRow.holds Tryz.pinned (OpenSpec.ofChange mergeWhiteWrong)

/-- 'veneerlaw10.MergeOpaque': WHATEVER THE INPUT: true; the input reads as it did. -/
def mergeOpaqueSpec : ChangeSpec := { name := "mergeOpaque", fn := fun _ => fun
  | [d1, d2] => { results := [.lit (.bool true)], args := [d1, d2] }
  | _ => none }
def mergeOpaqueRow : OpenClaim := { program := "ytmkjmfegaalcoaagreat", sum := "066ce72abe8568a2910b7b32cbfbdfe609bd1908b2fef8aea83d562e3160f305", func := "veneer/veneerlaw10.MergeOpaque", spec := "mergeOpaque", inPlace := ["internal/bytealg.IndexByteString", "internal/bytealg.abigen_runtime_cmpstring", "slices.overlaps[veneer/api.Entry]"], unfollowed := true, recurses := true, apart := false }
def MergeOpaqueSaid : Prop := mergeOpaqueRow.holds Tryz.pinned (OpenSpec.ofChange mergeOpaqueSpec)

/-- ITS FALSE NEIGHBOUR: 'it returns false'. Refute it at one input. -/
def mergeOpaqueWrong : ChangeSpec := { name := "mergeOpaque", fn := fun _ => fun
  | [d1, d2] => { results := [.lit (.bool false)], args := [d1, d2] }
  | _ => none }
def MergeOpaqueWrongFalsely : Prop := mergeOpaqueRow.holds Tryz.pinned (OpenSpec.ofChange mergeOpaqueWrong)

/-- 'veneerlaw10.MergeDown': WHATEVER THE INPUT: true; the input reads as it did. -/
def mergeDownSpec : ChangeSpec := { name := "mergeDown", fn := fun _ => fun
  | [d1, d2, d3] => { results := [.lit (.bool true)], args := [d1, d2, d3] }
  | _ => none }
def mergeDownRow : OpenClaim := { program := "ytmkjmfegaalcoaagreat", sum := "066ce72abe8568a2910b7b32cbfbdfe609bd1908b2fef8aea83d562e3160f305", func := "veneer/veneerlaw10.MergeDown", spec := "mergeDown", inPlace := ["internal/bytealg.IndexByteString", "internal/bytealg.abigen_runtime_cmpstring", "slices.overlaps[veneer/api.Entry]"], unfollowed := true, recurses := true, apart := false }
def MergeDownSaid : Prop := mergeDownRow.holds Tryz.pinned (OpenSpec.ofChange mergeDownSpec)

/-- ITS FALSE NEIGHBOUR: 'it returns false'. Refute it at one input. -/
def mergeDownWrong : ChangeSpec := { name := "mergeDown", fn := fun _ => fun
  | [d1, d2, d3] => { results := [.lit (.bool false)], args := [d1, d2, d3] }
  | _ => none }
def MergeDownWrongFalsely : Prop := mergeDownRow.holds Tryz.pinned (OpenSpec.ofChange mergeDownWrong)

/-- 'veneerlaw10.MergeAsks': WHATEVER THE INPUT: true; the input reads as it did. -/
def mergeAsksSpec : ChangeSpec := { name := "mergeAsks", fn := fun _ => fun
  | [d1, d2, d3] => { results := [.lit (.bool true)], args := [d1, d2, d3] }
  | _ => none }
def mergeAsksRow : OpenClaim := { program := "ytmkjmfegaalcoaagreat", sum := "066ce72abe8568a2910b7b32cbfbdfe609bd1908b2fef8aea83d562e3160f305", func := "veneer/veneerlaw10.MergeAsks", spec := "mergeAsks", inPlace := ["internal/bytealg.IndexByteString", "internal/bytealg.abigen_runtime_cmpstring", "slices.overlaps[veneer/api.Entry]"], unfollowed := true, recurses := true, apart := false }
def MergeAsksSaid : Prop := mergeAsksRow.holds Tryz.pinned (OpenSpec.ofChange mergeAsksSpec)

/-- ITS FALSE NEIGHBOUR: 'it returns false'. Refute it at one input. -/
def mergeAsksWrong : ChangeSpec := { name := "mergeAsks", fn := fun _ => fun
  | [d1, d2, d3] => { results := [.lit (.bool false)], args := [d1, d2, d3] }
  | _ => none }
def MergeAsksWrongFalsely : Prop := mergeAsksRow.holds Tryz.pinned (OpenSpec.ofChange mergeAsksWrong)

/-- 'veneerlaw11.FlatOf': WHATEVER THE INPUT: true; the input reads as it did. -/
def flatOfSpec : ChangeSpec := { name := "flatOf", fn := fun _ => fun
  | [d1, d2, d3] => { results := [.lit (.bool true)], args := [d1, d2, d3] }
  | _ => none }
def flatOfRow : OpenClaim := { program := "ytmkjmfegaalcoaagreat", sum := "066ce72abe8568a2910b7b32cbfbdfe609bd1908b2fef8aea83d562e3160f305", func := "veneer/veneerlaw11.FlatOf", spec := "flatOf", inPlace := ["internal/bytealg.IndexByteString", "internal/bytealg.abigen_runtime_cmpstring", "slices.overlaps[veneer/api.Entry]", "internal/abi.NoEscape"], unfollowed := true, recurses := true, apart := false }
def FlatOfSaid : Prop := flatOfRow.holds Tryz.pinned (OpenSpec.ofChange flatOfSpec)

/-- ITS FALSE NEIGHBOUR: 'it returns false'. Refute it at one input. -/
def flatOfWrong : ChangeSpec := { name := "flatOf", fn := fun _ => fun
  | [d1, d2, d3] => { results := [.lit (.bool false)], args := [d1, d2, d3] }
  | _ => none }
def FlatOfWrongFalsely : Prop := flatOfRow.holds Tryz.pinned (OpenSpec.ofChange flatOfWrong)

/-- 'veneerlaw11.FlatPaths': WHATEVER THE INPUT: true; the input reads as it did. -/
def flatPathsSpec : ChangeSpec := { name := "flatPaths", fn := fun _ => fun
  | [d] => { results := [.lit (.bool true)], args := [d] }
  | _ => none }
def flatPathsRow : OpenClaim := { program := "ytmkjmfegaalcoaagreat", sum := "066ce72abe8568a2910b7b32cbfbdfe609bd1908b2fef8aea83d562e3160f305", func := "veneer/veneerlaw11.FlatPaths", spec := "flatPaths", inPlace := ["internal/bytealg.IndexByteString", "internal/bytealg.abigen_runtime_cmpstring", "slices.overlaps[veneer/api.Entry]", "internal/abi.NoEscape"], unfollowed := true, recurses := true, apart := false }
def FlatPathsSaid : Prop := flatPathsRow.holds Tryz.pinned (OpenSpec.ofChange flatPathsSpec)

/-- ITS FALSE NEIGHBOUR: 'it returns false'. Refute it at one input. -/
def flatPathsWrong : ChangeSpec := { name := "flatPaths", fn := fun _ => fun
  | [d] => { results := [.lit (.bool false)], args := [d] }
  | _ => none }
def FlatPathsWrongFalsely : Prop := flatPathsRow.holds Tryz.pinned (OpenSpec.ofChange flatPathsWrong)

/- THE SECOND FORM. 'bulk': how many values and letters a reading holds, each counted each time it is reached (what is shared counts as often as it is met; a slice's spare places count too). A statement '..UptoSaid' is the law's where the arguments, and the package variables that the reading takes, are together of bulk at most 1048576: NARROWER than '..Said'. Prove '..Said' where nothing that the law and all that it calls make is longer than what came in: it says more and counts as full. Else prove '..UptoSaid'. A law counts once. -/
mutual
def uptoBulk {H : Type} : DataW H → Nat
  | .lit (.string bytes) => bytes.length + 1
  | .lit _ => 1
  | .nil => 1
  | .ptr d => uptoBulk d + 1
  | .slice elems spare => uptoBulkAll elems + uptoBulkAll spare + 1
  | .agg parts => uptoBulkAll parts + 1
  | .iface _ d => uptoBulk d + 1
  | .map entries => uptoBulkEntries entries + 1
  | .held _ => 1
def uptoBulkAll {H : Type} : List (DataW H) → Nat
  | [] => 0
  | d :: r => uptoBulk d + uptoBulkAll r
def uptoBulkEntries {H : Type} : List (Lit × DataW H) → Nat
  | [] => 0
  | x :: r => uptoBulkEntry x + uptoBulkEntries r
def uptoBulkEntry {H : Type} : Lit × DataW H → Nat
  | (.string bytes, d) => bytes.length + uptoBulk d + 1
  | (_, d) => uptoBulk d + 1
 end
def uptoSmall : (H : Type) → List (DataW H) → Bool := fun _ ds => decide (uptoBulkAll ds ≤ 1048576)
def OpenSpec.upto (s : _root_.Go.ChangeSpec) : _root_.Go.OpenSpec := { _root_.Go.OpenSpec.ofChange s with cond := some uptoSmall }

/-- 'veneerlaw11.FlatSame', WHERE WHAT IT READS IS OF BULK AT MOST 1048576: true; the input reads as it did. -/
def flatSameUptoRow : OpenClaim := { program := "ytmkjmfegaalcoaagreat", sum := "066ce72abe8568a2910b7b32cbfbdfe609bd1908b2fef8aea83d562e3160f305", func := "veneer/veneerlaw11.FlatSame", spec := "flatSame", inPlace := ["internal/bytealg.IndexByteString", "internal/bytealg.abigen_runtime_cmpstring", "slices.overlaps[veneer/api.Entry]", "internal/abi.NoEscape"], unfollowed := true, recurses := true, apart := false, narrowed := true }
def FlatSameUptoSaid : Prop := flatSameUptoRow.holds Tryz.pinned (OpenSpec.upto flatSameSpec)

/-- 'veneerlaw11.FlatMany', WHERE WHAT IT READS IS OF BULK AT MOST 1048576: true; the input reads as it did. -/
def flatManyUptoRow : OpenClaim := { program := "ytmkjmfegaalcoaagreat", sum := "066ce72abe8568a2910b7b32cbfbdfe609bd1908b2fef8aea83d562e3160f305", func := "veneer/veneerlaw11.FlatMany", spec := "flatMany", inPlace := ["internal/bytealg.IndexByteString", "internal/bytealg.abigen_runtime_cmpstring", "slices.overlaps[veneer/api.Entry]", "internal/abi.NoEscape"], unfollowed := true, recurses := true, apart := false, narrowed := true }
def FlatManyUptoSaid : Prop := flatManyUptoRow.holds Tryz.pinned (OpenSpec.upto flatManySpec)

/-- 'veneerlaw10.MergeTells', WHERE WHAT IT READS IS OF BULK AT MOST 1048576: true; the input reads as it did. -/
def mergeTellsUptoRow : OpenClaim := { program := "ytmkjmfegaalcoaagreat", sum := "066ce72abe8568a2910b7b32cbfbdfe609bd1908b2fef8aea83d562e3160f305", func := "veneer/veneerlaw10.MergeTells", spec := "mergeTells", inPlace := ["internal/bytealg.IndexByteString", "internal/bytealg.abigen_runtime_cmpstring", "slices.overlaps[veneer/api.Entry]"], unfollowed := true, recurses := true, apart := false, narrowed := true }
def MergeTellsUptoSaid : Prop := mergeTellsUptoRow.holds Tryz.pinned (OpenSpec.upto mergeTellsSpec)

/-- 'veneerlaw10.MergeNames', WHERE WHAT IT READS IS OF BULK AT MOST 1048576: true; the input reads as it did. -/
def mergeNamesUptoRow : OpenClaim := { program := "ytmkjmfegaalcoaagreat", sum := "066ce72abe8568a2910b7b32cbfbdfe609bd1908b2fef8aea83d562e3160f305", func := "veneer/veneerlaw10.MergeNames", spec := "mergeNames", inPlace := ["internal/bytealg.IndexByteString", "internal/bytealg.abigen_runtime_cmpstring", "slices.overlaps[veneer/api.Entry]"], unfollowed := true, recurses := true, apart := false, narrowed := true }
def MergeNamesUptoSaid : Prop := mergeNamesUptoRow.holds Tryz.pinned (OpenSpec.upto mergeNamesSpec)

/-- 'veneerlaw10.MergeAlone', WHERE WHAT IT READS IS OF BULK AT MOST 1048576: true; the input reads as it did. -/
def mergeAloneUptoRow : OpenClaim := { program := "ytmkjmfegaalcoaagreat", sum := "066ce72abe8568a2910b7b32cbfbdfe609bd1908b2fef8aea83d562e3160f305", func := "veneer/veneerlaw10.MergeAlone", spec := "mergeAlone", inPlace := ["internal/bytealg.IndexByteString", "internal/bytealg.abigen_runtime_cmpstring", "slices.overlaps[veneer/api.Entry]"], unfollowed := true, recurses := true, apart := false, narrowed := true }
def MergeAloneUptoSaid : Prop := mergeAloneUptoRow.holds Tryz.pinned (OpenSpec.upto mergeAloneSpec)

/-- 'veneerlaw10.MergeHides', WHERE WHAT IT READS IS OF BULK AT MOST 1048576: true; the input reads as it did. -/
def mergeHidesUptoRow : OpenClaim := { program := "ytmkjmfegaalcoaagreat", sum := "066ce72abe8568a2910b7b32cbfbdfe609bd1908b2fef8aea83d562e3160f305", func := "veneer/veneerlaw10.MergeHides", spec := "mergeHides", inPlace := ["internal/bytealg.IndexByteString", "internal/bytealg.abigen_runtime_cmpstring", "slices.overlaps[veneer/api.Entry]"], unfollowed := true, recurses := true, apart := false, narrowed := true }
def MergeHidesUptoSaid : Prop := mergeHidesUptoRow.holds Tryz.pinned (OpenSpec.upto mergeHidesSpec)

/-- 'veneerlaw10.MergeWhite', WHERE WHAT IT READS IS OF BULK AT MOST 1048576: true; the input reads as it did. -/
def mergeWhiteUptoRow : OpenClaim := { program := "ytmkjmfegaalcoaagreat", sum := "066ce72abe8568a2910b7b32cbfbdfe609bd1908b2fef8aea83d562e3160f305", func := "veneer/veneerlaw10.MergeWhite", spec := "mergeWhite", inPlace := ["internal/bytealg.IndexByteString", "internal/bytealg.abigen_runtime_cmpstring", "slices.overlaps[veneer/api.Entry]"], unfollowed := true, recurses := true, apart := false, narrowed := true }
def MergeWhiteUptoSaid : Prop := mergeWhiteUptoRow.holds Tryz.pinned (OpenSpec.upto mergeWhiteSpec)

/-- 'veneerlaw10.MergeOpaque', WHERE WHAT IT READS IS OF BULK AT MOST 1048576: true; the input reads as it did. -/
def mergeOpaqueUptoRow : OpenClaim := { program := "ytmkjmfegaalcoaagreat", sum := "066ce72abe8568a2910b7b32cbfbdfe609bd1908b2fef8aea83d562e3160f305", func := "veneer/veneerlaw10.MergeOpaque", spec := "mergeOpaque", inPlace := ["internal/bytealg.IndexByteString", "internal/bytealg.abigen_runtime_cmpstring", "slices.overlaps[veneer/api.Entry]"], unfollowed := true, recurses := true, apart := false, narrowed := true }
def MergeOpaqueUptoSaid : Prop := mergeOpaqueUptoRow.holds Tryz.pinned (OpenSpec.upto mergeOpaqueSpec)

/-- 'veneerlaw10.MergeDown', WHERE WHAT IT READS IS OF BULK AT MOST 1048576: true; the input reads as it did. -/
def mergeDownUptoRow : OpenClaim := { program := "ytmkjmfegaalcoaagreat", sum := "066ce72abe8568a2910b7b32cbfbdfe609bd1908b2fef8aea83d562e3160f305", func := "veneer/veneerlaw10.MergeDown", spec := "mergeDown", inPlace := ["internal/bytealg.IndexByteString", "internal/bytealg.abigen_runtime_cmpstring", "slices.overlaps[veneer/api.Entry]"], unfollowed := true, recurses := true, apart := false, narrowed := true }
def MergeDownUptoSaid : Prop := mergeDownUptoRow.holds Tryz.pinned (OpenSpec.upto mergeDownSpec)

/-- 'veneerlaw10.MergeAsks', WHERE WHAT IT READS IS OF BULK AT MOST 1048576: true; the input reads as it did. -/
def mergeAsksUptoRow : OpenClaim := { program := "ytmkjmfegaalcoaagreat", sum := "066ce72abe8568a2910b7b32cbfbdfe609bd1908b2fef8aea83d562e3160f305", func := "veneer/veneerlaw10.MergeAsks", spec := "mergeAsks", inPlace := ["internal/bytealg.IndexByteString", "internal/bytealg.abigen_runtime_cmpstring", "slices.overlaps[veneer/api.Entry]"], unfollowed := true, recurses := true, apart := false, narrowed := true }
def MergeAsksUptoSaid : Prop := mergeAsksUptoRow.holds Tryz.pinned (OpenSpec.upto mergeAsksSpec)

/-- 'veneerlaw11.FlatOf', WHERE WHAT IT READS IS OF BULK AT MOST 1048576: true; the input reads as it did. -/
def flatOfUptoRow : OpenClaim := { program := "ytmkjmfegaalcoaagreat", sum := "066ce72abe8568a2910b7b32cbfbdfe609bd1908b2fef8aea83d562e3160f305", func := "veneer/veneerlaw11.FlatOf", spec := "flatOf", inPlace := ["internal/bytealg.IndexByteString", "internal/bytealg.abigen_runtime_cmpstring", "slices.overlaps[veneer/api.Entry]", "internal/abi.NoEscape"], unfollowed := true, recurses := true, apart := false, narrowed := true }
def FlatOfUptoSaid : Prop := flatOfUptoRow.holds Tryz.pinned (OpenSpec.upto flatOfSpec)

/-- 'veneerlaw11.FlatPaths', WHERE WHAT IT READS IS OF BULK AT MOST 1048576: true; the input reads as it did. -/
def flatPathsUptoRow : OpenClaim := { program := "ytmkjmfegaalcoaagreat", sum := "066ce72abe8568a2910b7b32cbfbdfe609bd1908b2fef8aea83d562e3160f305", func := "veneer/veneerlaw11.FlatPaths", spec := "flatPaths", inPlace := ["internal/bytealg.IndexByteString", "internal/bytealg.abigen_runtime_cmpstring", "slices.overlaps[veneer/api.Entry]", "internal/abi.NoEscape"], unfollowed := true, recurses := true, apart := false, narrowed := true }
def FlatPathsUptoSaid : Prop := flatPathsUptoRow.holds Tryz.pinned (OpenSpec.upto flatPathsSpec)

end Rows
end Go.Proofs.YtmkjmfegaalcoaaGreat
