/- The law MergeHides, part 7. -/
import Derived.Test.YtmkjmfegaalcoaaGreatRows
import Derived.Test.YtmkjmfegaalcoaaGreatM6
import Derived.Test.YtmkjmfegaalcoaaGreatM3
import Derived.Test.YtmkjmfegaalcoaaGreatM2
import Derived.Test.YtmkjmfegaalcoaaGreatM4
import Derived.KernelRfl
set_option linter.all false
namespace Go.Proofs.YtmkjmfegaalcoaaGreat
open Go.Shade
theorem hm : Tryz.prog.follows .mixedOrders = true := by kernel_rfl
noncomputable def lf (fn : Func) : LFun := (lowF Tryz.prog fn).getD ⟨.skip, [], 0⟩
theorem lo24 : LoF Tryz.prog 24 (Go.Shade.veneerlaw10Build 42 49 46 50 64 65 47 51 48 52 53 54 66 67) := ⟨⟨Tryz.f24, Tryz.func24, by kernel_rfl⟩, by kernel_rfl⟩
theorem lo25 : LoF Tryz.prog 25 (lf Tryz.f25) := ⟨⟨_, Tryz.func25, by kernel_rfl⟩, by kernel_rfl⟩
theorem e25 (cal : FuncId -> Bool) (φ : Oracle) (N : Nat) (v0 v1 v2 v3 : IV) (H : Heap) : lrunK cal φ N (lf Tryz.f25) [v0, v1, v2, v3] H = Go.Shade.mergeNewS cal φ N v0 v1 v2 v3 H := by kernel_rfl
theorem lo26 : LoF Tryz.prog 26 (lf Tryz.f26) := ⟨⟨_, Tryz.func26, by kernel_rfl⟩, by kernel_rfl⟩
theorem e26 (cal : FuncId -> Bool) (φ : Oracle) (N : Nat) (v0 : IV) (H : Heap) : lrunK cal φ N (lf Tryz.f26) [v0] H = Go.Shade.MvRootS cal φ N 44 68 v0 H := by kernel_rfl
theorem lo28 : LoF Tryz.prog 28 (lf Tryz.f28) := ⟨⟨_, Tryz.func28, by kernel_rfl⟩, by kernel_rfl⟩
theorem e28 (cal : FuncId -> Bool) (φ : Oracle) (N : Nat) (v0 v1 v2 : IV) (H : Heap) : lrunK cal φ N (lf Tryz.f28) [v0, v1, v2] H = Go.Shade.MvGetS cal φ N 71 72 43 44 68 v0 v1 v2 H := by kernel_rfl
theorem lo30 : LoF Tryz.prog 30 (lf Tryz.f30) := ⟨⟨_, Tryz.func30, by kernel_rfl⟩, by kernel_rfl⟩
theorem e30 (cal : FuncId -> Bool) (φ : Oracle) (N : Nat) (v0 v1 : IV) (H : Heap) : lrunK cal φ N (lf Tryz.f30) [v0, v1] H = Go.Shade.MvKindS cal φ N 75 44 v0 v1 H := by kernel_rfl
theorem lo42 : LoF Tryz.prog 42 (Go.Shade.branchNew 88 89 90 91) := ⟨⟨Tryz.f42, Tryz.func42, by kernel_rfl⟩, by kernel_rfl⟩
theorem lo43 : LoF Tryz.prog 43 (lf Tryz.f43) := ⟨⟨_, Tryz.func43, by kernel_rfl⟩, by kernel_rfl⟩
theorem e43 (cal : FuncId -> Bool) (φ : Oracle) (N : Nat) (v0 v1 v2 : IV) (H : Heap) : lrunK cal φ N (lf Tryz.f43) [v0, v1, v2] H = Go.Shade.BbGetS cal φ N 92 93 v0 v1 v2 H := by kernel_rfl
theorem lo44 : LoF Tryz.prog 44 (lf Tryz.f44) := ⟨⟨_, Tryz.func44, by kernel_rfl⟩, by kernel_rfl⟩
theorem e44 (cal : FuncId -> Bool) (φ : Oracle) (N : Nat) (v0 v1 : IV) (H : Heap) : lrunK cal φ N (lf Tryz.f44) [v0, v1] H = Go.Shade.BbKindS cal φ N 94 v0 v1 H := by kernel_rfl
theorem lo45 : LoF Tryz.prog 45 (lf Tryz.f45) := ⟨⟨_, Tryz.func45, by kernel_rfl⟩, by kernel_rfl⟩
theorem e45 (cal : FuncId -> Bool) (φ : Oracle) (N : Nat) (v0 v1 : IV) (H : Heap) : lrunK cal φ N (lf Tryz.f45) [v0, v1] H = Go.Shade.BbMarksS cal φ N 94 v0 v1 H := by kernel_rfl
theorem lo46 : LoF Tryz.prog 46 (lf Tryz.f46) := ⟨⟨_, Tryz.func46, by kernel_rfl⟩, by kernel_rfl⟩
theorem e46 (cal : FuncId -> Bool) (φ : Oracle) (N : Nat) (v0 v1 v2 v3 v4 : IV) (H : Heap) : lrunK cal φ N (lf Tryz.f46) [v0, v1, v2, v3, v4] H = Go.Shade.BbMakeS cal φ N 95 96 97 91 98 v0 v1 v2 v3 v4 H := by kernel_rfl
theorem lo47 : LoF Tryz.prog 47 (lf Tryz.f47) := ⟨⟨_, Tryz.func47, by kernel_rfl⟩, by kernel_rfl⟩
theorem e47 (cal : FuncId -> Bool) (φ : Oracle) (N : Nat) (v0 v1 v2 : IV) (H : Heap) : lrunK cal φ N (lf Tryz.f47) [v0, v1, v2] H = Go.Shade.BbUnlinkS cal φ N 99 100 v0 v1 v2 H := by kernel_rfl
theorem lo48 : LoF Tryz.prog 48 (lf Tryz.f48) := ⟨⟨_, Tryz.func48, by kernel_rfl⟩, by kernel_rfl⟩
theorem e48 (cal : FuncId -> Bool) (φ : Oracle) (N : Nat) (v0 v1 v2 : IV) (H : Heap) : lrunK cal φ N (lf Tryz.f48) [v0, v1, v2] H = Go.Shade.BbMarkS cal φ N 94 v0 v1 v2 H := by kernel_rfl
theorem lo49 : LoF Tryz.prog 49 (lf Tryz.f49) := ⟨⟨_, Tryz.func49, by kernel_rfl⟩, by kernel_rfl⟩
theorem e49 (cal : FuncId -> Bool) (φ : Oracle) (N : Nat) (v0 : IV) (H : Heap) : lrunK cal φ N (lf Tryz.f49) [v0] H = Go.Shade.vr05NewS cal φ N 101 v0 H := by kernel_rfl
theorem lo50 : LoF Tryz.prog 50 (Go.Shade.R5Make 102 103) := ⟨⟨Tryz.f50, Tryz.func50, by kernel_rfl⟩, by kernel_rfl⟩
theorem lo51 : LoF Tryz.prog 51 (lf Tryz.f51) := ⟨⟨_, Tryz.func51, by kernel_rfl⟩, by kernel_rfl⟩
theorem e51 (cal : FuncId -> Bool) (φ : Oracle) (N : Nat) (v0 v1 v2 : IV) (H : Heap) : lrunK cal φ N (lf Tryz.f51) [v0, v1, v2] H = Go.Shade.R5UnlinkS cal φ N 104 74 105 106 v0 v1 v2 H := by kernel_rfl
theorem lo52 : LoF Tryz.prog 52 (lf Tryz.f52) := ⟨⟨_, Tryz.func52, by kernel_rfl⟩, by kernel_rfl⟩
theorem e52 (cal : FuncId -> Bool) (φ : Oracle) (N : Nat) (v0 v1 v2 : IV) (H : Heap) : lrunK cal φ N (lf Tryz.f52) [v0, v1, v2] H = Go.Shade.R5MarkS cal φ N 107 v0 v1 v2 H := by kernel_rfl
theorem lo53 : LoF Tryz.prog 53 (lf Tryz.f53) := ⟨⟨_, Tryz.func53, by kernel_rfl⟩, by kernel_rfl⟩
theorem e53 (cal : FuncId -> Bool) (φ : Oracle) (N : Nat) (v0 v1 v2 v3 : IV) (H : Heap) : lrunK cal φ N (lf Tryz.f53) [v0, v1, v2, v3] H = Go.Shade.BbWriteS cal φ N 108 109 v0 v1 v2 v3 H := by kernel_rfl
theorem lo54 : LoF Tryz.prog 54 (lf Tryz.f54) := ⟨⟨_, Tryz.func54, by kernel_rfl⟩, by kernel_rfl⟩
theorem e54 (cal : FuncId -> Bool) (φ : Oracle) (N : Nat) (v0 v1 v2 v3 : IV) (H : Heap) : lrunK cal φ N (lf Tryz.f54) [v0, v1, v2, v3] H = Go.Shade.R5WriteS cal φ N 110 111 v0 v1 v2 v3 H := by kernel_rfl
theorem lo62 : LoF Tryz.prog 62 (lf Tryz.f62) := ⟨⟨_, Tryz.func62, by kernel_rfl⟩, by kernel_rfl⟩
theorem e62 (cal : FuncId -> Bool) (φ : Oracle) (N : Nat) (v0 : IV) (H : Heap) : lrunK cal φ N (lf Tryz.f62) [v0] H = Go.Shade.QqLenS cal φ N 117 v0 H := by kernel_rfl
theorem lo64 : LoF Tryz.prog 64 (lf Tryz.f64) := ⟨⟨_, Tryz.func64, by kernel_rfl⟩, by kernel_rfl⟩
theorem e64 (cal : FuncId -> Bool) (φ : Oracle) (N : Nat) (v0 v1 v2 v3 : IV) (H : Heap) : lrunK cal φ N (lf Tryz.f64) [v0, v1, v2, v3] H = Go.Shade.BbLinkS cal φ N 95 94 98 v0 v1 v2 v3 H := by kernel_rfl
theorem lo65 : LoF Tryz.prog 65 (lf Tryz.f65) := ⟨⟨_, Tryz.func65, by kernel_rfl⟩, by kernel_rfl⟩
theorem e65 (cal : FuncId -> Bool) (φ : Oracle) (N : Nat) (v0 v1 v2 v3 : IV) (H : Heap) : lrunK cal φ N (lf Tryz.f65) [v0, v1, v2, v3] H = Go.Shade.R5LinkS cal φ N 102 107 103 v0 v1 v2 v3 H := by kernel_rfl
theorem lo66 : LoF Tryz.prog 66 (lf Tryz.f66) := ⟨⟨_, Tryz.func66, by kernel_rfl⟩, by kernel_rfl⟩
theorem e66 (cal : FuncId -> Bool) (φ : Oracle) (N : Nat) (v0 v1 v2 v3 v4 : IV) (H : Heap) : lrunK cal φ N (lf Tryz.f66) [v0, v1, v2, v3, v4] H = Go.Shade.BbRenameS cal φ N 99 118 119 120 93 121 100 122 98 v0 v1 v2 v3 v4 H := by kernel_rfl
theorem lo67 : LoF Tryz.prog 67 (lf Tryz.f67) := ⟨⟨_, Tryz.func67, by kernel_rfl⟩, by kernel_rfl⟩
theorem e67 (cal : FuncId -> Bool) (φ : Oracle) (N : Nat) (v0 v1 v2 v3 v4 : IV) (H : Heap) : lrunK cal φ N (lf Tryz.f67) [v0, v1, v2, v3, v4] H = Go.Shade.R5RenameS cal φ N 104 74 123 124 105 106 103 v0 v1 v2 v3 v4 H := by kernel_rfl
theorem lo68 : LoF Tryz.prog 68 (lf Tryz.f68) := ⟨⟨_, Tryz.func68, by kernel_rfl⟩, by kernel_rfl⟩
theorem e68 (cal : FuncId -> Bool) (φ : Oracle) (N : Nat) (v0 v1 : IV) (H : Heap) : lrunK cal φ N (lf Tryz.f68) [v0, v1] H = Go.Shade.MvOpaqueS cal φ N 45 v0 v1 H := by kernel_rfl
theorem lo69 : LoF Tryz.prog 69 (lf Tryz.f69) := ⟨⟨_, Tryz.func69, by kernel_rfl⟩, by kernel_rfl⟩
theorem e69 (cal : FuncId -> Bool) (φ : Oracle) (N : Nat) (v0 v1 : IV) (H : Heap) : lrunK cal φ N (lf Tryz.f69) [v0, v1] H = Go.Shade.R5KindS cal φ N 107 v0 v1 H := by kernel_rfl
theorem lo71 : LoF Tryz.prog 71 (lf Tryz.f71) := ⟨⟨_, Tryz.func71, by kernel_rfl⟩, by kernel_rfl⟩
theorem e71 (cal : FuncId -> Bool) (φ : Oracle) (N : Nat) (v0 v1 : IV) (H : Heap) : lrunK cal φ N (lf Tryz.f71) [v0, v1] H = Go.Shade.MvDirS cal φ N 30 v0 v1 H := by kernel_rfl
theorem lo72 : LoF Tryz.prog 72 (lf Tryz.f72) := ⟨⟨_, Tryz.func72, by kernel_rfl⟩, by kernel_rfl⟩
theorem e72 (cal : FuncId -> Bool) (φ : Oracle) (N : Nat) (v0 v1 v2 : IV) (H : Heap) : lrunK cal φ N (lf Tryz.f72) [v0, v1, v2] H = Go.Shade.MvBelowS cal φ N 68 43 v0 v1 v2 H := by kernel_rfl
theorem lo74 : LoF Tryz.prog 74 (lf Tryz.f74) := ⟨⟨_, Tryz.func74, by kernel_rfl⟩, by kernel_rfl⟩
theorem e74 (cal : FuncId -> Bool) (φ : Oracle) (N : Nat) (v0 v1 v2 : IV) (H : Heap) : lrunK cal φ N (lf Tryz.f74) [v0, v1, v2] H = Go.Shade.R5GetS cal φ N 104 125 v0 v1 v2 H := by kernel_rfl
theorem lo75 : LoF Tryz.prog 75 (lf Tryz.f75) := ⟨⟨_, Tryz.func75, by kernel_rfl⟩, by kernel_rfl⟩
theorem e75 (cal : FuncId -> Bool) (φ : Oracle) (N : Nat) (v0 v1 : IV) (H : Heap) : lrunK cal φ N (lf Tryz.f75) [v0, v1] H = Go.Shade.MvSideS cal φ N v0 v1 H := by kernel_rfl
theorem lo81 : LoF Tryz.prog 81 Go.Shade.vr01Less := ⟨⟨Tryz.f81, Tryz.func81, by kernel_rfl⟩, by kernel_rfl⟩
theorem lo88 : LoF Tryz.prog 88 (lf Tryz.f88) := ⟨⟨_, Tryz.func88, by kernel_rfl⟩, by kernel_rfl⟩
theorem e88 (cal : FuncId -> Bool) (φ : Oracle) (N : Nat) (v0 : IV) (H : Heap) : lrunK cal φ N (lf Tryz.f88) [v0] H = Go.Shade.blockNewS cal φ N v0 H := by kernel_rfl
theorem lo89 : LoF Tryz.prog 89 (lf Tryz.f89) := ⟨⟨_, Tryz.func89, by kernel_rfl⟩, by kernel_rfl⟩
theorem e89 (cal : FuncId -> Bool) (φ : Oracle) (N : Nat) (H : Heap) : lrunK cal φ N (lf Tryz.f89) [] H = Go.Shade.queueNewS cal φ N H := by kernel_rfl
theorem lo90 : LoF Tryz.prog 90 (lf Tryz.f90) := ⟨⟨_, Tryz.func90, by kernel_rfl⟩, by kernel_rfl⟩
theorem e90 (cal : FuncId -> Bool) (φ : Oracle) (N : Nat) (v0 v1 v2 : IV) (H : Heap) : lrunK cal φ N (lf Tryz.f90) [v0, v1, v2] H = Go.Shade.QqPushS cal φ N 133 v0 v1 v2 H := by kernel_rfl
theorem lo91 : LoF Tryz.prog 91 (lf Tryz.f91) := ⟨⟨_, Tryz.func91, by kernel_rfl⟩, by kernel_rfl⟩
theorem e91 (cal : FuncId -> Bool) (φ : Oracle) (N : Nat) (H : Heap) : lrunK cal φ N (lf Tryz.f91) [] H = Go.Shade.dentsNewS cal φ N H := by kernel_rfl
theorem lo92 : LoF Tryz.prog 92 (lf Tryz.f92) := ⟨⟨_, Tryz.func92, by kernel_rfl⟩, by kernel_rfl⟩
theorem e92 (cal : FuncId -> Bool) (φ : Oracle) (N : Nat) (v0 v1 : IV) (H : Heap) : lrunK cal φ N (lf Tryz.f92) [v0, v1] H = Go.Shade.BbDirS cal φ N 94 v0 v1 H := by kernel_rfl
theorem lo93 : LoF Tryz.prog 93 (lf Tryz.f93) := ⟨⟨_, Tryz.func93, by kernel_rfl⟩, by kernel_rfl⟩
theorem e93 (cal : FuncId -> Bool) (φ : Oracle) (N : Nat) (v0 v1 : IV) (H : Heap) : lrunK cal φ N (lf Tryz.f93) [v0, v1] H = Go.Shade.DdGetS cal φ N 134 v0 v1 H := by kernel_rfl
theorem lo94 : LoF Tryz.prog 94 (lf Tryz.f94) := ⟨⟨_, Tryz.func94, by kernel_rfl⟩, by kernel_rfl⟩
theorem e94 (cal : FuncId -> Bool) (φ : Oracle) (N : Nat) (v0 v1 : IV) (H : Heap) : lrunK cal φ N (lf Tryz.f94) [v0, v1] H = Go.Shade.BbAtS cal φ N v0 v1 H := by kernel_rfl
theorem lo95 : LoF Tryz.prog 95 (lf Tryz.f95) := ⟨⟨_, Tryz.func95, by kernel_rfl⟩, by kernel_rfl⟩
theorem e95 (cal : FuncId -> Bool) (φ : Oracle) (N : Nat) (v0 v1 v2 : IV) (H : Heap) : lrunK cal φ N (lf Tryz.f95) [v0, v1, v2] H = Go.Shade.BbVacantS cal φ N 118 119 93 v0 v1 v2 H := by kernel_rfl
theorem lo96 : LoF Tryz.prog 96 (lf Tryz.f96) := ⟨⟨_, Tryz.func96, by kernel_rfl⟩, by kernel_rfl⟩
theorem e96 (cal : FuncId -> Bool) (φ : Oracle) (N : Nat) (v0 : IV) (H : Heap) : lrunK cal φ N (lf Tryz.f96) [v0] H = Go.Shade.QqPopS cal φ N 62 135 v0 H := by kernel_rfl
theorem lo97 : LoF Tryz.prog 97 (lf Tryz.f97) := ⟨⟨_, Tryz.func97, by kernel_rfl⟩, by kernel_rfl⟩
theorem e97 (cal : FuncId -> Bool) (φ : Oracle) (N : Nat) (v0 : IV) (H : Heap) : lrunK cal φ N (lf Tryz.f97) [v0] H = Go.Shade.BsBodyS cal φ N v0 H := by kernel_rfl
theorem lo98 : LoF Tryz.prog 98 (lf Tryz.f98) := ⟨⟨_, Tryz.func98, by kernel_rfl⟩, by kernel_rfl⟩
theorem e98 (cal : FuncId -> Bool) (φ : Oracle) (N : Nat) (v0 v1 v2 : IV) (H : Heap) : lrunK cal φ N (lf Tryz.f98) [v0, v1, v2] H = Go.Shade.DdSetS cal φ N 136 134 137 v0 v1 v2 H := by kernel_rfl
theorem lo99 : LoF Tryz.prog 99 (lf Tryz.f99) := ⟨⟨_, Tryz.func99, by kernel_rfl⟩, by kernel_rfl⟩
theorem e99 (cal : FuncId -> Bool) (φ : Oracle) (N : Nat) (v0 v1 v2 : IV) (H : Heap) : lrunK cal φ N (lf Tryz.f99) [v0, v1, v2] H = Go.Shade.BbNamedS cal φ N 118 93 v0 v1 v2 H := by kernel_rfl
theorem lo100 : LoF Tryz.prog 100 (lf Tryz.f100) := ⟨⟨_, Tryz.func100, by kernel_rfl⟩, by kernel_rfl⟩
theorem e100 (cal : FuncId -> Bool) (φ : Oracle) (N : Nat) (v0 v1 v2 : IV) (H : Heap) : lrunK cal φ N (lf Tryz.f100) [v0, v1, v2] H = Go.Shade.BbAwayS cal φ N 122 138 v0 v1 v2 H := by kernel_rfl
theorem lo101 : LoF Tryz.prog 101 (lf Tryz.f101) := ⟨⟨_, Tryz.func101, by kernel_rfl⟩, by kernel_rfl⟩
theorem e101 (cal : FuncId -> Bool) (φ : Oracle) (N : Nat) (v0 : IV) (H : Heap) : lrunK cal φ N (lf Tryz.f101) [v0] H = Go.Shade.vr03NewS cal φ N v0 H := by kernel_rfl
theorem lo102 : LoF Tryz.prog 102 (lf Tryz.f102) := ⟨⟨_, Tryz.func102, by kernel_rfl⟩, by kernel_rfl⟩
theorem e102 (cal : FuncId -> Bool) (φ : Oracle) (N : Nat) (v0 v1 v2 : IV) (H : Heap) : lrunK cal φ N (lf Tryz.f102) [v0, v1, v2] H = Go.Shade.R5VacantS cal φ N 104 123 125 v0 v1 v2 H := by kernel_rfl
theorem lo103 : LoF Tryz.prog 103 (Go.Shade.R4Set 139 81) := ⟨⟨Tryz.f103, Tryz.func103, by kernel_rfl⟩, by kernel_rfl⟩
theorem lo104 : LoF Tryz.prog 104 (lf Tryz.f104) := ⟨⟨_, Tryz.func104, by kernel_rfl⟩, by kernel_rfl⟩
theorem e104 (cal : FuncId -> Bool) (φ : Oracle) (N : Nat) (v0 v1 v2 : IV) (H : Heap) : lrunK cal φ N (lf Tryz.f104) [v0, v1, v2] H = Go.Shade.R5DirS cal φ N 107 v0 v1 v2 H := by kernel_rfl
theorem lo105 : LoF Tryz.prog 105 (Go.Shade.R4Del 125) := ⟨⟨Tryz.f105, Tryz.func105, by kernel_rfl⟩, by kernel_rfl⟩
theorem lo106 : LoF Tryz.prog 106 (lf Tryz.f106) := ⟨⟨_, Tryz.func106, by kernel_rfl⟩, by kernel_rfl⟩
theorem e106 (cal : FuncId -> Bool) (φ : Oracle) (N : Nat) (v0 v1 v2 v3 : IV) (H : Heap) : lrunK cal φ N (lf Tryz.f106) [v0, v1, v2, v3] H = Go.Shade.R5LessS cal φ N 140 v0 v1 v2 v3 H := by kernel_rfl
theorem lo107 : LoF Tryz.prog 107 (lf Tryz.f107) := ⟨⟨_, Tryz.func107, by kernel_rfl⟩, by kernel_rfl⟩
theorem e107 (cal : FuncId -> Bool) (φ : Oracle) (N : Nat) (v0 v1 : IV) (H : Heap) : lrunK cal φ N (lf Tryz.f107) [v0, v1] H = Go.Shade.R5IsS cal φ N v0 v1 H := by kernel_rfl
theorem lo108 : LoF Tryz.prog 108 (lf Tryz.f108) := ⟨⟨_, Tryz.func108, by kernel_rfl⟩, by kernel_rfl⟩
theorem e108 (cal : FuncId -> Bool) (φ : Oracle) (N : Nat) (v0 v1 : IV) (H : Heap) : lrunK cal φ N (lf Tryz.f108) [v0, v1] H = Go.Shade.BbFileS cal φ N 94 v0 v1 H := by kernel_rfl
theorem lo109 : LoF Tryz.prog 109 Go.Shade.BsWrite := ⟨⟨Tryz.f109, Tryz.func109, by kernel_rfl⟩, by kernel_rfl⟩
theorem lo110 : LoF Tryz.prog 110 (lf Tryz.f110) := ⟨⟨_, Tryz.func110, by kernel_rfl⟩, by kernel_rfl⟩
theorem e110 (cal : FuncId -> Bool) (φ : Oracle) (N : Nat) (v0 v1 : IV) (H : Heap) : lrunK cal φ N (lf Tryz.f110) [v0, v1] H = Go.Shade.R5FileS cal φ N 69 v0 v1 H := by kernel_rfl
theorem lo111 : LoF Tryz.prog 111 (Go.Shade.R3sWrite 141 142) := ⟨⟨Tryz.f111, Tryz.func111, by kernel_rfl⟩, by kernel_rfl⟩
theorem lo117 : LoF Tryz.prog 117 (lf Tryz.f117) := ⟨⟨_, Tryz.func117, by kernel_rfl⟩, by kernel_rfl⟩
theorem e117 (cal : FuncId -> Bool) (φ : Oracle) (N : Nat) (v0 : IV) (H : Heap) : lrunK cal φ N (lf Tryz.f117) [v0] H = Go.Shade.QisLenS cal φ N v0 H := by kernel_rfl
theorem lo118 : LoF Tryz.prog 118 (lf Tryz.f118) := ⟨⟨_, Tryz.func118, by kernel_rfl⟩, by kernel_rfl⟩
theorem e118 (cal : FuncId -> Bool) (φ : Oracle) (N : Nat) (v0 v1 : IV) (H : Heap) : lrunK cal φ N (lf Tryz.f118) [v0, v1] H = Go.Shade.BbChangedS cal φ N 92 v0 v1 H := by kernel_rfl
theorem lo119 : LoF Tryz.prog 119 (lf Tryz.f119) := ⟨⟨_, Tryz.func119, by kernel_rfl⟩, by kernel_rfl⟩
theorem e119 (cal : FuncId -> Bool) (φ : Oracle) (N : Nat) (v0 : IV) (H : Heap) : lrunK cal φ N (lf Tryz.f119) [v0] H = Go.Shade.branchSettableS cal φ N 136 v0 H := by kernel_rfl
theorem lo120 : LoF Tryz.prog 120 Go.Shade.BbBelow := ⟨⟨Tryz.f120, Tryz.func120, by kernel_rfl⟩, by kernel_rfl⟩
theorem lo121 : LoF Tryz.prog 121 (lf Tryz.f121) := ⟨⟨_, Tryz.func121, by kernel_rfl⟩, by kernel_rfl⟩
theorem e121 (cal : FuncId -> Bool) (φ : Oracle) (N : Nat) (v0 : IV) (H : Heap) : lrunK cal φ N (lf Tryz.f121) [v0] H = Go.Shade.DdLenS cal φ N v0 H := by kernel_rfl
theorem lo122 : LoF Tryz.prog 122 (lf Tryz.f122) := ⟨⟨_, Tryz.func122, by kernel_rfl⟩, by kernel_rfl⟩
theorem e122 (cal : FuncId -> Bool) (φ : Oracle) (N : Nat) (v0 v1 : IV) (H : Heap) : lrunK cal φ N (lf Tryz.f122) [v0, v1] H = Go.Shade.DdDelS cal φ N 134 147 v0 v1 H := by kernel_rfl
theorem lo123 : LoF Tryz.prog 123 (lf Tryz.f123) := ⟨⟨_, Tryz.func123, by kernel_rfl⟩, by kernel_rfl⟩
theorem e123 (cal : FuncId -> Bool) (φ : Oracle) (N : Nat) (v0 : IV) (H : Heap) : lrunK cal φ N (lf Tryz.f123) [v0] H = Go.Shade.vr05SetS cal φ N 139 v0 H := by kernel_rfl
theorem lo124 : LoF Tryz.prog 124 Go.Shade.R5Below := ⟨⟨Tryz.f124, Tryz.func124, by kernel_rfl⟩, by kernel_rfl⟩
theorem lo125 : LoF Tryz.prog 125 Go.Shade.R4Get := ⟨⟨Tryz.f125, Tryz.func125, by kernel_rfl⟩, by kernel_rfl⟩
theorem lo133 : LoF Tryz.prog 133 (lf Tryz.f133) := ⟨⟨_, Tryz.func133, by kernel_rfl⟩, by kernel_rfl⟩
theorem e133 (cal : FuncId -> Bool) (φ : Oracle) (N : Nat) (v0 v1 : IV) (H : Heap) : lrunK cal φ N (lf Tryz.f133) [v0, v1] H = Go.Shade.cHpPushS cal φ N 159 v0 v1 H := by kernel_rfl
theorem lo134 : LoF Tryz.prog 134 (lf Tryz.f134) := ⟨⟨_, Tryz.func134, by kernel_rfl⟩, by kernel_rfl⟩
theorem e134 (cal : FuncId -> Bool) (φ : Oracle) (N : Nat) (v0 v1 : IV) (H : Heap) : lrunK cal φ N (lf Tryz.f134) [v0, v1] H = Go.Shade.DdFindS cal φ N 160 161 v0 v1 H := by kernel_rfl
theorem lo135 : LoF Tryz.prog 135 (lf Tryz.f135) := ⟨⟨_, Tryz.func135, by kernel_rfl⟩, by kernel_rfl⟩
theorem e135 (cal : FuncId -> Bool) (φ : Oracle) (N : Nat) (v0 : IV) (H : Heap) : lrunK cal φ N (lf Tryz.f135) [v0] H = Go.Shade.cHpPopS cal φ N 163 v0 H := by kernel_rfl
theorem lo136 : LoF Tryz.prog 136 (lf Tryz.f136) := ⟨⟨_, Tryz.func136, by kernel_rfl⟩, by kernel_rfl⟩
theorem e136 (cal : FuncId -> Bool) (φ : Oracle) (N : Nat) (v0 : IV) (H : Heap) : lrunK cal φ N (lf Tryz.f136) [v0] H = Go.Shade.pathNameS cal φ N 144 v0 H := by kernel_rfl
theorem lo138 : LoF Tryz.prog 138 (lf Tryz.f138) := ⟨⟨_, Tryz.func138, by kernel_rfl⟩, by kernel_rfl⟩
theorem e138 (cal : FuncId -> Bool) (φ : Oracle) (N : Nat) (v0 v1 : IV) (H : Heap) : lrunK cal φ N (lf Tryz.f138) [v0, v1] H = Go.Shade.BbGoneS cal φ N 166 90 v0 v1 H := by kernel_rfl
theorem lo139 : LoF Tryz.prog 139 (lf Tryz.f139) := ⟨⟨_, Tryz.func139, by kernel_rfl⟩, by kernel_rfl⟩
theorem e139 (cal : FuncId -> Bool) (φ : Oracle) (N : Nat) (v0 : IV) (H : Heap) : lrunK cal φ N (lf Tryz.f139) [v0] H = Go.Shade.vr01NameS cal φ N 167 v0 H := by kernel_rfl
theorem lo140 : LoF Tryz.prog 140 Go.Shade.R3sCut := ⟨⟨Tryz.f140, Tryz.func140, by kernel_rfl⟩, by kernel_rfl⟩
theorem lo141 : LoF Tryz.prog 141 (lf Tryz.f141) := ⟨⟨_, Tryz.func141, by kernel_rfl⟩, by kernel_rfl⟩
theorem e141 (cal : FuncId -> Bool) (φ : Oracle) (N : Nat) (v0 v1 : IV) (H : Heap) : lrunK cal φ N (lf Tryz.f141) [v0, v1] H = Go.Shade.R3bThereS cal φ N v0 v1 H := by kernel_rfl
theorem lo142 : LoF Tryz.prog 142 Go.Shade.R3bLay := ⟨⟨Tryz.f142, Tryz.func142, by kernel_rfl⟩, by kernel_rfl⟩
theorem lo144 : LoF Tryz.prog 144 (lf Tryz.f144) := ⟨⟨_, Tryz.func144, by kernel_rfl⟩, by kernel_rfl⟩
theorem e144 (cal : FuncId -> Bool) (φ : Oracle) (N : Nat) (v0 v1 : IV) (H : Heap) : lrunK cal φ N (lf Tryz.f144) [v0, v1] H = Go.Shade.stringsIndexByteS cal φ N 168 v0 v1 H := by kernel_rfl
theorem lo147 : LoF Tryz.prog 147 (lf Tryz.f147) := ⟨⟨_, Tryz.func147, by kernel_rfl⟩, by kernel_rfl⟩
theorem e147 (cal : FuncId -> Bool) (φ : Oracle) (N : Nat) (v0 v1 v2 : IV) (H : Heap) : lrunK cal φ N (lf Tryz.f147) [v0, v1, v2] H = Go.Shade.sDelS cal φ N v0 v1 v2 H := by kernel_rfl
theorem lo159 : LoF Tryz.prog 159 Go.Shade.cHpUp := ⟨⟨Tryz.f159, Tryz.func159, by kernel_rfl⟩, by kernel_rfl⟩
theorem lo160 : LoF Tryz.prog 160 Go.Shade.sBsf := ⟨⟨Tryz.f160, Tryz.func160, by kernel_rfl⟩, by kernel_rfl⟩
theorem lo161 : LoF Tryz.prog 161 (lf Tryz.f161) := ⟨⟨_, Tryz.func161, by kernel_rfl⟩, by kernel_rfl⟩
theorem e161 (cal : FuncId -> Bool) (φ : Oracle) (N : Nat) (v0 v1 : IV) (H : Heap) : lrunK cal φ N (lf Tryz.f161) [v0, v1] H = Go.Shade.DdFind1S cal φ N 162 v0 v1 H := by kernel_rfl
theorem lo162 : LoF Tryz.prog 162 (lf Tryz.f162) := ⟨⟨_, Tryz.func162, by kernel_rfl⟩, by kernel_rfl⟩
theorem e162 (cal : FuncId -> Bool) (φ : Oracle) (N : Nat) (v0 v1 : IV) (H : Heap) : lrunK cal φ N (lf Tryz.f162) [v0, v1] H = Go.Shade.stringsCompareS cal φ N 174 v0 v1 H := by kernel_rfl
theorem lo163 : LoF Tryz.prog 163 Go.Shade.cHpDown := ⟨⟨Tryz.f163, Tryz.func163, by kernel_rfl⟩, by kernel_rfl⟩
theorem lo165 : LoF Tryz.prog 165 (lf Tryz.f165) := ⟨⟨_, Tryz.func165, by kernel_rfl⟩, by kernel_rfl⟩
theorem e165 (cal : FuncId -> Bool) (φ : Oracle) (N : Nat) (v0 v1 : IV) (H : Heap) : lrunK cal φ N (lf Tryz.f165) [v0, v1] H = Go.Shade.sRorS cal φ N 175 v0 v1 H := by kernel_rfl
theorem lo166 : LoF Tryz.prog 166 (lf Tryz.f166) := ⟨⟨_, Tryz.func166, by kernel_rfl⟩, by kernel_rfl⟩
theorem e166 (cal : FuncId -> Bool) (φ : Oracle) (N : Nat) (v0 v1 : IV) (H : Heap) : lrunK cal φ N (lf Tryz.f166) [v0, v1] H = Go.Shade.BsFreeS cal φ N 176 v0 v1 H := by kernel_rfl
theorem lo167 : LoF Tryz.prog 167 Go.Shade.vr01Has := ⟨⟨Tryz.f167, Tryz.func167, by kernel_rfl⟩, by kernel_rfl⟩
theorem lo168 : LoF Tryz.prog 168 (lf Tryz.f168) := ⟨⟨_, Tryz.func168, by kernel_rfl⟩, by kernel_rfl⟩
theorem e168 (cal : FuncId -> Bool) (φ : Oracle) (N : Nat) (v0 v1 : IV) (H : Heap) : lrunK cal φ N (lf Tryz.f168) [v0, v1] H = Go.Shade.iSibS cal φ N v0 v1 H := by kernel_rfl
theorem lo174 : LoF Tryz.prog 174 (lf Tryz.f174) := ⟨⟨_, Tryz.func174, by kernel_rfl⟩, by kernel_rfl⟩
theorem e174 (cal : FuncId -> Bool) (φ : Oracle) (N : Nat) (v0 v1 : IV) (H : Heap) : lrunK cal φ N (lf Tryz.f174) [v0, v1] H = Go.Shade.iBcsS cal φ N v0 v1 H := by kernel_rfl
theorem lo175 : LoF Tryz.prog 175 (lf Tryz.f175) := ⟨⟨_, Tryz.func175, by kernel_rfl⟩, by kernel_rfl⟩
theorem e175 (cal : FuncId -> Bool) (φ : Oracle) (N : Nat) (v0 v1 : IV) (H : Heap) : lrunK cal φ N (lf Tryz.f175) [v0, v1] H = Go.Shade.sRolS cal φ N 180 v0 v1 H := by kernel_rfl
theorem lo180 : LoF Tryz.prog 180 Go.Shade.sRev := ⟨⟨Tryz.f180, Tryz.func180, by kernel_rfl⟩, by kernel_rfl⟩
theorem lo203 : LoF Tryz.prog 203 (lf Tryz.f203) := ⟨⟨_, Tryz.func203, by kernel_rfl⟩, by kernel_rfl⟩
theorem e203 (cal : FuncId -> Bool) (φ : Oracle) (N : Nat) (v0 v1 v2 : IV) (H : Heap) : lrunK cal φ N (lf Tryz.f203) [v0, v1, v2] H = Go.Shade.QisLessS cal φ N 205 v0 v1 v2 H := by kernel_rfl
theorem lo204 : LoF Tryz.prog 204 (lf Tryz.f204) := ⟨⟨_, Tryz.func204, by kernel_rfl⟩, by kernel_rfl⟩
theorem e204 (cal : FuncId -> Bool) (φ : Oracle) (N : Nat) (v0 v1 v2 : IV) (H : Heap) : lrunK cal φ N (lf Tryz.f204) [v0, v1, v2] H = Go.Shade.QisSwapS cal φ N v0 v1 v2 H := by kernel_rfl
theorem lo205 : LoF Tryz.prog 205 (lf Tryz.f205) := ⟨⟨_, Tryz.func205, by kernel_rfl⟩, by kernel_rfl⟩
theorem e205 (cal : FuncId -> Bool) (φ : Oracle) (N : Nat) (v0 v1 : IV) (H : Heap) : lrunK cal φ N (lf Tryz.f205) [v0, v1] H = Go.Shade.QiAheadS cal φ N v0 v1 H := by kernel_rfl
theorem lo206 : LoF Tryz.prog 206 (lf Tryz.f206) := ⟨⟨_, Tryz.func206, by kernel_rfl⟩, by kernel_rfl⟩
theorem e206 (cal : FuncId -> Bool) (φ : Oracle) (N : Nat) (v0 : IV) (H : Heap) : lrunK cal φ N (lf Tryz.f206) [v0] H = Go.Shade.QisPopS cal φ N v0 H := by kernel_rfl
theorem lo207 : LoF Tryz.prog 207 (lf Tryz.f207) := ⟨⟨_, Tryz.func207, by kernel_rfl⟩, by kernel_rfl⟩
theorem e207 (cal : FuncId -> Bool) (φ : Oracle) (N : Nat) (v0 v1 : IV) (H : Heap) : lrunK cal φ N (lf Tryz.f207) [v0, v1] H = Go.Shade.QisPushS cal φ N v0 v1 H := by kernel_rfl
theorem lo137 : LoF Tryz.prog 137 (insL 165) := ⟨⟨Tryz.f137, Tryz.func137, by kernel_rfl⟩, by kernel_rfl⟩
theorem lo176 : LoF Tryz.prog 176 BsCut := ⟨⟨Tryz.f176, Tryz.func176, by kernel_rfl⟩, by kernel_rfl⟩
end Go.Proofs.YtmkjmfegaalcoaaGreat
namespace Go.Proofs.YtmkjmfegaalcoaaGreat
open Go.Shade
def inT (f : Nat) : Bool := Nat.beq f 137 || (Nat.beq f 176 || Nat.beq f 23)
structure TbOk (T : Table) : Prop where
 non : ∀ f, inT f = false -> T f = none
 ins : T 137 = some insT
 cut : T 176 = some cutT
section
variable {T : Table}
theorem okILen (hT : TbOk T) : ILenOk (den Tryz.prog T) 117 := by unfold ILenOk; intros; exact denLo (hT.non 117 rfl) lo117 0 (nble (by kernel_rfl)) (by rw [e117]; exact ilen_s ‹_›)
theorem okAhead (hT : TbOk T) : AheadOk (den Tryz.prog T) 205 := by unfold AheadOk; intros; exact denWp (hT.non 205 rfl) lo205 0 (nble (by kernel_rfl)) (by rw [e205]; exact ahead_s _ _ _)
theorem okLess (hT : TbOk T) : LessOk (den Tryz.prog T) 203 := by unfold LessOk; intros; exact denWp (hT.non 203 rfl) lo203 0 (nble (by kernel_rfl)) (by rw [e203]; exact less_s (okAhead hT) ‹_› ‹_› ‹_›)
theorem okSwap (hT : TbOk T) : SwapOk (den Tryz.prog T) 204 := by unfold SwapOk; intros; exact denWp (hT.non 204 rfl) lo204 0 (nble (by kernel_rfl)) (by rw [e204]; exact swap_s ‹_› ‹_› ‹_›)
theorem okUp (hT : TbOk T) : UpOk (den Tryz.prog T) 196 159 := fun P H q l k j hQ hj hb => denWp (hT.non 159 rfl) lo159 l.length (nble rfl) (by rw [Go.Shade.cHpUpEq]; exact up_s (okLess hT) (okSwap hT) hQ hj hb)
theorem okDown (hT : TbOk T) : DownOk (den Tryz.prog T) 196 163 := fun P H q l k i n hQ h1 h2 hb => denWp (hT.non 163 rfl) lo163 (l.length + 1) (nble rfl) (by rw [Go.Shade.cHpDownEq]; exact down_s (okLess hT) (okSwap hT) hQ h1 h2 hb)
theorem okIPush (hT : TbOk T) : IPushOk (den Tryz.prog T) 198 207 := by unfold IPushOk; intros; exact denWp (hT.non 207 rfl) lo207 0 (nble (by kernel_rfl)) (by rw [e207]; exact ipush_s ‹_› ‹_›)
theorem okHPush (hT : TbOk T) : HPushOk (den Tryz.prog T) 196 198 133 := by unfold HPushOk; intros; exact denWp (hT.non 133 rfl) lo133 0 (nble (by kernel_rfl)) (by rw [e133]; exact hpush_s (okIPush hT) (okILen hT) (okUp hT) ‹_› ‹_›)
theorem okQPush (hT : TbOk T) : QPushOk (den Tryz.prog T) 90 := by unfold QPushOk; intros; exact denWp (hT.non 90 rfl) lo90 0 (nble (by kernel_rfl)) (by rw [e90]; exact qpush_s (okHPush hT) ‹_› ‹_›)
theorem okQNew (hT : TbOk T) : QNewOk (den Tryz.prog T) 89 := by unfold QNewOk; intros; exact denWp (hT.non 89 rfl) lo89 0 (nble (by kernel_rfl)) (by rw [e89]; exact qnew_s _)
theorem okIPop (hT : TbOk T) : IPopOk (den Tryz.prog T) 198 206 := by unfold IPopOk; intros; exact denWp (hT.non 206 rfl) lo206 0 (nble (by kernel_rfl)) (by rw [e206]; exact ipop_s ‹_› ‹_›)
theorem okHPop (hT : TbOk T) : HPopOk (den Tryz.prog T) 196 198 135 := by unfold HPopOk; intros; exact denWp (hT.non 135 rfl) lo135 0 (nble (by kernel_rfl)) (by rw [e135]; exact hpop_s (okIPop hT) (okILen hT) (okSwap hT) (okDown hT) ‹_› ‹_› ‹_›)
theorem okQLen (hT : TbOk T) : QLenOk (den Tryz.prog T) 62 := by unfold QLenOk; intros; exact denLo (hT.non 62 rfl) lo62 0 (nble (by kernel_rfl)) (by rw [e62]; exact qlen_s (okILen hT) ‹_›)
theorem okQPop (hT : TbOk T) : QPopOk (den Tryz.prog T) 96 := by unfold QPopOk; intros; exact denWp (hT.non 96 rfl) lo96 0 (nble (by kernel_rfl)) (by rw [e96]; exact qpop_s (okQLen hT) (okHPop hT) ‹_› ‹_›)
theorem okSNew (hT : TbOk T) : SNewOk (den Tryz.prog T) 88 := fun H room => by
 have h0 := snew_s H room (cal := callable Tryz.prog) (φ := (den Tryz.prog T)) (N := 0)
 by_cases h : 0 <= room /\ room <= 65536
 ·rw [if_pos h] at h0 ⊢; exact denLo (hT.non 88 rfl) lo88 0 (nble (by kernel_rfl)) (by rw [e88]; exact h0)
 ·rw [if_neg h] at h0 ⊢; exact denLo (hT.non 88 rfl) lo88 0 (nble (by kernel_rfl)) (by rw [e88]; exact h0)
theorem okDNew (hT : TbOk T) : DNewOk (den Tryz.prog T) 91 := by unfold DNewOk; intros; exact denLo (hT.non 91 rfl) lo91 0 (nble (by kernel_rfl)) (by rw [e91]; exact dnew_s _)
theorem okBNew (hT : TbOk T) : BNewOk (den Tryz.prog T) 42 := by unfold BNewOk; intros; exact denWp (hT.non 42 rfl) lo42 200 (nble rfl) (by rw [Go.Shade.branchNewEq]; exact bnew_s (by omega) (okSNew hT) (okQNew hT) (okQPush hT) (okDNew hT) _ _)
theorem okIb2 (hT : TbOk T) : IbOk (den Tryz.prog T) 168 := by unfold IbOk; intros; exact denLo (hT.non 168 rfl) lo168 0 (nble (by kernel_rfl)) (by rw [e168]; exact ib2_s _ _ _)
theorem okIb (hT : TbOk T) : IbOk (den Tryz.prog T) 144 := by unfold IbOk; intros; exact denLo (hT.non 144 rfl) lo144 0 (nble (by kernel_rfl)) (by rw [e144]; exact ib_s (okIb2 hT) _ _ _)
theorem okPName (hT : TbOk T) : PNameOk (den Tryz.prog T) 136 := by unfold PNameOk; intros; exact denLo (hT.non 136 rfl) lo136 0 (nble (by kernel_rfl)) (by rw [e136]; exact pname_s (okIb hT) _ _)
theorem okCmp2 (hT : TbOk T) : CmpOk (den Tryz.prog T) 174 := by unfold CmpOk; intros; exact denLo (hT.non 174 rfl) lo174 0 (nble (by kernel_rfl)) (by rw [e174]; exact cmp2_s _ _ _)
theorem okCmp (hT : TbOk T) : CmpOk (den Tryz.prog T) 162 := by unfold CmpOk; intros; exact denLo (hT.non 162 rfl) lo162 0 (nble (by kernel_rfl)) (by rw [e162]; exact cmp_s (okCmp2 hT) _ _ _)
theorem okFind1 (hT : TbOk T) : Find1Ok (den Tryz.prog T) 161 := by unfold Find1Ok; intros; exact denWp (hT.non 161 rfl) lo161 0 (nble (by kernel_rfl)) (by rw [e161]; exact find1_s (okCmp hT) _ _ _ _)
theorem okBs (hT : TbOk T) : BsOk (den Tryz.prog T) 160 161 := by unfold BsOk; intros; exact denWp (hT.non 160 rfl) lo160 1000002 (nble rfl) (by rw [Go.Shade.sBsfEq]; exact bs_s (okFind1 hT) lo161.2 ‹_› ‹_› ‹_› (by omega))
theorem okFind (hT : TbOk T) : FindOk (den Tryz.prog T) 134 := by unfold FindOk; intros; exact denWp (hT.non 134 rfl) lo134 0 (nble (by kernel_rfl)) (by rw [e134]; exact find_s (okBs hT) ‹_› ‹_›)
theorem okDGet (hT : TbOk T) : DGetOk (den Tryz.prog T) 93 := by unfold DGetOk; intros; exact denWp (hT.non 93 rfl) lo93 0 (nble (by kernel_rfl)) (by rw [e93]; exact dget_s (okFind hT) ‹_› ‹_›)
theorem okDLen (hT : TbOk T) : DLenOk (den Tryz.prog T) 121 := by unfold DLenOk; intros; exact denLo (hT.non 121 rfl) lo121 0 (nble (by kernel_rfl)) (by rw [e121]; exact dlen_s ‹_›)
theorem okIns (hT : TbOk T) : InsOk (den Tryz.prog T) 137 := fun args H => den_table hT.ins args H
theorem okDSet (hT : TbOk T) : DSetOk (den Tryz.prog T) 98 := by unfold DSetOk; intros; exact denWp (hT.non 98 rfl) lo98 0 (nble (by kernel_rfl)) (by rw [e98]; exact dset_s (okPName hT) (okFind hT) (okIns hT) ‹_› ‹_› ‹_› ‹_›)
theorem okSDel (hT : TbOk T) : SDelOk (den Tryz.prog T) 147 := by unfold SDelOk; intros; exact denWp (hT.non 147 rfl) lo147 0 (nble (by kernel_rfl)) (by rw [e147]; exact sdel_s ‹_› ‹_› ‹_›)
theorem okDDel (hT : TbOk T) : DDelOk (den Tryz.prog T) 122 := by unfold DDelOk; intros; exact denWp (hT.non 122 rfl) lo122 0 (nble (by kernel_rfl)) (by rw [e122]; exact ddel_s (okFind hT) (okSDel hT) ‹_› ‹_› ‹_›)
theorem okSBody (hT : TbOk T) : SBodyOk (den Tryz.prog T) 97 := by unfold SBodyOk; intros; exact denWp (hT.non 97 rfl) lo97 0 (nble (by kernel_rfl)) (by rw [e97]; exact sbody_s _ _)
theorem okSWrite (hT : TbOk T) : SWriteOk (den Tryz.prog T) 109 := by unfold SWriteOk; intros; exact denWp (hT.non 109 rfl) lo109 65538 (nble rfl) (by rw [Go.Shade.BsWriteEq]; exact swrite_s (by omega) ‹_› ‹_› ‹_› ‹_› ‹_› ‹_› ‹_›)
theorem okCut (hT : TbOk T) : CutTOk (den Tryz.prog T) 176 := fun args H => den_table hT.cut args H
theorem okSFree (hT : TbOk T) : SFreeOk (den Tryz.prog T) 166 := by unfold SFreeOk; intros; exact denWp (hT.non 166 rfl) lo166 0 (nble (by kernel_rfl)) (by rw [e166]; exact sfree_s (okCut hT) ‹_› ‹_› ‹_›)
theorem okAt (hT : TbOk T) : AtOk (den Tryz.prog T) 94 := by unfold AtOk; intros; exact denLo (hT.non 94 rfl) lo94 0 (nble (by kernel_rfl)) (by rw [e94]; exact at_s ‹_›)
theorem okKind (hT : TbOk T) : KindOk (den Tryz.prog T) 44 := by unfold KindOk; intros; exact denLo (hT.non 44 rfl) lo44 0 (nble (by kernel_rfl)) (by rw [e44]; exact kind_s (okAt hT) ‹_›)
theorem okMarks (hT : TbOk T) : MarksOk (den Tryz.prog T) 45 := by unfold MarksOk; intros; exact denLo (hT.non 45 rfl) lo45 0 (nble (by kernel_rfl)) (by rw [e45]; exact marks_s (okAt hT) ‹_›)
theorem okBDir (hT : TbOk T) : BDirOk (den Tryz.prog T) 92 := by unfold BDirOk; intros; exact denLo (hT.non 92 rfl) lo92 0 (nble (by kernel_rfl)) (by rw [e92]; exact bdir_s (okAt hT) ‹_›)
theorem okChg (hT : TbOk T) : ChgOk (den Tryz.prog T) 118 := by unfold ChgOk; intros; exact denLo (hT.non 118 rfl) lo118 0 (nble (by kernel_rfl)) (by rw [e118]; exact chg_s (okBDir hT) ‹_›)
theorem okSett (hT : TbOk T) : SettOk (den Tryz.prog T) 119 := by unfold SettOk; intros; exact denLo (hT.non 119 rfl) lo119 0 (nble (by kernel_rfl)) (by rw [e119]; exact sett_s (okPName hT) _ _)
theorem okBGet (hT : TbOk T) : BGetOk (den Tryz.prog T) 43 := by unfold BGetOk; intros; exact denWp (hT.non 43 rfl) lo43 0 (nble (by kernel_rfl)) (by rw [e43]; exact bget_s (okBDir hT) (okDGet hT) ‹_› ‹_› ‹_›)
theorem okVac (hT : TbOk T) : VacOk (den Tryz.prog T) 95 := by unfold VacOk; intros; exact denWp (hT.non 95 rfl) lo95 0 (nble (by kernel_rfl)) (by rw [e95]; exact vac_s (okChg hT) (okSett hT) (okDGet hT) ‹_› ‹_› ‹_›)
theorem okNamed (hT : TbOk T) : NamedOk (den Tryz.prog T) 99 := by unfold NamedOk; intros; exact denWp (hT.non 99 rfl) lo99 0 (nble (by kernel_rfl)) (by rw [e99]; exact named_s (okChg hT) (okDGet hT) ‹_› ‹_› ‹_›)
theorem okBMark (hT : TbOk T) : BMarkOk (den Tryz.prog T) 48 := by unfold BMarkOk; intros; exact denWp (hT.non 48 rfl) lo48 0 (nble (by kernel_rfl)) (by rw [e48]; exact bmark_s (okAt hT) ‹_›)
theorem okBMake (hT : TbOk T) : BMakeOk (den Tryz.prog T) 46 := by unfold BMakeOk; intros; exact denWp (hT.non 46 rfl) lo46 0 (nble (by kernel_rfl)) (by rw [e46]; exact bmake_s (okVac hT) (okQPop hT) (okSBody hT) (okDNew hT) (okDSet hT) ‹_› ‹_› ‹_› ‹_›)
theorem okBLink (hT : TbOk T) : BLinkOk (den Tryz.prog T) 64 := by unfold BLinkOk; intros; exact denWp (hT.non 64 rfl) lo64 0 (nble (by kernel_rfl)) (by rw [e64]; exact blink_s (okVac hT) (okAt hT) (okDSet hT) ‹_› ‹_› ‹_›)
theorem okGone (hT : TbOk T) : GoneOk (den Tryz.prog T) 138 := by unfold GoneOk; intros; exact denWp (hT.non 138 rfl) lo138 0 (nble (by kernel_rfl)) (by rw [e138]; exact gone_s (okSFree hT) (okQPush hT) ‹_› ‹_› ‹_›)
theorem okAway (hT : TbOk T) : AwayOk (den Tryz.prog T) 100 := fun own H b st m n d x l s h1 h2 h3 h4 h5 h6 h7 h8 h9 h10 h11 => denWp (hT.non 100 rfl) lo100 0 (nble (by kernel_rfl)) (by rw [e100]; exact away_s (okDDel hT) (okGone hT) h1 h2 h3 h4 h5 h6 h7 h8 h9 h10 h11)
theorem okBUnl (hT : TbOk T) : BUnlOk (den Tryz.prog T) 47 := by unfold BUnlOk; intros; exact denWp (hT.non 47 rfl) lo47 0 (nble (by kernel_rfl)) (by rw [e47]; exact bunl_s (okNamed hT) (okAway hT) ‹_› ‹_› ‹_› ‹_› ‹_›)
theorem okFile (hT : TbOk T) : FileOk (den Tryz.prog T) 108 := by unfold FileOk; intros; exact denLo (hT.non 108 rfl) lo108 0 (nble (by kernel_rfl)) (by rw [e108]; exact file_s (okAt hT) ‹_›)
theorem okBWrite (hT : TbOk T) : BWriteOk (den Tryz.prog T) 53 := by unfold BWriteOk; intros; exact denWp (hT.non 53 rfl) lo53 0 (nble (by kernel_rfl)) (by rw [e53]; exact bwrite_s (okFile hT) (okSWrite hT) ‹_› ‹_› ‹_› ‹_› ‹_› ‹_›)
theorem okBelow (hT : TbOk T) : BelowOk (den Tryz.prog T) 120 := fun own H b st rk i x top h1 h2 h3 h4 => denLo (hT.non 120 rfl) lo120 (rk i + 1) (nble rfl) (by rw [Go.Shade.BbBelowEq]; exact below_s h1 h2 h3 h4)
theorem okBRen (hT : TbOk T) : BRenOk (den Tryz.prog T) 66 := by unfold BRenOk; intros; exact denWp (hT.non 66 rfl) lo66 0 (nble (by kernel_rfl)) (by rw [e66]; exact bren_s (okNamed hT) (okChg hT) (okSett hT) (okBelow hT) (okDGet hT) (okDLen hT) (okAway hT) (okDDel hT) (okDSet hT) ‹_› ‹_› ‹_› ‹_› ‹_› ‹_›)
theorem okR3New (hT : TbOk T) : SNewOk (den Tryz.prog T) 101 := fun H room => by
 have h0 := r03new_s H room (cal := callable Tryz.prog) (φ := (den Tryz.prog T)) (N := 0)
 by_cases h : 0 <= room /\ room <= 65536
 ·rw [if_pos h] at h0 ⊢; exact denLo (hT.non 101 rfl) lo101 0 (nble (by kernel_rfl)) (by rw [e101]; exact h0)
 ·rw [if_neg h] at h0 ⊢; exact denLo (hT.non 101 rfl) lo101 0 (nble (by kernel_rfl)) (by rw [e101]; exact h0)
theorem okRNew (hT : TbOk T) : RNewOk (den Tryz.prog T) 49 := by unfold RNewOk; intros; exact denWp (hT.non 49 rfl) lo49 0 (nble (by kernel_rfl)) (by rw [e49]; exact rnew_s (okR3New hT) _)
theorem okRIs (hT : TbOk T) : RIsOk (den Tryz.prog T) 107 := by unfold RIsOk; intros; obtain ⟨t, e, h⟩ := ris_s (cal := callable Tryz.prog) (φ := (den Tryz.prog T)) (N := 1) ‹_›; exact ⟨t, denLo (hT.non 107 rfl) lo107 1 (nble (by kernel_rfl)) (by rw [e107]; exact e), h⟩
theorem okRKind (hT : TbOk T) : RKindOk (den Tryz.prog T) 69 := by unfold RKindOk; intros; obtain ⟨t, e, h⟩ := rkind_s (cal := callable Tryz.prog) (φ := (den Tryz.prog T)) (N := 1) (okRIs hT) ‹_›; exact ⟨t, denLo (hT.non 69 rfl) lo69 1 (nble (by kernel_rfl)) (by rw [e69]; exact e), h⟩
theorem okRDir (hT : TbOk T) : RDirOk (den Tryz.prog T) 104 := by unfold RDirOk; intros; obtain ⟨t, e, h⟩ := rdir_s (cal := callable Tryz.prog) (φ := (den Tryz.prog T)) (N := 1) (okRIs hT) ‹_›; exact ⟨t, denLo (hT.non 104 rfl) lo104 1 (nble (by kernel_rfl)) (by rw [e104]; exact e), h⟩
theorem okRHas (hT : TbOk T) : RHasOk (den Tryz.prog T) 167 := by unfold RHasOk; intros; obtain ⟨t, e⟩ := rhas_s (cal := callable Tryz.prog) (φ := (den Tryz.prog T)) (N := 62) (by omega) ‹_›; exact ⟨t, denLo (hT.non 167 rfl) lo167 62 (nble rfl) (by rw [Go.Shade.vr01HasEq]; exact e)⟩
theorem okRName (hT : TbOk T) : RErrOk (den Tryz.prog T) 139 := by unfold RErrOk; intros; obtain ⟨t, e, h⟩ := rname_s (cal := callable Tryz.prog) (φ := (den Tryz.prog T)) (N := 1) (okRHas hT) _ _; exact ⟨t, denLo (hT.non 139 rfl) lo139 1 (nble (by kernel_rfl)) (by rw [e139]; exact e), h⟩
theorem okRSet (hT : TbOk T) : RErrOk (den Tryz.prog T) 123 := by unfold RErrOk; intros; obtain ⟨t, e, h⟩ := rset_s (cal := callable Tryz.prog) (φ := (den Tryz.prog T)) (N := 1) (okRName hT) _ _; exact ⟨t, denLo (hT.non 123 rfl) lo123 1 (nble (by kernel_rfl)) (by rw [e123]; exact e), h⟩
theorem okRGet4 (hT : TbOk T) : RGet4Ok (den Tryz.prog T) 125 := by unfold RGet4Ok; intros; obtain ⟨t, u, e, h⟩ := rget4_s (cal := callable Tryz.prog) (φ := (den Tryz.prog T)) (N := 1000002) (by omega) ‹_› ‹_› ‹_›; exact ⟨t, u, denLo (hT.non 125 rfl) lo125 1000002 (nble rfl) (by rw [Go.Shade.R4GetEq]; exact e), h⟩
theorem okRLess (hT : TbOk T) : RLess1Ok (den Tryz.prog T) 81 := fun H a b ha hb => by obtain ⟨t, e⟩ := rless1_s (cal := callable Tryz.prog) (φ := (den Tryz.prog T)) (H := H) ha hb; exact ⟨t, denLo (hT.non 81 rfl) lo81 (a.length + 1) (nble rfl) (by rw [vr01LessEq]; exact e)⟩
theorem okRSet4 (hT : TbOk T) : RSet4Ok (den Tryz.prog T) 103 := by unfold RSet4Ok; intros; exact denWp (hT.non 103 rfl) lo103 1000002 (nble rfl) (by rw [Go.Shade.R4SetEq]; exact rset4_s (by omega) (okRName hT) (okRLess hT) ‹_› ‹_› ‹_› ‹_› ‹_›)
theorem okRDel4 (hT : TbOk T) : RDel4Ok (den Tryz.prog T) 105 := by unfold RDel4Ok; intros; exact denWp (hT.non 105 rfl) lo105 1000002 (nble rfl) (by rw [Go.Shade.R4DelEq]; exact rdel4_s (by omega) (okRGet4 hT) ‹_› ‹_› ‹_›)
theorem okRGet (hT : TbOk T) : RGetOk (den Tryz.prog T) 74 := by unfold RGetOk; intros; obtain ⟨t, u, e, h⟩ := rget_s (cal := callable Tryz.prog) (φ := (den Tryz.prog T)) (N := 1) (okRDir hT) (okRGet4 hT) ‹_› ‹_›; exact ⟨t, u, denLo (hT.non 74 rfl) lo74 1 (nble (by kernel_rfl)) (by rw [e74]; exact e), h⟩
theorem okRVac (hT : TbOk T) : RVacOk (den Tryz.prog T) 102 := by unfold RVacOk; intros; obtain ⟨t, e, h⟩ := rvac_s (cal := callable Tryz.prog) (φ := (den Tryz.prog T)) (N := 1) (okRDir hT) (okRSet hT) (okRGet4 hT) ‹_› ‹_›; exact ⟨t, denLo (hT.non 102 rfl) lo102 1 (nble (by kernel_rfl)) (by rw [e102]; exact e), h⟩
theorem okRMark (hT : TbOk T) : RMarkOk (den Tryz.prog T) 52 := by unfold RMarkOk; intros; exact denWp (hT.non 52 rfl) lo52 0 (nble (by kernel_rfl)) (by rw [e52]; exact rmark_s (okRIs hT) ‹_›)
theorem okRMake (hT : TbOk T) : RMakeOk (den Tryz.prog T) 50 := by unfold RMakeOk; intros; exact denWp (hT.non 50 rfl) lo50 203 (nble rfl) (by rw [Go.Shade.R5MakeEq]; exact rmake_s (by omega) (okRVac hT) (okRSet4 hT) ‹_› ‹_›)
theorem okRLink (hT : TbOk T) : RLinkOk (den Tryz.prog T) 65 := by unfold RLinkOk; intros; exact denWp (hT.non 65 rfl) lo65 0 (nble (by kernel_rfl)) (by rw [e65]; exact rlink_s (okRVac hT) (okRIs hT) (okRSet4 hT) ‹_› ‹_›)
theorem okRCut (hT : TbOk T) : RCutOk (den Tryz.prog T) 140 := by unfold RCutOk; intros; exact denWp (hT.non 140 rfl) lo140 4098 (nble rfl) (by rw [Go.Shade.R3sCutEq]; exact rcut_s (by omega) ‹_› ‹_›)
theorem okRGone (hT : TbOk T) : RGoneOk (den Tryz.prog T) 106 := by unfold RGoneOk; intros; exact denWp (hT.non 106 rfl) lo106 0 (nble (by kernel_rfl)) (by rw [e106]; exact rgone_s (okRCut hT) ‹_› ‹_›)
theorem okRUnl (hT : TbOk T) : RUnlOk (den Tryz.prog T) 51 := by unfold RUnlOk; intros; exact denWp (hT.non 51 rfl) lo51 0 (nble (by kernel_rfl)) (by rw [e51]; exact runl_s (okRDir hT) (okRGet hT) (okRDel4 hT) (okRGone hT) ‹_› ‹_›)
theorem okRBel (hT : TbOk T) : RBelOk (den Tryz.prog T) 124 := by unfold RBelOk; intros; obtain ⟨t, e⟩ := rbel_s (cal := callable Tryz.prog) (φ := (den Tryz.prog T)) (N := 302) (by omega) ‹_› ‹_›; exact ⟨t, denLo (hT.non 124 rfl) lo124 302 (nble rfl) (by rw [Go.Shade.R5BelowEq]; exact e)⟩
theorem okRRen (hT : TbOk T) : RRenOk (den Tryz.prog T) 67 := by unfold RRenOk; intros; exact denWp (hT.non 67 rfl) lo67 0 (nble (by kernel_rfl)) (by rw [e67]; exact rren_s (okRDir hT) (okRGet hT) (okRSet hT) (okRBel hT) (okRDel4 hT) (okRGone hT) (okRSet4 hT) ‹_› ‹_›)
theorem okRFile (hT : TbOk T) : RFileOk (den Tryz.prog T) 110 := by unfold RFileOk; intros; obtain ⟨t, e, h⟩ := rfile_s (cal := callable Tryz.prog) (φ := (den Tryz.prog T)) (N := 1) (okRKind hT) ‹_›; exact ⟨t, denLo (hT.non 110 rfl) lo110 1 (nble (by kernel_rfl)) (by rw [e110]; exact e), h⟩
theorem okRThere (hT : TbOk T) : RThereOk (den Tryz.prog T) 141 := by unfold RThereOk; intros; obtain ⟨t, e⟩ := there_s (cal := callable Tryz.prog) (φ := (den Tryz.prog T)) (N := 1) ‹_› ‹_›; exact ⟨t, denLo (hT.non 141 rfl) lo141 1 (nble (by kernel_rfl)) (by rw [e141]; exact e)⟩
theorem okRLay (hT : TbOk T) : RLayOk (den Tryz.prog T) 142 := by unfold RLayOk; intros; exact denWp (hT.non 142 rfl) lo142 4098 (nble rfl) (by rw [Go.Shade.R3bLayEq]; exact lay_s (by omega) ‹_› ‹_› ‹_›)
theorem okRSWrite (hT : TbOk T) : RSWriteOk (den Tryz.prog T) 111 := by unfold RSWriteOk; intros; exact denWp (hT.non 111 rfl) lo111 65539 (nble rfl) (by rw [Go.Shade.R3sWriteEq]; exact rswrite_s (by omega) (okRThere hT) (okRLay hT) ‹_› ‹_› ‹_› ‹_› ‹_› ‹_›)
theorem okRWrite (hT : TbOk T) : RWriteOk (den Tryz.prog T) 54 := by unfold RWriteOk; intros; exact denWp (hT.non 54 rfl) lo54 0 (nble (by kernel_rfl)) (by rw [e54]; exact rwrite_s (okRFile hT) (okRSWrite hT) ‹_› ‹_› ‹_› ‹_› ‹_›)
theorem okBld (hT : TbOk T) : BldOk (den Tryz.prog T) 42 49 46 50 64 65 47 51 48 52 53 54 66 67 := ⟨okBNew hT, okRNew hT, okBMake hT, okRMake hT, okBLink hT, okRLink hT, okBUnl hT, okRUnl hT, okBMark hT, okRMark hT, okBWrite hT, okRWrite hT, okBRen hT, okRRen hT⟩
theorem okBuild (hT : TbOk T) : BuildOk (den Tryz.prog T) 24 := by unfold BuildOk; intros; exact denWp (hT.non 24 rfl) lo24 83 (nble rfl) (by rw [Go.Shade.veneerlaw10BuildEq]; exact build_s (by omega) (okBld hT) ‹_›)
theorem okMNew (hT : TbOk T) : MNewOk (den Tryz.prog T) 25 := by unfold MNewOk; intros; exact denLo (hT.non 25 rfl) lo25 0 (nble (by kernel_rfl)) (by rw [e25]; exact mnew_s _ _ _ _ _)
theorem okVOpq (hT : TbOk T) : VOpqOk (den Tryz.prog T) 68 := by unfold VOpqOk; intros; exact denLo (hT.non 68 rfl) lo68 0 (nble (by kernel_rfl)) (by rw [e68]; exact vopq_s (okMarks hT) ‹_›)
theorem okVSide (hT : TbOk T) : VSideOk (den Tryz.prog T) 75 := by unfold VSideOk; intros; exact denWp (hT.non 75 rfl) lo75 0 (nble (by kernel_rfl)) (by rw [e75]; exact vside_s ‹_›)
theorem okVKind (hT : TbOk T) : VKindOk (den Tryz.prog T) 30 := by unfold VKindOk; intros; exact denWp (hT.non 30 rfl) lo30 0 (nble (by kernel_rfl)) (by rw [e30]; exact vkind_s (okVSide hT) (okKind hT) ‹_›)
theorem okVDir (hT : TbOk T) : VDirOk (den Tryz.prog T) 71 := by unfold VDirOk; intros; exact denWp (hT.non 71 rfl) lo71 0 (nble (by kernel_rfl)) (by rw [e71]; exact vdir_s (okVKind hT) ‹_›)
theorem okVBel (hT : TbOk T) : VBelOk (den Tryz.prog T) 72 := by unfold VBelOk; intros; exact denWp (hT.non 72 rfl) lo72 0 (nble (by kernel_rfl)) (by rw [e72]; exact vbel_s (okVOpq hT) (okBGet hT) ‹_›)
theorem okVGet (hT : TbOk T) : VGetOk (den Tryz.prog T) 28 := by unfold VGetOk; intros; exact denWp (hT.non 28 rfl) lo28 0 (nble (by kernel_rfl)) (by rw [e28]; exact vget_s (okVDir hT) (okVBel hT) (okBGet hT) (okKind hT) (okVOpq hT) ‹_›)
theorem okVRoot (hT : TbOk T) : VRootOk (den Tryz.prog T) 26 := by unfold VRootOk; intros; exact denWp (hT.non 26 rfl) lo26 0 (nble (by kernel_rfl)) (by rw [e26]; exact vroot_s (okKind hT) (okVOpq hT) ‹_›)
end
end Go.Proofs.YtmkjmfegaalcoaaGreat
namespace Go.Shade
def newRows (B : Nat) (room : Int) : Heap := [.row [.int .i64 room, .int .i64 0] false, .row [.slice (B + 2) 0 199 199 false 3, .int .i64 199] false, .row (itcs (upQ 199)) false, .row (brC (.ptr B 0) (rootC (B + 5)) (.ptr (B + 1) 0)) false, .row [.nilSlice] false, .row (nodC (B + 4)) false]
def bnT (args : List IV) (H : Heap) : Option (IV × Heap) := match args with
 | [.int .i64 room] => if 0 <= room /\ room <= 65536 then some (.ptr (H.length + 3) 0, H ++ newRows H.length room) else none
 | _ => none
theorem rens_itcs (f : Nat -> Nat) : ∀ l : List It, rens f (itcs l) = itcs l
 | [] => rfl
 | x :: l => by simp only [itcs, rens, ren, rens_itcs f l]
theorem inBs_itcs (n : Nat) : ∀ l : List It, inBs n (itcs l) = true
 | [] => rfl
 | x :: l => by simp only [itcs, inBs, inB, inBs_itcs n l, Bool.and_self]
theorem rens_append (f : Nat -> Nat) : ∀ a b : List IV, rens f (a ++ b) = rens f a ++ rens f b
 | [], b => rfl
 | x :: a, b => by simp only [List.cons_append, rens, rens_append f a b]
theorem inBs_append (n : Nat) : ∀ a b : List IV, inBs n (a ++ b) = (inBs n a && inBs n b)
 | [], b => by simp [inBs]
 | x :: a, b => by simp only [List.cons_append, inBs, inBs_append n a b, Bool.and_assoc]
theorem rens_nils (f : Nat -> Nat) : ∀ k, rens f (List.replicate k .nilPtr) = List.replicate k .nilPtr
 | 0 => rfl
 | k + 1 => by simp only [List.replicate_succ, rens, ren, rens_nils f k]
theorem inBs_nils (n : Nat) : ∀ k, inBs n (List.replicate k .nilPtr) = true
 | 0 => rfl
 | k + 1 => by simp only [List.replicate_succ, inBs, inB, inBs_nils n k, Bool.and_self]
def bnG (h s q r b d x i : Nat) : Nat := if i < h then i else if i = h then s else if i = h + 1 then q else if i = h + 2 then r else if i = h + 3 then b else if i = h + 4 then d else x
theorem bnG_cases (h s q r b d x i : Nat) (hi : i < h + 6) : (i < h /\ bnG h s q r b d x i = i) ∨ (i = h /\ bnG h s q r b d x i = s) ∨ (i = h + 1 /\ bnG h s q r b d x i = q) ∨ (i = h + 2 /\ bnG h s q r b d x i = r) ∨ (i = h + 3 /\ bnG h s q r b d x i = b) ∨ (i = h + 4 /\ bnG h s q r b d x i = d) ∨ (i = h + 5 /\ bnG h s q r b d x i = x) := by
 unfold bnG
 by_cases e0 : i < h
 ·rw [if_pos e0]; exact .inl ⟨e0, rfl⟩
 ·rw [if_neg e0]
  by_cases e1 : i = h
  ·rw [if_pos e1]; exact .inr (.inl ⟨e1, rfl⟩)
  ·rw [if_neg e1]
   by_cases e2 : i = h + 1
   ·rw [if_pos e2]; exact .inr (.inr (.inl ⟨e2, rfl⟩))
   ·rw [if_neg e2]
    by_cases e3 : i = h + 2
    ·rw [if_pos e3]; exact .inr (.inr (.inr (.inl ⟨e3, rfl⟩)))
    ·rw [if_neg e3]
     by_cases e4 : i = h + 3
     ·rw [if_pos e4]; exact .inr (.inr (.inr (.inr (.inl ⟨e4, rfl⟩))))
     ·rw [if_neg e4]
      by_cases e5 : i = h + 4
      ·rw [if_pos e5]; exact .inr (.inr (.inr (.inr (.inr (.inl ⟨e5, rfl⟩)))))
      ·rw [if_neg e5]; exact .inr (.inr (.inr (.inr (.inr (.inr ⟨by omega, rfl⟩)))))
theorem bnG_inj {h s q r b d x : Nat} (o : h <= s /\ s < b /\ h <= q /\ s < q /\ q < b /\ b < d /\ d < x /\ b < r /\ r < d) {i j : Nat} (hi : i < h + 6) (hj : j < h + 6) (hne : i ≠ j) : bnG h s q r b d x i ≠ bnG h s q r b d x j := by
 have a := bnG_cases h s q r b d x i hi
 have c := bnG_cases h s q r b d x j hj
 generalize bnG h s q r b d x i = u at *
 generalize bnG h s q r b d x j = v at *
 omega
theorem sound_bnT {P : Program} {φ : Oracle} (hφ : Sound P φ) {f : FuncId} (hb : BNewOk φ f) (args : List IV) (H : Heap) (r : IV) (H' : Heap) (e : bnT args H = some (r, H')) : SimCall P f args H r H' := by
 unfold bnT at e
 split at e
 ·rename_i room
  split at e
  ·rename_i h0
   cases e
   obtain ⟨⟨r, H1⟩, h1, h2, h3⟩ := hb H room
   rw [if_pos h0] at h3
   simp only at h3 h2
   obtain ⟨b, rfl, ⟨s, q, d, x, Q, a1, a2, a3, a4, a5, a6, b1, b2, b3, b4, b5, b6, b7, b8⟩⟩ := h3
   have hs := hφ _ _ _ _ _ h1
   obtain ⟨sv, k, t1, t2⟩ := a6
   obtain ⟨_, c2, sv', c3, c4⟩ := a5
   rw [c3] at t1; cases t1
   rcases c4 with ⟨rfl, e⟩ | ⟨r, rest, ex, rfl, c5, c6⟩
   ·have := congrArg List.length e; rw [upQ_length] at this; cases this
   ·rcases t2 with e | ⟨r', n', e⟩
    ·cases e
    ·injection e with _ _ e1 e2 e3 _
     rw [upQ_length] at e1 e2
     have hr : rest = [] := List.length_eq_zero_iff.1 (by omega)
     subst hr e3
     rw [List.append_nil] at c6
     rw [upQ_length] at c3
     have hrq : b < r /\ r < d := by rcases b8 r c5.1 with h | h; exact absurd h c5.2; exact h
     have gc := fun i hi => bnG_cases H.length s q r b d x i hi
     have gj := fun i j hi hj hne => bnG_inj (h := H.length) (s := s) (q := q) (r := r) (b := b) (d := d) (x := x) ⟨b1, b2, b3, b4, b5, b6, b7, hrq⟩ (i := i) (j := j) hi hj hne
     have g0 : ∀ i, i < H.length -> bnG H.length s q r b d x i = i := fun i hi => if_pos hi
     generalize bnG H.length s q r b d x = g at *
     have g1 : g H.length = s := by have := gc H.length (by omega); omega
     have g2 : g (H.length + 1) = q := by have := gc (H.length + 1) (by omega); omega
     have g3 : g (H.length + 2) = r := by have := gc (H.length + 2) (by omega); omega
     have g4 : g (H.length + 3) = b := by have := gc (H.length + 3) (by omega); omega
     have g5 : g (H.length + 4) = d := by have := gc (H.length + 4) (by omega); omega
     have g6 : g (H.length + 5) = x := by have := gc (H.length + 5) (by omega); omega
     have hlen : (H ++ newRows H.length room).length = H.length + 6 := by rw [List.length_append]; rfl
     refine hs.clean g g0 (by omega) (fun i o hi => ?_) (fun i j hi hj hne => ?_) (by rw [show ren g (.ptr (H.length + 3) 0) = .ptr (g (H.length + 3)) 0 from rfl, g4]) (by rw [hlen]; simp [inB])
     ·rw [hlen]
      by_cases hlt : i < H.length
      ·rw [List.getElem?_append_left hlt] at hi
       exact .inl ⟨hlt, hi, h2.get (fun h => h) hi⟩
      ·rw [List.getElem?_append_right (by omega)] at hi
       right
       obtain ⟨j, rfl⟩ : ∃ j, i = H.length + j := ⟨i - H.length, by omega⟩
       rw [Nat.add_sub_cancel_left] at hi
       have hj : j < 6 := (ges hi).1
       match j, hj with
       | 0, _ => cases hi; exact ⟨rfl, by rw [Nat.add_zero, g1]; exact a2⟩
       | 1, _ => cases hi; exact ⟨by simp [inBO, inBs, inB], by rw [g2, c3]; simp only [renO, rens, ren, g3]; congr⟩
       | 2, _ => cases hi; exact ⟨inBs_itcs _ _, by rw [g3, c6]; simp only [renO, rens_itcs]⟩
       | 3, _ => cases hi; exact ⟨by simp only [inBO, brC, rootC, inBs, inBs_append, inB, inBs_nils]; simp, by rw [g4, a1]; simp only [renO, brC, rootC, rens, rens_append, ren, rens_nils, g1, g2, g6]⟩
       | 4, _ => cases hi; exact ⟨rfl, by rw [g5]; exact a4⟩
       | 5, _ => cases hi; exact ⟨by simp [inBO, nodC, inBs, inB], by rw [g6, a3]; simp only [renO, nodC, rens, ren, g5]⟩
     ·rw [hlen] at hi hj
      exact gj i j hi hj hne
  ·cases e
 ·cases e
end Go.Shade
namespace Go.Shade
def unit3 : List IV -> Option (List It)
 | [] => some []
 | .int .i64 a :: .int .i64 b :: .int .i64 c :: l => match unit3 l with
  | some k => some (⟨a, b, c⟩ :: k)
  | none => none
 | _ => none
def lastL : List It -> Option It
 | [] => none
 | [x] => some x
 | _ :: l => lastL l
def popT (args : List IV) (H : Heap) : Option (IV × Heap) := match args with
 | [.ptr q 0] => match H[q]? with
  | some (.row [.slice r 0 n lb ex 3, .int .i64 k] false) => match H[r]? with
   | some (.row cs false) => match unit3 cs with
    | some items => if Nat.beq lb items.length && (Nat.blt 0 n && (Nat.ble n lb && (!Nat.beq r q && Nat.ble n 1000000))) then
      match lastL (popL (items.take n)) with
      | some x => some (.tuple [.int .i64 x.key, .int .i64 x.n, .bool true], (H.set r (.row (itcs (popL (items.take n) ++ items.drop n)) false)).set q (.row [.slice r 0 (n - 1) lb ex 3, .int .i64 k] false))
      | none => none
     else none
    | none => none
   | _ => none
  | _ => none
 | _ => none
theorem unit3_eq : ∀ {cs : List IV} {l : List It}, unit3 cs = some l -> cs = itcs l
 | [], l, h => by cases h; rfl
 | .int .i64 a :: .int .i64 b :: .int .i64 c :: cs, l, h => by
  simp only [unit3] at h
  split at h
  ·rename_i k hk
   cases h
   rw [unit3_eq hk]; rfl
  ·cases h
theorem lastL_eq : ∀ {l : List It} {x : It}, lastL l = some x -> l = l.dropLast ++ [x]
 | [], x, h => by cases h
 | [y], x, h => by cases h; rfl
 | y :: z :: l, x, h => by
  have := lastL_eq (l := z :: l) h
  rw [List.dropLast_cons_cons, List.cons_append, ← this]
theorem sound_popT {P : Program} {φ : Oracle} (hφ : Sound P φ) {f : FuncId} (hp : QPopOk φ f) (args : List IV) (H : Heap) (r : IV) (H' : Heap) (e : popT args H = some (r, H')) : SimCall P f args H r H' := by
 unfold popT at e
 split at e
 ·rename_i q
  split at e
  ·rename_i r0 n lb ex k hq
   split at e
   ·rename_i cs hr
    split at e
    ·rename_i items hi
     split at e
     ·rename_i hc
      simp only [Bool.and_eq_true, Bool.not_eq_true'] at hc
      obtain ⟨c1, c2, c3, c4, c5⟩ := hc
      have c1 := Nat.eq_of_beq_eq_true c1
      have c2 : 1 <= n := by simpa [Nat.blt] using c2
      have c3 := nble c3
      have c5 := nble c5
      have c4 : r0 ≠ q := fun h => by rw [h, Nat.beq_refl] at c4; cases c4
      split at e
      ·rename_i x hx
       cases e
       have hcs := unit3_eq hi
       subst hcs c1
       have hl : (items.take n).length = n := by rw [List.length_take]; omega
       have hX : QX H q r0 ex (items.drop n) (items.take n) k := ⟨by rw [hl, List.length_drop, show n + (items.length - n) = items.length by omega]; exact hq, by rw [List.take_append_drop]; exact hr, c4⟩
       have hQ : QOk (fun i => i = q ∨ i = r0) H q (items.take n) k := by
        refine ⟨.inl rfl, fun i hi => ?_, _, hX.hd, .inr ⟨r0, items.drop n, ex, rfl, ⟨.inr rfl, c4⟩, hX.row⟩⟩
        rcases hi with rfl | rfl
        ·exact (ges hq).1
        ·exact (ges hr).1
       obtain ⟨⟨v, H1⟩, h1, h2, h3⟩ := hp _ H q _ k hQ (by omega)
       rcases h3 with ⟨h3, _⟩ | ⟨y, h3, h4, h5, h6⟩
       ·rw [h3] at hl; simp at hl; omega
       ·simp only at h2 h4 h5 h6
        have hxy : x = y := by
         have a := lastL_eq hx
         rw [h3] at a
         have := congrArg List.getLast? a
         rw [h3] at this
         simpa using this.symm
        subst hxy h4
        have h6 := h6 _ _ _ hX
        have hlq := (ges hq).1
        have hlr := (ges hr).1
        have hdl : (popL (items.take n)).dropLast.length = n - 1 := by rw [List.length_dropLast, popL_length, hl]
        have hrow : popL (items.take n) ++ items.drop n = (popL (items.take n)).dropLast ++ x :: items.drop n := by
         conv => lhs; rw [h3]
         simp
        refine (hφ _ _ _ _ _ h1).clean (fun i => i) (fun i _ => rfl) (by simp) (fun i o hi => ?_) (fun i j _ _ h => h) (ren_idf _ rfl).symm (by simp [inB, inBs])
        by_cases e1 : i = q
        ·subst e1
         have hlq' : i < (H.set r0 (.row (itcs (popL (items.take n) ++ items.drop n)) false)).length := by simpa using hlq
         rw [List.getElem?_set_self hlq'] at hi
         cases hi
         refine .inr ⟨by simp [inBO, inBs, inB]; exact hlr, ?_⟩
         rw [h6.hd, hdl]
         have : n - 1 + (x :: items.drop n).length = items.length := by simp; omega
         rw [this]
         simp only [renO, rens, ren]
        ·rw [List.getElem?_set_ne (fun h => e1 h.symm)] at hi
         by_cases e2 : i = r0
         ·subst e2
          rw [List.getElem?_set_self hlr] at hi
          cases hi
          refine .inr ⟨inBs_itcs _ _, ?_⟩
          rw [h6.row, hrow]
          simp only [renO, rens_itcs]
         ·rw [List.getElem?_set_ne (fun h => e2 h.symm)] at hi
          have := (ges hi).1
          exact .inl ⟨this, hi, h2.get (fun h => h.elim e1 e2) hi⟩
      ·cases e
     ·cases e
    ·cases e
   ·cases e
  ·cases e
 ·cases e
end Go.Shade
namespace Go.Shade
abbrev i6 (n : Int) : IV := .int .i64 n
def aw10A : List IV := [.slice 0 0 9 9 true 7]
def aw10H : Heap := [.row ([.bool false, i6 0, i6 1, i6 0, i6 2, .str [97], .str [], .bool false, i6 0, i6 2, i6 0, i6 1, .str [120], .str [], .bool false, i6 0, i6 1, i6 0, i6 4, .str [98], .str [], .bool true, i6 0, i6 1, i6 0, i6 2, .str [97], .str [], .bool true, i6 0, i6 2, i6 0, i6 1, .str [121], .str [], .bool true, i6 0, i6 1, i6 0, i6 1, .str [98], .str [], .bool true, i6 0, i6 1, i6 0, i6 1, .str [99], .str [], .bool true, i6 4, i6 5, i6 0, i6 0, .str [], .str [104, 105], .bool true, i6 0, i6 1, i6 0, i6 3, .str [108], .str [116]]) false]
def aw10R : IV := .tuple [.ptr 1 0, .bool true]
def aw10K : Heap := [
 .row ([.bool false, i6 0, i6 1, i6 0, i6 2, .str [97], .str [], .bool false, i6 0, i6 2, i6 0, i6 1, .str [120], .str [], .bool false, i6 0, i6 1, i6 0, i6 4, .str [98], .str [], .bool true, i6 0, i6 1, i6 0, i6 2, .str [97], .str [], .bool true, i6 0, i6 2, i6 0, i6 1, .str [121], .str [], .bool true, i6 0, i6 1, i6 0, i6 1, .str [98], .str [], .bool true, i6 0, i6 1, i6 0, i6 1, .str [99], .str [], .bool true, i6 4, i6 5, i6 0, i6 0, .str [], .str [104, 105], .bool true, i6 0, i6 1, i6 0, i6 3, .str [108], .str [116]]) false,
 .row ([.ptr 2 0, .ptr 3 0, .ptr 4 0, .ptr 5 0]) false,
 .row ([.ptr 6 0, .nilPtr, .ptr 7 0, .ptr 8 0, .ptr 9 0, .ptr 10 0] ++ zrep 196 [.nilPtr] ++ [.ptr 11 0]) false,
 .row ([.ptr 12 0, .nilPtr, .ptr 13 0, .ptr 14 0, .ptr 15 0, .ptr 16 0, .ptr 17 0, .ptr 18 0] ++ zrep 194 [.nilPtr] ++ [.ptr 19 0]) false,
 .row ([.ptr 20 0, i6 0, i6 0, i6 0, i6 0, i6 0, .nilSlice, .nilSlice, .nilSlice, .str [], i6 2, i6 1, i6 0, i6 0, i6 1, .nilSlice, .nilSlice, .slice 21 0 2 2 false 2, .str [], i6 2, i6 1, i6 0, i6 0, i6 1, .nilSlice, .nilSlice, .slice 22 0 1 1 false 2, .str [], i6 1, i6 1, i6 0, i6 0, i6 0, .nilSlice, .nilSlice, .nilSlice, .str [], i6 4, i6 1] ++ zrep 196 [i6 0, i6 0, i6 0, .nilSlice, .nilSlice, .nilSlice, .str [], i6 0, i6 0] ++ [i6 0, i6 0, i6 0, .nilSlice, .nilSlice, .nilSlice, .str []]) false,
 .row ([.ptr 23 0, i6 0, i6 0, i6 0, i6 0, i6 0, .nilSlice, .nilSlice, .nilSlice, .str [], i6 2, i6 1, i6 0, i6 0, i6 1, .nilSlice, .nilSlice, .slice 24 0 4 4 false 2, .str [], i6 2, i6 1, i6 0, i6 0, i6 1, .nilSlice, .nilSlice, .slice 25 0 1 1 false 2, .str [], i6 1, i6 1, i6 0, i6 0, i6 0, .nilSlice, .nilSlice, .nilSlice, .str [], i6 1, i6 1, i6 0, i6 0, i6 0, .nilSlice, .nilSlice, .nilSlice, .str [], i6 1, i6 1, i6 0, i6 0, i6 0, .slice 26 0 2 2 false 1, .slice 27 0 1 1 false 1, .nilSlice, .str [], i6 3, i6 1, i6 0, i6 0, i6 0, .nilSlice, .nilSlice, .nilSlice, .str [116]] ++ zrep 194 [i6 0, i6 0, i6 0, i6 0, i6 0, .nilSlice, .nilSlice, .nilSlice, .str []]) false,
 .row ([i6 500, i6 0]) false,
 .row ([i6 2, i6 1, i6 0, i6 0, i6 1, .nilPtr, .ptr 28 0, .str []]) false,
 .row ([i6 2, i6 1, i6 0, i6 0, i6 1, .nilPtr, .ptr 29 0, .str []]) false,
 .row ([i6 1, i6 1, i6 0, i6 0, i6 0, .ptr 30 0, .nilPtr, .str []]) false,
 .row ([i6 4, i6 1, i6 0, i6 0, i6 0, .nilPtr, .nilPtr, .str []]) false,
 .row ([.slice 31 0 196 199 false 3, i6 199]) false,
 .row ([i6 500, i6 1]) false,
 .row ([i6 2, i6 1, i6 0, i6 0, i6 1, .nilPtr, .ptr 32 0, .str []]) false,
 .row ([i6 2, i6 1, i6 0, i6 0, i6 1, .nilPtr, .ptr 33 0, .str []]) false,
 .row ([i6 1, i6 1, i6 0, i6 0, i6 0, .ptr 34 0, .nilPtr, .str []]) false,
 .row ([i6 1, i6 1, i6 0, i6 0, i6 0, .ptr 35 0, .nilPtr, .str []]) false,
 .row ([i6 1, i6 1, i6 0, i6 0, i6 0, .ptr 36 0, .nilPtr, .str []]) false,
 .row ([i6 3, i6 1, i6 0, i6 0, i6 0, .nilPtr, .nilPtr, .str [116]]) false,
 .row ([.slice 37 0 194 199 false 3, i6 199]) false,
 .row ([i6 500, i6 0]) false,
 .row ([.str [97], i6 2, .str [98], i6 4]) false,
 .row ([.str [120], i6 3]) false,
 .row ([i6 500, i6 1]) false,
 .row ([.str [97], i6 2, .str [98], i6 4, .str [99], i6 5, .str [108], i6 6]) false,
 .row ([.str [121], i6 3]) false,
 .row ([.int .u8 104, .int .u8 105]) false,
 .row ([.bool true]) false,
 .row ([.slice 38 0 2 2 false 2]) false,
 .row ([.slice 39 0 1 1 false 2]) false,
 .row ([i6 0, .map 40]) false,
 .row ([i6 5, i6 5, i6 3, i6 6, i6 6, i6 4, i6 7, i6 7, i6 5, i6 9, i6 9, i6 7, i6 11, i6 11, i6 9, i6 13, i6 13, i6 11, i6 8, i6 8, i6 6, i6 17, i6 17, i6 15, i6 10, i6 10, i6 8, i6 21, i6 21, i6 19, i6 12, i6 12, i6 10, i6 25, i6 25, i6 23, i6 14, i6 14, i6 12, i6 15, i6 15, i6 13, i6 16, i6 16, i6 14, i6 33, i6 33, i6 31, i6 18, i6 18, i6 16, i6 19, i6 19, i6 17, i6 20, i6 20, i6 18, i6 41, i6 41, i6 39, i6 22, i6 22, i6 20, i6 23, i6 23, i6 21, i6 24, i6 24, i6 22, i6 49, i6 49, i6 47, i6 26, i6 26, i6 24, i6 27, i6 27, i6 25, i6 28, i6 28, i6 26, i6 29, i6 29, i6 27, i6 30, i6 30, i6 28, i6 31, i6 31, i6 29, i6 32, i6 32, i6 30, i6 65, i6 65, i6 63, i6 34, i6 34, i6 32, i6 35, i6 35, i6 33, i6 36, i6 36, i6 34, i6 37, i6 37, i6 35, i6 38, i6 38, i6 36, i6 39, i6 39, i6 37, i6 40, i6 40, i6 38, i6 81, i6 81, i6 79, i6 42, i6 42, i6 40, i6 43, i6 43, i6 41, i6 44, i6 44, i6 42, i6 45, i6 45, i6 43, i6 46, i6 46, i6 44, i6 47, i6 47, i6 45, i6 48, i6 48, i6 46, i6 97, i6 97, i6 95, i6 50, i6 50, i6 48, i6 51, i6 51, i6 49, i6 52, i6 52, i6 50, i6 53, i6 53, i6 51, i6 54, i6 54, i6 52, i6 55, i6 55, i6 53, i6 56, i6 56, i6 54, i6 57, i6 57, i6 55, i6 58, i6 58, i6 56, i6 59, i6 59, i6 57, i6 60, i6 60, i6 58, i6 61, i6 61, i6 59, i6 62, i6 62, i6 60, i6 63, i6 63, i6 61, i6 64, i6 64, i6 62, i6 129, i6 129, i6 127, i6 66, i6 66, i6 64, i6 67, i6 67, i6 65, i6 68, i6 68, i6 66, i6 69, i6 69, i6 67, i6 70, i6 70, i6 68, i6 71, i6 71, i6 69, i6 72, i6 72, i6 70, i6 73, i6 73, i6 71, i6 74, i6 74, i6 72, i6 75, i6 75, i6 73, i6 76, i6 76, i6 74, i6 77, i6 77, i6 75, i6 78, i6 78, i6 76, i6 79, i6 79, i6 77, i6 80, i6 80, i6 78, i6 161, i6 161, i6 159, i6 82, i6 82, i6 80, i6 83, i6 83, i6 81, i6 84, i6 84, i6 82, i6 85, i6 85, i6 83, i6 86, i6 86, i6 84, i6 87, i6 87, i6 85, i6 88, i6 88, i6 86, i6 89, i6 89, i6 87, i6 90, i6 90, i6 88, i6 91, i6 91, i6 89, i6 92, i6 92, i6 90, i6 93, i6 93, i6 91, i6 94, i6 94, i6 92, i6 95, i6 95, i6 93, i6 96, i6 96, i6 94, i6 193, i6 193, i6 191, i6 98, i6 98, i6 96, i6 99, i6 99, i6 97, i6 100, i6 100, i6 98, i6 101, i6 101, i6 99, i6 102, i6 102, i6 100, i6 103, i6 103, i6 101, i6 104, i6 104, i6 102, i6 105, i6 105, i6 103, i6 106, i6 106, i6 104, i6 107, i6 107, i6 105, i6 108, i6 108, i6 106, i6 109, i6 109, i6 107, i6 110, i6 110, i6 108, i6 111, i6 111, i6 109, i6 112, i6 112, i6 110, i6 113, i6 113, i6 111, i6 114, i6 114, i6 112, i6 115, i6 115, i6 113, i6 116, i6 116, i6 114, i6 117, i6 117, i6 115, i6 118, i6 118, i6 116, i6 119, i6 119, i6 117, i6 120, i6 120, i6 118, i6 121, i6 121, i6 119, i6 122, i6 122, i6 120, i6 123, i6 123, i6 121, i6 124, i6 124, i6 122, i6 125, i6 125, i6 123, i6 126, i6 126, i6 124, i6 127, i6 127, i6 125, i6 128, i6 128, i6 126, i6 200, i6 200, i6 198, i6 130, i6 130, i6 128, i6 131, i6 131, i6 129, i6 132, i6 132, i6 130, i6 133, i6 133, i6 131, i6 134, i6 134, i6 132, i6 135, i6 135, i6 133, i6 136, i6 136, i6 134, i6 137, i6 137, i6 135, i6 138, i6 138, i6 136, i6 139, i6 139, i6 137, i6 140, i6 140, i6 138, i6 141, i6 141, i6 139, i6 142, i6 142, i6 140, i6 143, i6 143, i6 141, i6 144, i6 144, i6 142, i6 145, i6 145, i6 143, i6 146, i6 146, i6 144, i6 147, i6 147, i6 145, i6 148, i6 148, i6 146, i6 149, i6 149, i6 147, i6 150, i6 150, i6 148, i6 151, i6 151, i6 149, i6 152, i6 152, i6 150, i6 153, i6 153, i6 151, i6 154, i6 154, i6 152, i6 155, i6 155, i6 153, i6 156, i6 156, i6 154, i6 157, i6 157, i6 155, i6 158, i6 158, i6 156, i6 159, i6 159, i6 157, i6 160, i6 160, i6 158, i6 198, i6 198, i6 196, i6 162, i6 162, i6 160, i6 163, i6 163, i6 161, i6 164, i6 164, i6 162, i6 165, i6 165, i6 163, i6 166, i6 166, i6 164, i6 167, i6 167, i6 165, i6 168, i6 168, i6 166, i6 169, i6 169, i6 167, i6 170, i6 170, i6 168, i6 171, i6 171, i6 169, i6 172, i6 172, i6 170, i6 173, i6 173, i6 171, i6 174, i6 174, i6 172, i6 175, i6 175, i6 173, i6 176, i6 176, i6 174, i6 177, i6 177, i6 175, i6 178, i6 178, i6 176, i6 179, i6 179, i6 177, i6 180, i6 180, i6 178, i6 181, i6 181, i6 179, i6 182, i6 182, i6 180, i6 183, i6 183, i6 181, i6 184, i6 184, i6 182, i6 185, i6 185, i6 183, i6 186, i6 186, i6 184, i6 187, i6 187, i6 185, i6 188, i6 188, i6 186, i6 189, i6 189, i6 187, i6 190, i6 190, i6 188, i6 191, i6 191, i6 189, i6 192, i6 192, i6 190, i6 199, i6 199, i6 197, i6 194, i6 194, i6 192, i6 195, i6 195, i6 193, i6 196, i6 196, i6 194, i6 197, i6 197, i6 195, i6 4, i6 4, i6 2, i6 3, i6 3, i6 1, i6 2, i6 2, i6 0]) false,
 .row ([.slice 41 0 4 4 false 2]) false,
 .row ([.slice 42 0 1 1 false 2]) false,
 .row ([i6 0, .map 43]) false,
 .row ([i6 0, .map 44]) false,
 .row ([i6 2, .map 45]) false,
 .row ([i6 7, i6 7, i6 5, i6 9, i6 9, i6 7, i6 8, i6 8, i6 6, i6 10, i6 10, i6 8, i6 11, i6 11, i6 9, i6 13, i6 13, i6 11, i6 15, i6 15, i6 13, i6 17, i6 17, i6 15, i6 19, i6 19, i6 17, i6 21, i6 21, i6 19, i6 12, i6 12, i6 10, i6 25, i6 25, i6 23, i6 14, i6 14, i6 12, i6 29, i6 29, i6 27, i6 16, i6 16, i6 14, i6 33, i6 33, i6 31, i6 18, i6 18, i6 16, i6 37, i6 37, i6 35, i6 20, i6 20, i6 18, i6 41, i6 41, i6 39, i6 22, i6 22, i6 20, i6 23, i6 23, i6 21, i6 24, i6 24, i6 22, i6 49, i6 49, i6 47, i6 26, i6 26, i6 24, i6 27, i6 27, i6 25, i6 28, i6 28, i6 26, i6 57, i6 57, i6 55, i6 30, i6 30, i6 28, i6 31, i6 31, i6 29, i6 32, i6 32, i6 30, i6 65, i6 65, i6 63, i6 34, i6 34, i6 32, i6 35, i6 35, i6 33, i6 36, i6 36, i6 34, i6 73, i6 73, i6 71, i6 38, i6 38, i6 36, i6 39, i6 39, i6 37, i6 40, i6 40, i6 38, i6 81, i6 81, i6 79, i6 42, i6 42, i6 40, i6 43, i6 43, i6 41, i6 44, i6 44, i6 42, i6 45, i6 45, i6 43, i6 46, i6 46, i6 44, i6 47, i6 47, i6 45, i6 48, i6 48, i6 46, i6 97, i6 97, i6 95, i6 50, i6 50, i6 48, i6 51, i6 51, i6 49, i6 52, i6 52, i6 50, i6 53, i6 53, i6 51, i6 54, i6 54, i6 52, i6 55, i6 55, i6 53, i6 56, i6 56, i6 54, i6 113, i6 113, i6 111, i6 58, i6 58, i6 56, i6 59, i6 59, i6 57, i6 60, i6 60, i6 58, i6 61, i6 61, i6 59, i6 62, i6 62, i6 60, i6 63, i6 63, i6 61, i6 64, i6 64, i6 62, i6 129, i6 129, i6 127, i6 66, i6 66, i6 64, i6 67, i6 67, i6 65, i6 68, i6 68, i6 66, i6 69, i6 69, i6 67, i6 70, i6 70, i6 68, i6 71, i6 71, i6 69, i6 72, i6 72, i6 70, i6 145, i6 145, i6 143, i6 74, i6 74, i6 72, i6 75, i6 75, i6 73, i6 76, i6 76, i6 74, i6 77, i6 77, i6 75, i6 78, i6 78, i6 76, i6 79, i6 79, i6 77, i6 80, i6 80, i6 78, i6 161, i6 161, i6 159, i6 82, i6 82, i6 80, i6 83, i6 83, i6 81, i6 84, i6 84, i6 82, i6 85, i6 85, i6 83, i6 86, i6 86, i6 84, i6 87, i6 87, i6 85, i6 88, i6 88, i6 86, i6 89, i6 89, i6 87, i6 90, i6 90, i6 88, i6 91, i6 91, i6 89, i6 92, i6 92, i6 90, i6 93, i6 93, i6 91, i6 94, i6 94, i6 92, i6 95, i6 95, i6 93, i6 96, i6 96, i6 94, i6 193, i6 193, i6 191, i6 98, i6 98, i6 96, i6 99, i6 99, i6 97, i6 100, i6 100, i6 98, i6 101, i6 101, i6 99, i6 102, i6 102, i6 100, i6 103, i6 103, i6 101, i6 104, i6 104, i6 102, i6 105, i6 105, i6 103, i6 106, i6 106, i6 104, i6 107, i6 107, i6 105, i6 108, i6 108, i6 106, i6 109, i6 109, i6 107, i6 110, i6 110, i6 108, i6 111, i6 111, i6 109, i6 112, i6 112, i6 110, i6 196, i6 196, i6 194, i6 114, i6 114, i6 112, i6 115, i6 115, i6 113, i6 116, i6 116, i6 114, i6 117, i6 117, i6 115, i6 118, i6 118, i6 116, i6 119, i6 119, i6 117, i6 120, i6 120, i6 118, i6 121, i6 121, i6 119, i6 122, i6 122, i6 120, i6 123, i6 123, i6 121, i6 124, i6 124, i6 122, i6 125, i6 125, i6 123, i6 126, i6 126, i6 124, i6 127, i6 127, i6 125, i6 128, i6 128, i6 126, i6 200, i6 200, i6 198, i6 130, i6 130, i6 128, i6 131, i6 131, i6 129, i6 132, i6 132, i6 130, i6 133, i6 133, i6 131, i6 134, i6 134, i6 132, i6 135, i6 135, i6 133, i6 136, i6 136, i6 134, i6 137, i6 137, i6 135, i6 138, i6 138, i6 136, i6 139, i6 139, i6 137, i6 140, i6 140, i6 138, i6 141, i6 141, i6 139, i6 142, i6 142, i6 140, i6 143, i6 143, i6 141, i6 144, i6 144, i6 142, i6 197, i6 197, i6 195, i6 146, i6 146, i6 144, i6 147, i6 147, i6 145, i6 148, i6 148, i6 146, i6 149, i6 149, i6 147, i6 150, i6 150, i6 148, i6 151, i6 151, i6 149, i6 152, i6 152, i6 150, i6 153, i6 153, i6 151, i6 154, i6 154, i6 152, i6 155, i6 155, i6 153, i6 156, i6 156, i6 154, i6 157, i6 157, i6 155, i6 158, i6 158, i6 156, i6 159, i6 159, i6 157, i6 160, i6 160, i6 158, i6 198, i6 198, i6 196, i6 162, i6 162, i6 160, i6 163, i6 163, i6 161, i6 164, i6 164, i6 162, i6 165, i6 165, i6 163, i6 166, i6 166, i6 164, i6 167, i6 167, i6 165, i6 168, i6 168, i6 166, i6 169, i6 169, i6 167, i6 170, i6 170, i6 168, i6 171, i6 171, i6 169, i6 172, i6 172, i6 170, i6 173, i6 173, i6 171, i6 174, i6 174, i6 172, i6 175, i6 175, i6 173, i6 176, i6 176, i6 174, i6 177, i6 177, i6 175, i6 178, i6 178, i6 176, i6 179, i6 179, i6 177, i6 180, i6 180, i6 178, i6 181, i6 181, i6 179, i6 182, i6 182, i6 180, i6 183, i6 183, i6 181, i6 184, i6 184, i6 182, i6 185, i6 185, i6 183, i6 186, i6 186, i6 184, i6 187, i6 187, i6 185, i6 188, i6 188, i6 186, i6 189, i6 189, i6 187, i6 190, i6 190, i6 188, i6 191, i6 191, i6 189, i6 192, i6 192, i6 190, i6 199, i6 199, i6 197, i6 194, i6 194, i6 192, i6 195, i6 195, i6 193, i6 6, i6 6, i6 4, i6 5, i6 5, i6 3, i6 4, i6 4, i6 2, i6 3, i6 3, i6 1, i6 2, i6 2, i6 0]) false,
 .row ([.str [97], i6 2, .str [98], i6 4]) false,
 .row ([.str [120], i6 3]) false,
 .map [] 0,
 .row ([.str [97], i6 2, .str [98], i6 4, .str [99], i6 5, .str [108], i6 6]) false,
 .row ([.str [121], i6 3]) false,
 .map [] 0,
 .map [] 0,
 .map [(i6 0, .agg [.int .u8 104, .int .u8 105, .int .u8 0, .int .u8 0, .int .u8 0, .int .u8 0, .int .u8 0, .int .u8 0, .int .u8 0, .int .u8 0, .int .u8 0, .int .u8 0, .int .u8 0, .int .u8 0, .int .u8 0, .int .u8 0], 0)] 1]
def aw10F : List Nat := [0, 17, 4, 10, 14, 16, 1, 6, 19, 28, 39, 2, 7, 12, 50, 59, 70, 84, 111, 8, 13, 48, 36, 15, 125, 67, 107, 103, 5, 20, 30, 3, 11, 51, 61, 72, 86, 9, 42, 32, 29, 115, 63, 60, 71, 85]
end Go.Shade
namespace Go.Proofs.YtmkjmfegaalcoaaGreat
open Go.Shade
abbrev t3 : Table := ext (ext (ext T0 137 insT) 42 bnT) 96 popT
abbrev t4 : Table := ext t3 24 (atT aw10A aw10H aw10R aw10K)
theorem stA : stage (kcallT Tryz.prog t3 5000 100 24 aw10A aw10H) aw10H aw10K aw10F aw10R = true := by kernel_rfl
end Go.Proofs.YtmkjmfegaalcoaaGreat
namespace Go.Proofs.YtmkjmfegaalcoaaGreat
open Go.Shade
theorem stB : isT (kcallT Tryz.prog t4 5000 100 23 [] []) = true := by kernel_rfl
end Go.Proofs.YtmkjmfegaalcoaaGreat
namespace Go.Proofs.YtmkjmfegaalcoaaGreat
open Go.Shade
theorem s0 : Sound Tryz.prog (den Tryz.prog T0) := sound_den (soundT0 _) hm
theorem rev0 : RevOk (den Tryz.prog T0) 180 := by
 unfold RevOk; intros; exact denLo rfl lo180 1000001 (nble rfl) (by rw [Go.Shade.sRevEq]; exact rev_s (by omega) ‹_› ‹_› ‹_› ‹_› ‹_›)
theorem rotl0 : RotOk (den Tryz.prog T0) 175 := by
 unfold RotOk; intros; exact denLo rfl lo175 0 (nble (by kernel_rfl)) (by rw [e175]; exact rotl_s rev0 ‹_› ‹_› ‹_› ‹_› ‹_› ‹_› ‹_›)
theorem rotr0 : ∀ (H : Heap) (b o n lb r : Nat) (ex : Bool) (l : List Pr), H[b]? = some (.row (fl l) false) -> one2 l -> 1 <= r -> r < n -> n <= lb -> o + n <= l.length -> n <= 1000000 -> den Tryz.prog T0 165 [.slice b (2 * o) n lb ex 2, .int .i64 (r : Nat)] H = some (.tuple [], H.set b (.row (fl (rot l o n (n - r))) false)) :=
 fun H b o n lb r ex l h1 h2 h3 h4 h5 h6 h7 => denLo rfl lo165 0 (nble (by kernel_rfl)) (by rw [e165]; exact rotr_s rotl0 h1 h2 h3 h4 h5 h6 h7)
theorem sIns : SoundT Tryz.prog (ext T0 137 insT) := soundExt (soundT0 _) (sound_insT s0 hm lo137 rotr0)
abbrev t1 : Table := ext (ext T0 137 insT) 176 cutT
theorem ss1 : SoundT Tryz.prog t1 := soundExt sIns (sound_cutT s0 hm lo176)
theorem inT_ne {f g : Nat} (h : inT f = false) (hg : inT g = true) : f ≠ g := fun e => by rw [e, hg] at h; cases h
theorem tb1 : TbOk t1 := ⟨fun f h => by
 show (if f = 176 then some cutT else if f = 137 then some insT else none) = none
 rw [if_neg (inT_ne h rfl), if_neg (inT_ne h rfl)], rfl, rfl⟩
theorem s1 : Sound Tryz.prog (den Tryz.prog t1) := sound_den ss1 hm
theorem ss3 : SoundT Tryz.prog t3 := soundExt (soundExt sIns (sound_bnT s1 (okBNew tb1))) (sound_popT s1 (okQPop tb1))
theorem ss4 : SoundT Tryz.prog t4 := soundExt ss3 (sound_atT (sim_stage ss3 hm stA))
def awF (args : List IV) (H : Heap) : Option (IV × Heap) := match args with
 | [] => some (.bool true, H)
 | _ => none
abbrev tt : Table := ext t1 23 awF
theorem ss : SoundT Tryz.prog tt := by
 refine soundExt ss1 fun args H r H' e => ?_
 unfold awF at e
 split at e
 ·cases e; exact sim_awakeT ss4 hm stB H
 ·cases e
theorem tb : TbOk tt := ⟨fun f h => by
 show (if f = 23 then some awF else if f = 176 then some cutT else if f = 137 then some insT else none) = none
 rw [if_neg (inT_ne h rfl), if_neg (inT_ne h rfl), if_neg (inT_ne h rfl)], rfl, rfl⟩
noncomputable abbrev dd : Oracle := den Tryz.prog tt
theorem okAw (H : Heap) : dd 23 [] H = some (.bool true, H) := den_table (g := awF) rfl [] H
end Go.Proofs.YtmkjmfegaalcoaaGreat
namespace Go.Shade
end Go.Shade
namespace Go.Shade
variable {H : Heap}
theorem kind_zero (st : Brs) : kindOf st 0 = 0 := by
 unfold kindOf nodI; rw [if_neg (by decide)]
theorem get_bad {st : Brs} {i : Int} {s : Nam} (h : (getOf st i s).2 ≠ 0) : (getOf st i s).1 = 0 := by
 unfold getOf at *
 split
 ·rfl
 ·rename_i x hx
  rw [hx] at h
  simp only at h
  split
  ·rename_i v hv; rw [hv] at h; exact absurd rfl h
  ·rfl
theorem get_ok {c : Nat} {st : Brs} (hI : BInv c st) {i : Int} {s : Nam} (h : (getOf st i s).2 = 0) : 2 <= (getOf st i s).1 /\ kindOf st (getOf st i s).1 ≠ 0 := by
 unfold getOf at *
 split at h
 ·rename_i e he; rcases dirOf_inr he with rfl | rfl <;> cases h
 ·rename_i x hx
  try rw [hx]
  try simp only
  split at h
  ·rename_i v hv
   try rw [hv]
   try simp only
   obtain ⟨hn, _⟩ := dirOf_inl hx
   obtain ⟨m, rfl, hm⟩ := nodI_at hn
   unfold entOf at hv
   split at hv
   ·rename_i l hl
    obtain ⟨n, rfl, n2, n200, y, hy, _⟩ := hI.ent m x l s v hm hl hv
    refine ⟨by omega, ?_⟩
    have hny : nodI st ((n : Nat) : Int) = some y := by unfold nodI; rw [if_pos (by omega)]; simpa using hy
    unfold kindOf
    rw [hny]
    have := (hI.ki.kind n y hy).1
    simp only; omega
   ·cases hv
  ·cases h
theorem low_shape (st2 : Brs) (b : Int) : (lowV st2 b = ((0, 0), 2) /\ (kindOf st2 b = 0 ∨ kindOf st2 b = 4)) ∨ (lowV st2 b = ((0, b), 0) /\ kindOf st2 b ≠ 0 /\ kindOf st2 b ≠ 4) := by
 unfold lowV
 by_cases h0 : kindOf st2 b = 0
 ·rw [if_pos h0]; exact .inl ⟨rfl, .inl h0⟩
 ·rw [if_neg h0]
  by_cases h4 : kindOf st2 b = 4
  ·rw [if_pos h4]; exact .inl ⟨rfl, .inr h4⟩
  ·rw [if_neg h4]; exact .inr ⟨rfl, h0, h4⟩
theorem leqN {x y a b : Int} : leq (.struct [(0, .int), (1, .int)]) (nodV x y) (nodV a b) = some (decide (x = a /\ y = b)) := by
 show some ((x == a) && ((y == b) && true)) = _
 congr 1
 by_cases h1 : x = a <;> by_cases h2 : y = b <;> simp [h1, h2]
theorem bldU (x : Int) : lbld [(.int .i64 0), (.int .i64 0)] [(0, 1, .int .i64 x)] = some (nodV x 0) := rfl
theorem bldL (x : Int) : lbld [(.int .i64 0), (.int .i64 0)] [(1, 1, .int .i64 x)] = some (nodV 0 x) := rfl
def AwOk (φ : Oracle) (f : FuncId) : Prop := ∀ H, φ f [] H = some (.bool true, H)
structure BrsP (H : Heap) (b1 b2 : Nat) (st1 st2 : Brs) : Prop where
 up : ∃ o, BrOk o H b1 st1
 low : ∃ o, BrOk o H b2 st2
 i1 : BInv 160 st1
 i2 : BInv 160 st2
theorem BrsP.kp {H H' : Heap} {b1 b2 : Nat} {st1 st2 : Brs} (h : BrsP H b1 b2 st1 st2) (k : Frame NoF H H') : BrsP H' b1 b2 st1 st2 :=
 ⟨(by obtain ⟨o, a⟩ := h.up; exact ⟨o, a.kp k⟩), (by obtain ⟨o, a⟩ := h.low; exact ⟨o, a.kp k⟩), h.i1, h.i2⟩
theorem BrsP.view {b1 b2 v : Nat} {st1 st2 : Brs} {u l : Int} (h : BrsP H b1 b2 st1 st2) (hv : H[v]? = some (.row [.ptr b1 0, .ptr b2 0, .int .i64 u, .int .i64 l] false)) : VwOk H v b1 b2 u l st1 st2 :=
 ⟨hv, h.up, h.low, h.i1.ki, h.i2.ki, (h.i1.mono (by omega)).len, (h.i2.mono (by omega)).len⟩
theorem W2.brs {B : Nat} {Z : Nat -> Prop} {b1 r1 b2 r2 : Nat} (h : W2 160 B Z H b1 r1 b2 r2) : ∃ st1 st2, BrsP H b1 b2 st1 st2 := by
 obtain ⟨o1, o2, o3, o4, ⟨st1, a1, a2⟩, _, ⟨st2, a3, a4⟩, _⟩ := h
 exact ⟨st1, st2, ⟨o1, a1⟩, ⟨o3, a3⟩, a2, a4⟩
def mactT : List CT := [.bool, .int .i64, .int .i64, .int .i64, .int .i64, .str, .str]
theorem fit_mact {e : List IV} (h : Fits H mactT e) : ∃ a : MAct, e = a.cells := by
 simp only [mactT, Fits] at h
 obtain ⟨_, _, rfl, h1, _, _, rfl, h2, _, _, rfl, h3, _, _, rfl, h4, _, _, rfl, h5, _, _, rfl, h6, _, _, rfl, h7, rfl⟩ := h
 simp only [Fit] at h1 h2 h3 h4 h5 h6 h7
 obtain ⟨a1, rfl⟩ := h1
 obtain ⟨a2, rfl, _⟩ := h2
 obtain ⟨a3, rfl, _⟩ := h3
 obtain ⟨a4, rfl, _⟩ := h4
 obtain ⟨a5, rfl, _⟩ := h5
 obtain ⟨a6, rfl, _⟩ := h6
 obtain ⟨a7, rfl, _⟩ := h7
 exact ⟨⟨a1, a2, a3, a4, a5, a6, a7⟩, rfl⟩
theorem fit_mrows {H : Heap} : ∀ {elems : List (List IV)}, (∀ e ∈ elems, Fits H mactT e) -> ∃ l : List MAct, l.length = elems.length /\ elems.flatten.length = l.length * 7 /\ ∀ i a, l[i]? = some a -> (elems.flatten.drop (i * 7)).take 7 = a.cells
 | [], _ => ⟨[], rfl, rfl, fun i a h => by simp at h⟩
 | e :: es, h => by
  obtain ⟨a, rfl⟩ := fit_mact (h e (by simp))
  obtain ⟨l, h1, h2, h3⟩ := fit_mrows (elems := es) (fun e' he' => h e' (List.mem_cons_of_mem _ he'))
  have hl : a.cells.length = 7 := rfl
  refine ⟨a :: l, by simp [h1], by rw [List.flatten_cons, List.length_append, h2, hl, List.length_cons]; omega, fun i b hb => ?_⟩
  cases i with
  | zero =>
   simp at hb; subst hb
   rw [List.flatten_cons, Nat.zero_mul, List.drop_zero, List.take_left' hl]
  | succ i =>
   rw [List.flatten_cons, show (i + 1) * 7 = 7 + i * 7 by omega, ← List.drop_drop, List.drop_left' hl]; exact h3 i b (by simpa using hb)
theorem fit_macts {v : IV} (h : Fit H (.sl mactT) v) : ∃ l, MActs H.length H v l := by
 simp only [Fit] at h
 rcases h with rfl | ⟨b, n, elems, rfl, h2, h3, h4, h5⟩
 ·exact ⟨[], At.nil, [], Sl.nil _ _, fun i a h => by simp at h⟩
 ·obtain ⟨l, k1, k2, k3⟩ := fit_mrows h5
  have e : (l.take n).length = n := by simp; omega
  have hs : Sl 7 H (.slice b 0 n elems.length true 0) (l.take n).length (elems.flatten.take (n * 7)) := by
   refine ⟨by rw [List.length_take, k2, e]; omega, .inr ⟨b, 0, elems.length, true, 0, by rw [e], by omega, .inl rfl, fun hn => ⟨_, true, h2, by rw [k2, e]; omega, by rw [e, List.drop_zero]⟩⟩⟩
  refine ⟨l.take n, hs.lt, _, hs, fun i a ha => ?_⟩
  rw [List.getElem?_take] at ha
  split at ha
  ·rw [List.drop_take, List.take_take, Nat.min_eq_left (by omega)]; exact k3 i a ha
  ·cases ha
end Go.Shade
namespace Go.Shade
theorem fit_str {H : Heap} {v : IV} (h : Fit H .str v) : ∃ s, v = .str s := by
 simp only [Fit] at h
 obtain ⟨s, rfl, _⟩ := h
 exact ⟨s, rfl⟩
end Go.Shade
namespace Go.Shade
def veneerlaw10MergeHidesS (cal : CB) (φ : Oracle) (N : Nat) (f0 f1 f2 f3 f4 f5 f6 f7 : FuncId) (v0 v1 : IV) (H : Heap) : OH :=
 ob (φ f0 [] H) fun r1 =>
 ob (iun .not r1.1) fun t2 =>
 cnd t2
 (some ((.bool false), r1.2))
 (ob (φ f1 [v0] r1.2) fun r3 =>
 ob (iextract r3.1 0) fun t4 =>
 ob (iextract r3.1 1) fun t5 =>
 ob (iun .not t5) fun t6 =>
 cnd t6
 (some ((.bool true), r3.2))
 (ob (lchk t4) fun t7 =>
 ob (loff t7 0) fun t8 =>
 ob (lload1 r3.2 t8) fun t9 =>
 ob (lchk t4) fun t10 =>
 ob (loff t10 1) fun t11 =>
 ob (lload1 r3.2 t11) fun t12 =>
 ob (φ f2 [t9, t12, (.int .i64 1), (.int .i64 1)] r3.2) fun r13 =>
 ob (lchk t4) fun t14 =>
 ob (loff t14 0) fun t15 =>
 ob (lload1 r13.2 t15) fun t16 =>
 ob (φ f3 [t16, (.int .i64 1), v1] r13.2) fun r17 =>
 ob (iextract r17.1 0) fun t18 =>
 ob (iextract r17.1 1) fun t19 =>
 ob (lchk t4) fun t20 =>
 ob (loff t20 1) fun t21 =>
 ob (lload1 r17.2 t21) fun t22 =>
 ob (φ f3 [t22, (.int .i64 1), v1] r17.2) fun r23 =>
 ob (iextract r23.1 0) fun t24 =>
 ob (iextract r23.1 1) fun t25 =>
 ob (φ f4 [r13.1] r23.2) fun r26 =>
 ob (φ f5 [r13.1, r26.1, v1] r26.2) fun r27 =>
 ob (iextract r27.1 0) fun t28 =>
 ob (iextract r27.1 1) fun t29 =>
 ob (lzbox r27.2 (.agg [(.int .i64 0), (.int .i64 0)])) fun r30 =>
 ob (lstV r30.2 2 r30.1 t28) fun r31 =>
 ob (lchk t4) fun t32 =>
 ob (loff t32 0) fun t33 =>
 ob (lload1 r31.2 t33) fun t34 =>
 ob (φ f6 [t34, (.int .i64 1)] r31.2) fun r35 =>
 ob (lbin .and r35.1 (.int .i64 1)) fun t36 =>
 ob (lbin .neq t36 (.int .i64 0)) fun t37 =>
 ob (lbin .eql t19 (.int .i64 0)) fun t38 =>
 ob (gq (isB t38 true) (some t4)) fun t39 =>
 ob (gq (isB t38 true) (lchk t39)) fun t40 =>
 ob (gq (isB t38 true) (loff t40 0)) fun t41 =>
 ob (gq (isB t38 true) (lload1 r35.2 t41)) fun t42 =>
 ob (gq (isB t38 true) (some t18)) fun t43 =>
 ob (ge (isB t38 true) r35.2 (φ f7 [t42, t43] r35.2)) fun r44 =>
 ob (gq (isB t38 true) (lbin .eql r44.1 (.int .i64 4))) fun t45 =>
 ob (lpick t38 t45 (.bool false)) fun t46 =>
 cnd t46
 (ob (lbin .eql t29 (.int .i64 2)) fun t47 =>
 some (t47, r44.2))
 (ob (lbin .eql t19 (.int .i64 0)) fun t48 =>
 ob (gq (isB t48 true) (some t4)) fun t49 =>
 ob (gq (isB t48 true) (lchk t49)) fun t50 =>
 ob (gq (isB t48 true) (loff t50 0)) fun t51 =>
 ob (gq (isB t48 true) (lload1 r44.2 t51)) fun t52 =>
 ob (gq (isB t48 true) (some t18)) fun t53 =>
 ob (ge (isB t48 true) r44.2 (φ f7 [t52, t53] r44.2)) fun r54 =>
 ob (gq (isB t48 true) (lbin .neq r54.1 (.int .i64 2))) fun t55 =>
 ob (lpick t48 t55 (.bool false)) fun t56 =>
 cnd t56
 (ob (lloadn r54.2 2 r30.1) fun t57 =>
 ob (lbld [(.int .i64 0), (.int .i64 0)] [(0, 1, t18)]) fun t58 =>
 ob (leqv false (leq (.struct [(0, .int), (1, .int)]) t57 t58)) fun t59 =>
 ob (gq (isB t59 true) (some t29)) fun t60 =>
 ob (gq (isB t59 true) (lbin .eql t60 (.int .i64 0))) fun t61 =>
 ob (lpick t59 t61 (.bool false)) fun t62 =>
 some (t62, r54.2))
 (ob (lbin .eql t19 (.int .i64 0)) fun t63 =>
 cnd t63
 (ob (iun .not t37) fun t64 =>
 ob (gq (isB t64 true) (some t4)) fun t65 =>
 ob (gq (isB t64 true) (lchk t65)) fun t66 =>
 ob (gq (isB t64 true) (loff t66 0)) fun t67 =>
 ob (gq (isB t64 true) (lload1 r54.2 t67)) fun t68 =>
 ob (gq (isB t64 true) (some t18)) fun t69 =>
 ob (ge (isB t64 true) r54.2 (φ f6 [t68, t69] r54.2)) fun r70 =>
 ob (gq (isB t64 true) (lbin .and r70.1 (.int .i64 1))) fun t71 =>
 ob (gq (isB t64 true) (lbin .eql t71 (.int .i64 0))) fun t72 =>
 ob (lpick t64 t72 (.bool false)) fun t73 =>
 ob (gq (isB t73 true) (some t25)) fun t74 =>
 ob (gq (isB t73 true) (lbin .eql t74 (.int .i64 0))) fun t75 =>
 ob (lpick t73 t75 (.bool false)) fun t76 =>
 ob (gq (isB t76 true) (some t4)) fun t77 =>
 ob (gq (isB t76 true) (lchk t77)) fun t78 =>
 ob (gq (isB t76 true) (loff t78 1)) fun t79 =>
 ob (gq (isB t76 true) (lload1 r70.2 t79)) fun t80 =>
 ob (gq (isB t76 true) (some t24)) fun t81 =>
 ob (ge (isB t76 true) r70.2 (φ f7 [t80, t81] r70.2)) fun r82 =>
 ob (gq (isB t76 true) (lbin .eql r82.1 (.int .i64 2))) fun t83 =>
 ob (lpick t76 t83 (.bool false)) fun t84 =>
 ob (lbin .eql t29 (.int .i64 0)) fun t85 =>
 ob (gq (isB t85 true) (loff r30.1 0)) fun t86 =>
 ob (gq (isB t85 true) (lload1 r82.2 t86)) fun t87 =>
 ob (gq (isB t85 true) (some t18)) fun t88 =>
 ob (gq (isB t85 true) (lbin .eql t87 t88)) fun t89 =>
 ob (lpick t85 t89 (.bool false)) fun t90 =>
 ob (gq (isB t90 true) (loff r30.1 1)) fun t91 =>
 ob (gq (isB t90 true) (lload1 r82.2 t91)) fun t92 =>
 ob (gq (isB t90 true) (some t24)) fun t93 =>
 ob (gq (isB t90 true) (lbin .eql t92 t93)) fun t94 =>
 ob (gq (isB t90 true) (some t84)) fun t95 =>
 ob (gq (isB t90 true) (some t95)) fun t96 =>
 ob (gq (isB t96 false) (some t24)) fun t97 =>
 ob (gq (isB t96 false) (lbin .eql t97 (.int .i64 0))) fun t98 =>
 ob (gq (isB t90 true) (lpick t96 (.bool true) t98)) fun t99 =>
 ob (gq (isB t90 true) (leqv false (leq .bool t94 t99))) fun t100 =>
 ob (lpick t90 t100 (.bool false)) fun t101 =>
 some (t101, r82.2))
 (ob (gq (isB t37 false) (some t25)) fun t102 =>
 ob (gq (isB t37 false) (lbin .neq t102 (.int .i64 0))) fun t103 =>
 ob (lpick t37 (.bool true) t103) fun t104 =>
 ob (gq (isB t104 false) (some t4)) fun t105 =>
 ob (gq (isB t104 false) (lchk t105)) fun t106 =>
 ob (gq (isB t104 false) (loff t106 1)) fun t107 =>
 ob (gq (isB t104 false) (lload1 r54.2 t107)) fun t108 =>
 ob (gq (isB t104 false) (some t24)) fun t109 =>
 ob (ge (isB t104 false) r54.2 (φ f7 [t108, t109] r54.2)) fun r110 =>
 ob (gq (isB t104 false) (lbin .eql r110.1 (.int .i64 4))) fun t111 =>
 ob (lpick t104 (.bool true) t111) fun t112 =>
 cnd t112
 (ob (lbin .eql t29 (.int .i64 2)) fun t113 =>
 some (t113, r110.2))
 (ob (lloadn r110.2 2 r30.1) fun t114 =>
 ob (lbld [(.int .i64 0), (.int .i64 0)] [(1, 1, t24)]) fun t115 =>
 ob (leqv false (leq (.struct [(0, .int), (1, .int)]) t114 t115)) fun t116 =>
 ob (gq (isB t116 true) (some t29)) fun t117 =>
 ob (gq (isB t116 true) (lbin .eql t117 (.int .i64 0))) fun t118 =>
 ob (lpick t116 t118 (.bool false)) fun t119 =>
 some (t119, r110.2)))))))
end Go.Shade
namespace Go.Shade
variable {st1 st2 : Brs}
theorem root_kind {c : Nat} {st : Brs} (hI : BInv c st) : kindOf st 1 = 2 := by
 obtain ⟨x, hx, hk⟩ := hI.root
 unfold kindOf nodI
 rw [if_pos (by omega)]
 show (match st.nod 1 with | some x => x.kind | none => 0) = 2
 rw [hx]; exact hk
theorem root_U {c : Nat} (h1 : BInv c st1) : rootU st1 1 = 1 := by unfold rootU; rw [if_pos (root_kind h1)]
theorem root_L {c1 c2 : Nat} (h1 : BInv c1 st1) (h2 : BInv c2 st2) : rootL st1 st2 1 1 = if opq st1 1 = true then 0 else 1 := by
 unfold rootL; rw [if_pos (root_kind h2), root_U h1, if_neg (by decide)]
structure HideP (st1 st2 : Brs) (s : Nam) (u e low f x y g : Int) : Prop where
 h1 : e = 0 -> kindOf st1 u = 4 -> g = 2
 h2 : e = 0 -> kindOf st1 u ≠ 4 -> kindOf st1 u ≠ 2 -> (x = u /\ y = 0) /\ g = 0
 h3 : e = 0 -> kindOf st1 u = 2 -> g = 0 /\ x = u /\ y = (if opq st1 1 = true then 0 else if opq st1 u = true then 0 else if kindOf st2 low = 2 then low else 0)
 h4 : e ≠ 0 -> opq st1 1 = true ∨ f ≠ 0 ∨ kindOf st2 low = 4 -> g = 2
 h5 : e ≠ 0 -> opq st1 1 = false -> f = 0 -> kindOf st2 low ≠ 4 -> (x = 0 /\ y = low) /\ g = 0
 h6 : f ≠ 0 -> low = 0
 h7 : kindOf st2 low = 2 -> f = 0
theorem hide_v {c1 c2 : Nat} (hI1 : BInv c1 st1) (hI2 : BInv c2 st2) (s : Nam) : HideP st1 st2 s (getOf st1 1 s).1 (getOf st1 1 s).2 (getOf st2 1 s).1 (getOf st2 1 s).2 (getV st1 st2 (rootU st1 1) (rootL st1 st2 1 1) s).1.1 (getV st1 st2 (rootU st1 1) (rootL st1 st2 1 1) s).1.2 (getV st1 st2 (rootU st1 1) (rootL st1 st2 1 1) s).2 := by
 rw [root_U hI1, root_L hI1 hI2]
 have hb : belV st1 st2 1 (if opq st1 1 = true then 0 else 1) s = if opq st1 1 = true then 0 else (getOf st2 1 s).1 := by
  unfold belV
  cases opq st1 1 with
  | true => rw [if_pos rfl, if_pos rfl, if_pos rfl]
  | false =>
   rw [if_neg (by decide), if_neg (by decide), if_neg (by decide), if_neg (by decide), if_neg (by decide)]
 have hd : ∀ L, dirE st1 st2 1 L = 0 := fun L => by
  have : kindV st1 st2 1 L = 2 := by unfold kindV; rw [if_neg (by decide), root_kind hI1, if_neg (by decide)]
  unfold dirE; rw [this]; rfl
 have hg : getV st1 st2 1 (if opq st1 1 = true then 0 else 1) s = if (getOf st1 1 s).2 = 0 then (if kindOf st1 (getOf st1 1 s).1 = 4 then ((0, 0), 2) else (((getOf st1 1 s).1, bothV st1 st2 (getOf st1 1 s).1 (if opq st1 1 = true then 0 else (getOf st2 1 s).1)), 0)) else lowV st2 (if opq st1 1 = true then 0 else (getOf st2 1 s).1) := by
  unfold getV
  rw [if_pos (hd _), if_neg (by decide), hb]
 rw [hg]
 have h6 : (getOf st2 1 s).2 ≠ 0 -> (getOf st2 1 s).1 = 0 := get_bad
 have hok : (getOf st2 1 s).2 = 0 -> kindOf st2 (getOf st2 1 s).1 ≠ 0 := fun h => (get_ok hI2 h).2
 generalize getOf st1 1 s = p at *
 generalize getOf st2 1 s = q at *
 obtain ⟨u, e⟩ := p
 obtain ⟨low, f⟩ := q
 simp only at h6 hok ⊢
 have h7 : kindOf st2 low = 2 -> f = 0 := fun h => by
  by_cases hf : f = 0
  ·exact hf
  ·rw [h6 hf, kind_zero] at h; cases h
 by_cases he : e = 0
 ·rw [if_pos he]
  by_cases h4 : kindOf st1 u = 4
  ·rw [if_pos h4]
   exact ⟨fun _ _ => rfl, fun _ h => absurd h4 h, (fun _ h => by rw [h4] at h; cases h), fun h => absurd he h, fun h => absurd he h, h6, h7⟩
  ·rw [if_neg h4]
   refine ⟨fun _ h => absurd h h4, fun _ _ h2 => ⟨⟨rfl, ?_⟩, rfl⟩, fun _ h2 => ⟨rfl, rfl, ?_⟩, fun h => absurd he h, fun h => absurd he h, h6, h7⟩
   ·show bothV st1 st2 u _ = 0
    unfold bothV; rw [if_neg h2]
   ·show bothV st1 st2 u _ = _
    unfold bothV; rw [if_pos h2]
    cases opq st1 1 <;> simp [kind_zero]
 ·rw [if_neg he]
  refine ⟨fun h => absurd h he, fun h => absurd h he, fun h => absurd h he, fun _ h => ?_, fun _ ho hf hk => ?_, h6, h7⟩
  ·have : kindOf st2 (if opq st1 1 = true then 0 else low) = 0 ∨ kindOf st2 (if opq st1 1 = true then 0 else low) = 4 := by
    cases ho : opq st1 1 with
    | true => rw [if_pos rfl]; exact .inl (kind_zero _)
    | false =>
     rw [if_neg (by decide)]
     rcases h with h | h | h
     ·rw [ho] at h; cases h
     ·rw [h6 h]; exact .inl (kind_zero _)
     ·exact .inr h
   rcases low_shape st2 (if opq st1 1 = true then 0 else low) with ⟨e1, _⟩ | ⟨_, k0, k4⟩
   ·rw [e1]
   ·rcases this with h | h
    ·exact absurd h k0
    ·exact absurd h k4
  ·rw [ho, if_neg (by decide)]
   rcases low_shape st2 low with ⟨_, k⟩ | ⟨e1, _⟩
   ·rcases k with k | k
    ·exact absurd k (hok hf)
    ·exact absurd k hk
   ·rw [e1]; exact ⟨⟨rfl, rfl⟩, rfl⟩
section
variable {cal : FuncId -> Bool} {φ : Oracle} {N : Nat}
theorem VwOk.mk1 {H : Heap} {v b1 b2 : Nat} {u l : Int} (h : VwOk H v b1 b2 u l st1 st2) {f : FuncId} (hk : MarksOk φ f) (i : Int) : φ f [.ptr b1 0, .int .i64 i] H = some (.int .i64 (marksOf st1 i), H) := by
 obtain ⟨o, a⟩ := h.up; exact hk o H b1 st1 i a
theorem opq_and (st : Brs) (i : Int) : (!decide (andI (marksOf st i) = 0)) = opq st i := rfl
theorem opq_nand (st : Brs) (i : Int) : decide (andI (marksOf st i) = 0) = !opq st i := by unfold opq; rw [Bool.not_not]
theorem hides_l {fa fb fm fbg fr fg fmk fbk : FuncId} (hA : AwOk φ fa) (hB : BuildOk φ fb) (hM : MNewOk φ fm) (hBG : BGetOk φ fbg) (hR : VRootOk φ fr) (hG : VGetOk φ fg) (hMK : MarksOk φ fmk) (hBK : KindOk φ fbk) {H : Heap} {v : IV} {l : List MAct} {s : Nam} (hv : MActs H.length H v l) :
  Wp (veneerlaw10MergeHidesS cal φ N fa fb fm fbg fr fg fmk fbk v (.str s) H) fun r => r.1 = .bool true := by
 unfold veneerlaw10MergeHidesS
 simp only [hA H, ob_some, iun_not, Bool.not_true, cnd_false]
 refine Wp.call (hB H v l hv) ?_
 rintro ⟨w, K⟩ ⟨k1, hw⟩
 simp only at k1 hw ⊢
 rcases hw with rfl | ⟨p, b1, r1, b2, r2, hp, rfl, rp, hW⟩
 ·simp only [iextract_tuple, List.getElem?_cons_zero, List.getElem?_cons_succ, ob_some, iun_not, Bool.not_false, cnd_true]
  exact Wp.ret rfl
 obtain ⟨st1, st2, hP⟩ := hW.brs
 have p0 : lload1 K (.ptr p 0) = some (.ptr b1 0) := ld1 rp
 have p1 : lload1 K (.ptr p 1) = some (.ptr b2 0) := ld1 rp
 simp only [iextract_tuple, List.getElem?_cons_zero, List.getElem?_cons_succ, ob_some, iun_not, Bool.not_true, cnd_false, lchk_ptr, loff_ptr, Nat.zero_add, p0, p1, hM K b1 b2 1 1]
 have k2 : Frame NoF K (K ++ [IObj.row [.ptr b1 0, .ptr b2 0, .int .i64 1, .int .i64 1] false]) := Frame.push _ _ _
 have rv : (K ++ [IObj.row [.ptr b1 0, .ptr b2 0, .int .i64 1, .int .i64 1] false])[K.length]? = some (.row [.ptr b1 0, .ptr b2 0, .int .i64 1, .int .i64 1] false) := newRow
 have hP2 := hP.kp k2
 have rp2 := k2.get (fun h => h) rp
 generalize K ++ [IObj.row [.ptr b1 0, .ptr b2 0, .int .i64 1, .int .i64 1] false] = K2 at *
 generalize K.length = vp at *
 have hV2 := hP2.view rv
 have p0 : lload1 K2 (.ptr p 0) = some (.ptr b1 0) := ld1 rp2
 rw [p0, ob_some]
 refine Wp.call (hV2.get1 hBG 1 s) ?_
 rintro ⟨w, K3⟩ ⟨rfl, k3⟩
 simp only at k3 ⊢
 have rp3 := k3.get (fun h => h) rp2
 have hV3 := hV2.kp k3
 have p1 : lload1 K3 (.ptr p 1) = some (.ptr b2 0) := ld1 rp3
 simp only [iextract_tuple, List.getElem?_cons_zero, List.getElem?_cons_succ, ob_some, p1]
 refine Wp.call (hV3.get2 hBG 1 s) ?_
 rintro ⟨w, K4⟩ ⟨rfl, k4⟩
 simp only at k4 ⊢
 have rp4 := k4.get (fun h => h) rp3
 have hV4 := hV3.kp k4
 simp only [iextract_tuple, List.getElem?_cons_zero, List.getElem?_cons_succ, ob_some]
 refine Wp.call (hR K4 vp b1 b2 1 1 st1 st2 hV4) ?_
 rintro ⟨w, K5⟩ ⟨rfl, k5⟩
 simp only at k5 ⊢
 have rp5 := k5.get (fun h => h) rp4
 have hV5 := hV4.kp k5
 refine Wp.call (hG K5 vp b1 b2 1 1 st1 st2 _ _ s hV5) ?_
 rintro ⟨w, K6⟩ ⟨rfl, k6⟩
 simp only at k6 ⊢
 have rp6 := k6.get (fun h => h) rp5
 have hV6 := hV5.kp k6
 have hD := hide_v hP.i1 hP.i2 s
 generalize getV st1 st2 (rootU st1 1) (rootL st1 st2 1 1) s = g at *
 generalize getOf st1 1 s = gu at *
 generalize getOf st2 1 s = gl at *
 obtain ⟨⟨x, y⟩, g⟩ := g
 obtain ⟨u, e⟩ := gu
 obtain ⟨low, f⟩ := gl
 simp only at hD ⊢
 have eg : getR ((x, y), g) = .tuple [nodV x y, .int .i64 g] := rfl
 simp only [eg, iextract_tuple, List.getElem?_cons_zero, List.getElem?_cons_succ, ob_some, lzbox_eq, cells_agg]
 have hone : ([IV.int .i64 x, .int .i64 y]).all IV.one = true := rfl
 have est : lstV (K6 ++ [IObj.row [.int .i64 0, .int .i64 0] false]) 2 (.ptr K6.length 0) (nodV x y) = some (.tuple [], (K6 ++ [IObj.row [.int .i64 0, .int .i64 0] false]).set K6.length (.row [.int .i64 x, .int .i64 y] false)) := stn (n := 2) newRow hone rfl rfl
 rw [est, ob_some, setRow]
 have k7 : Frame NoF K6 (K6 ++ [IObj.row [.int .i64 x, .int .i64 y] false]) := Frame.push _ _ _
 have rx : (K6 ++ [IObj.row [.int .i64 x, .int .i64 y] false])[K6.length]? = some (.row [.int .i64 x, .int .i64 y] false) := newRow
 have hV := hV6.kp k7
 have rp7 := k7.get (fun h => h) rp6
 simp only
 generalize K6 ++ [IObj.row [.int .i64 x, .int .i64 y] false] = K7 at *
 generalize K6.length = c at *
 have eld : lloadn K7 2 (.ptr c 0) = some (nodV x y) := ldn (n := 2) rx rfl
 have c0 : lload1 K7 (.ptr c 0) = some (.int .i64 x) := ld1 rx
 have c1 : lload1 K7 (.ptr c 1) = some (.int .i64 y) := ld1 rx
 have q0 : lload1 K7 (.ptr p 0) = some (.ptr b1 0) := ld1 rp7
 have q1 : lload1 K7 (.ptr p 1) = some (.ptr b2 0) := ld1 rp7
 simp only [q0, ob_some, hV.mk1 hMK, lbin_and1, lbin_neq, lbin_eql, opq_and]
 have hut : isB (.tuple []) true = false := rfl
 have huf : isB (.tuple []) false = false := rfl
 by_cases he : e = 0
 ·rw [decide_eq_true he]
  simp only [isB_tt, gq_true, ge_true, ob_some, lchk_ptr, loff_ptr, Nat.zero_add, q0, hV.kd1 hBK, lbin_eql, lpick_true]
  refine Wp.dec (fun h4 => ?_) (fun h4 => ?_)
  ·rw [hD.h1 he h4]; exact Wp.ret rfl
  ·simp only [lbin_neq, ob_some, isB_tt, gq_true, ge_true, lpick_true]
   refine Wp.ndec (fun h2 => ?_) (fun h2 => ?_)
   ·obtain ⟨e1, e2⟩ := hD.h2 he h4 h2
    simp only [eld, bldU, leqN, leqv_f, ob_some]
    rw [decide_eq_true e1]
    simp only [isB_tt, gq_true, ob_some, lbin_eql, lpick_true]
    rw [decide_eq_true e2]; exact Wp.ret rfl
   ·obtain ⟨e1, e2, e3⟩ := hD.h3 he h2
    rw [cnd_true]
    simp only [iun_not, ob_some]
    subst e1 e2
    have fin : ∀ bo : Bool, (decide (y = low)) = (bo || decide (low = 0)) -> Wp (ob (lbin .eql (.int .i64 0) (.int .i64 0)) fun t85 =>
     ob (gq (isB t85 true) (some (.ptr c 0))) fun t86 =>
     ob (gq (isB t85 true) (lload1 K7 t86)) fun t87 =>
     ob (gq (isB t85 true) (some (.int .i64 x))) fun t88 =>
     ob (gq (isB t85 true) (lbin .eql t87 t88)) fun t89 =>
     ob (lpick t85 t89 (.bool false)) fun t90 =>
     ob (gq (isB t90 true) (some (.ptr c 1))) fun t91 =>
     ob (gq (isB t90 true) (lload1 K7 t91)) fun t92 =>
     ob (gq (isB t90 true) (some (.int .i64 low))) fun t93 =>
     ob (gq (isB t90 true) (lbin .eql t92 t93)) fun t94 =>
     ob (gq (isB t90 true) (some (.bool bo))) fun t95 =>
     ob (gq (isB t90 true) (some t95)) fun t96 =>
     ob (gq (isB t96 false) (some (.int .i64 low))) fun t97 =>
     ob (gq (isB t96 false) (lbin .eql t97 (.int .i64 0))) fun t98 =>
     ob (gq (isB t90 true) (lpick t96 (.bool true) t98)) fun t99 =>
     ob (gq (isB t90 true) (leqv false (leq .bool t94 t99))) fun t100 =>
     ob (lpick t90 t100 (.bool false)) fun t101 =>
     some (t101, K7)) fun r => r.1 = .bool true := by
     intro bo hbo
     simp only [lbin_eql, ob_some, decide_true, isB_tt, gq_true, c0, c1, lpick_true, hbo]
     cases bo with
     | true =>
      simp only [isB_tf, gq_false, ob_some, lpick_true, leq_bool, leqv_f, Bool.true_or]
      exact Wp.ret rfl
     | false =>
      simp only [isB_ff, gq_true, ob_some, lbin_eql, lpick_false, leq_bool, leqv_f, Bool.false_or]
      cases decide (low = 0) <;> exact Wp.ret rfl
    simp only [lbin_eql, ob_some] at fin
    cases ho : opq st1 1 with
    | true =>
     rw [ho, if_pos rfl] at e3
     simp only [Bool.not_true, isB_ft, gq_false, ge_false, ob_some, lpick_false, hut]
     exact fin false (by rw [e3, Bool.false_or]; by_cases h : low = 0 <;> simp [h]; exact fun h' => h h'.symm)
    | false =>
     rw [ho, if_neg (by decide)] at e3
     simp only [Bool.not_false, isB_tt, gq_true, ge_true, ob_some, lchk_ptr, loff_ptr, Nat.zero_add, q0, hV.mk1 hMK, lbin_and1, lbin_eql, opq_nand, lpick_true]
     cases hx : opq st1 x with
     | true =>
      rw [hx, if_pos rfl] at e3
      simp only [Bool.not_true, isB_ft, gq_false, ge_false, ob_some, lpick_false, hut]
      exact fin false (by rw [e3, Bool.false_or]; by_cases h : low = 0 <;> simp [h]; exact fun h' => h h'.symm)
     | false =>
      rw [hx, if_neg (by decide)] at e3
      simp only [Bool.not_false, isB_tt, gq_true, ob_some, lbin_eql, lpick_true]
      by_cases hf : f = 0
      ·rw [decide_eq_true hf]
       simp only [isB_tt, gq_true, ge_true, ob_some, lchk_ptr, loff_ptr, Nat.zero_add, q1, hV.kd2 hBK, lbin_eql, lpick_true]
       by_cases hk : kindOf st2 low = 2
       ·rw [if_pos hk] at e3
        rw [decide_eq_true hk]
        exact fin true (by rw [e3]; simp)
       ·rw [if_neg hk] at e3
        rw [decide_eq_false hk]
        exact fin false (by rw [e3, Bool.false_or]; by_cases h : low = 0 <;> simp [h]; exact fun h' => h h'.symm)
      ·rw [decide_eq_false hf]
       have hl := hD.h6 hf
       rw [hl, kind_zero, if_neg (by decide)] at e3
       simp only [isB_ft, gq_false, ge_false, ob_some, lpick_false, hut]
       exact fin false (by rw [e3, hl]; rfl)
 ·rw [decide_eq_false he]
  simp only [isB_ft, gq_false, ge_false, ob_some, lpick_false, cnd_false]
  have h5 := hD.h5 he
  have h4 := hD.h4 he
  have good : opq st1 1 = true ∨ f ≠ 0 ∨ kindOf st2 low = 4 -> Wp (ob (lbin .eql (.int .i64 g) (.int .i64 2)) fun t113 => some (t113, K7)) fun r => r.1 = .bool true := fun h => by
   rw [h4 h]; exact Wp.ret rfl
  simp only [lbin_eql, ob_some] at good
  cases ho : opq st1 1 with
  | true =>
   simp only [isB_tf, gq_false, ge_false, ob_some, lpick_true, huf, cnd_true]
   exact good (.inl ho)
  | false =>
   simp only [isB_ff, gq_true, ob_some, lbin_neq, lpick_false]
   by_cases hf : f = 0
   ·rw [decide_eq_true hf]
    simp only [Bool.not_true, isB_ff, gq_true, ge_true, ob_some, lchk_ptr, loff_ptr, Nat.zero_add, q1, hV.kd2 hBK, lbin_eql, lpick_false]
    refine Wp.dec (fun hk => good (.inr (.inr hk))) (fun hk => ?_)
    obtain ⟨e1, e2⟩ := h5 ho hf hk
    simp only [eld, bldL, leqN, leqv_f, ob_some]
    rw [decide_eq_true e1]
    simp only [isB_tt, gq_true, ob_some, lbin_eql, lpick_true]
    rw [decide_eq_true e2]; exact Wp.ret rfl
   ·rw [decide_eq_false hf]
    simp only [Bool.not_false, isB_tf, gq_false, ge_false, ob_some, lpick_true, cnd_true]
    exact good (.inr (.inl hf))
end
end Go.Shade
namespace Go.Proofs.YtmkjmfegaalcoaaGreat
open Go.Shade
theorem lo8 : LoF Tryz.prog 8 (lf Tryz.f8) := ⟨⟨_, Tryz.func8, by kernel_rfl⟩, by kernel_rfl⟩
theorem e8 (cal : FuncId -> Bool) (φ : Oracle) (N : Nat) (v0 v1 : IV) (H : Heap) : lrunK cal φ N (lf Tryz.f8) [v0, v1] H = Go.Shade.veneerlaw10MergeHidesS cal φ N 23 24 25 43 26 28 45 44 v0 v1 H := by kernel_rfl
end Go.Proofs.YtmkjmfegaalcoaaGreat
