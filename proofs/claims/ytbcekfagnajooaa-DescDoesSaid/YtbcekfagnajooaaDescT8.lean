/- The law DescDoes, whole: its row is shown. -/
import Derived.Test.YtbcekfagnajooaaM6
namespace Go.Proofs.Ytbcekfagnajooaa.descDoesDone
open Go.Shade Go.ChangeShapes Go.WideShapes Go.ChangeAt Go.RowKit
set_option linter.unusedVariables false
theorem own : ownKnob Try.prog.godebug = none := by kernel_rfl
theorem laidOut : laidOutB Try.prog = true := by kernel_rfl
theorem good : Good1 Try.prog tt 3 [⟨[.sl actT], false⟩] := by
  intro H ivs h
  obtain ⟨v, r, rfl, ⟨c, hc, hf⟩, rfl⟩ := h
  cases hc
  obtain ⟨l, g1⟩ := fit_acts hf
  obtain ⟨⟨r, H'⟩, h4, h5⟩ := denWp rfl lo3 1000001 (args := [v]) (H := H) (Q := fun r => r.1 = .bool true) (Nat.le_of_ble_eq_true rfl) (by rw [veneerlaw07DescDoesEq]; exact does_l okAw okNew okROwn okOpen okROpen okClose okRClose okSame okSet okRSet okGet okRGet okAll okRAll okInts okFull (by omega) g1)
  simp only at h5; subst h5
  exact ⟨H', h4⟩
set_option maxRecDepth 100000 in
theorem lifted (os : Os) (started : os.Started) (H : Type) (enc : TypeId × Value → H) :
    ReturnsInHanded {} Try.checked os 3 .any (Rows.descDoesSpec.pre6 enc Try.prog Try.f3 Rows.descDoesRow.domain false) (Rows.descDoesSpec.post enc Try.prog Try.f3 false true false false) := by
  refine returnsInHanded_of_change (C := Try.checked) own started (by kernel_rfl) Try.func3
    (ChangeSpec.witness6 (enc := enc) (C := Try.checked) false ⟨#[], #[.slice none 0 0], []⟩ 8 (by kernel_rfl) (by kernel_rfl) (by kernel_rfl) (by kernel_rfl)) ?_
  intro W base args ds gs before hval hW hcnd _
  have hW' := hW
  obtain ⟨p, q, hA, hV, rfl, hfz, hnd⟩ := hW
  have ha : atsOf Try.prog 8 Try.f3.params.toList = some [⟨[.sl actT], false⟩] := by kernel_rfl
  refine (calls_good ss good hm ha (fun j t v h1 h2 => hval j t v (by simpa using h1) (by simpa using h2)) hA).mono fun e W' ⟨he, bel⟩ => ?_
  subst he
  exact ⟨_, rfl, post_same' (tb := 4) rfl rfl rfl Try.underlying4 (fun ds hl => by
    match ds, hl with
    | [d], _ => rfl) laidOut (by kernel_rfl) hW' bel⟩
theorem over : Rows.descDoesRow.holds Try.pinned (OpenSpec.ofChange Rows.descDoesSpec) :=
  OpenClaim.holds_of_wide 3 Try.f3 rfl rfl rfl rfl rfl rfl rfl ⟨rfl, rfl, rfl, rfl, rfl⟩ rfl rfl rfl rfl rfl (by kernel_rfl) Try.func3 (by kernel_rfl)
    (of_decide_eq_true (by kernel_rfl)) (by unfold Func.isWrapper; first | (rw [if_pos (by decide +kernel)]; kernel_rfl) | (rw [if_neg (by decide +kernel)]; exact ⟨rfl, rfl⟩))
    (fun os started H enc _ => lifted os started H enc)
theorem proved : Rows.DescDoesSaid := over
end Go.Proofs.Ytbcekfagnajooaa.descDoesDone
