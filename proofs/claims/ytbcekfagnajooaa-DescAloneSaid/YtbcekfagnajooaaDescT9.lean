/- The law DescAlone, whole: its row is shown. -/
import Derived.Test.YtbcekfagnajooaaM4
namespace Go.Proofs.Ytbcekfagnajooaa.descAloneDone
open Go.Shade Go.ChangeShapes Go.WideShapes Go.ChangeAt Go.RowKit
set_option linter.unusedVariables false
theorem own : ownKnob Try.prog.godebug = none := by kernel_rfl
theorem laidOut : laidOutB Try.prog = true := by kernel_rfl
theorem good : Good1 Try.prog tt 4 [⟨[.sl actT], false⟩, ⟨dscT, true⟩, ⟨[.sl actT], false⟩] := by
  intro H ivs h
  obtain ⟨v, r, rfl, ⟨c, hc, hf⟩, w, r', rfl, ⟨c', rfl, hf'⟩, u, r'', rfl, ⟨c'', hc'', hf''⟩, rfl⟩ := h
  cases hc
  cases hc''
  obtain ⟨l, g1⟩ := fit_acts hf
  obtain ⟨m, g2⟩ := fit_acts hf''
  obtain ⟨d, nv, rfl, g3⟩ := fit_dsc hf'
  obtain ⟨⟨r, H'⟩, h4, h5⟩ := denWp rfl lo4 121 (args := [v, .agg (d.cells nv), u]) (H := H) (Q := fun r => r.1 = .bool true) (Nat.le_of_ble_eq_true rfl) (by rw [veneerlaw07DescAloneEq]; exact alone_l okAw okNew okPlay okFull okOpen okGet okSame (by omega) g1 g3 g2)
  simp only at h5; subst h5
  exact ⟨H', h4⟩
set_option maxRecDepth 100000 in
theorem lifted (os : Os) (started : os.Started) (H : Type) (enc : TypeId × Value → H) :
    ReturnsInHanded {} Try.checked os 4 .any (Rows.descAloneSpec.pre6 enc Try.prog Try.f4 Rows.descAloneRow.domain false) (Rows.descAloneSpec.post enc Try.prog Try.f4 false true false false) := by
  refine returnsInHanded_of_change (C := Try.checked) own started (by kernel_rfl) Try.func4
    (ChangeSpec.witness6 (enc := enc) (C := Try.checked) false ⟨#[], #[.slice none 0 0, .agg #[.int .i64 0, .int .i64 0, .int .i64 0, .bool false, .slice none 0 0, .int .i64 0], .slice none 0 0], []⟩ 8 (by kernel_rfl) (by kernel_rfl) (by kernel_rfl) (by kernel_rfl)) ?_
  intro W base args ds gs before hval hW hcnd _
  have hW' := hW
  obtain ⟨p, q, hA, hV, rfl, hfz, hnd⟩ := hW
  have ha : atsOf Try.prog 8 Try.f4.params.toList = some [⟨[.sl actT], false⟩, ⟨dscT, true⟩, ⟨[.sl actT], false⟩] := by kernel_rfl
  refine (calls_good ss good hm ha (fun j t v h1 h2 => hval j t v (by simpa using h1) (by simpa using h2)) hA).mono fun e W' ⟨he, bel⟩ => ?_
  subst he
  exact ⟨_, rfl, post_same' (tb := 4) rfl rfl rfl Try.underlying4 (fun ds hl => by
    match ds, hl with
    | [d, e, d2], _ => rfl) laidOut (by kernel_rfl) hW' bel⟩
theorem over : Rows.descAloneRow.holds Try.pinned (OpenSpec.ofChange Rows.descAloneSpec) :=
  OpenClaim.holds_of_wide 4 Try.f4 rfl rfl rfl rfl rfl rfl rfl ⟨rfl, rfl, rfl, rfl, rfl⟩ rfl rfl rfl rfl rfl (by kernel_rfl) Try.func4 (by kernel_rfl)
    (of_decide_eq_true (by kernel_rfl)) (by unfold Func.isWrapper; first | (rw [if_pos (by decide +kernel)]; kernel_rfl) | (rw [if_neg (by decide +kernel)]; exact ⟨rfl, rfl⟩))
    (fun os started H enc _ => lifted os started H enc)
theorem proved : Rows.DescAloneSaid := over
end Go.Proofs.Ytbcekfagnajooaa.descAloneDone
