/- The law DescSets, whole: its row is shown. -/
import Derived.Test.YtbcekfagnajooaaM6
namespace Go.Proofs.Ytbcekfagnajooaa.descSetsDone
open Go.Shade Go.ChangeShapes Go.WideShapes Go.ChangeAt Go.RowKit
set_option linter.unusedVariables false
theorem own : ownKnob Try.prog.godebug = none := by kernel_rfl
theorem laidOut : laidOutB Try.prog = true := by kernel_rfl
theorem good : GoodW Try.prog 6 [⟨[.sl actT], false⟩, ⟨[.int .i64], false⟩, ⟨dscT, true⟩] := by
  intro H ivs h
  obtain ⟨v, r, rfl, ⟨c, hc, hf⟩, w, r', rfl, ⟨c', hc', hf'⟩, u, r'', rfl, ⟨c'', rfl, hf''⟩, rfl⟩ := h
  cases hc
  cases hc'
  obtain ⟨l, g1⟩ := fit_acts hf
  simp only [Fit] at hf'
  obtain ⟨fd, rfl, _⟩ := hf'
  obtain ⟨d, nv, rfl, g3⟩ := fit_dsc hf''
  obtain ⟨⟨fn, q1, q2⟩, _⟩ := lo6
  exact sim_W (sound_den ss hm) (fun _ h => h) hm q1 q2 (Nat.le_of_ble_eq_true rfl) (sets_w (N := 121) okAw okNew okPlay okAll okGet okSet okSame okClose (by omega) g1 g3)
set_option maxRecDepth 100000 in
theorem lifted (os : Os) (started : os.Started) (H : Type) (enc : TypeId × Value → H) :
    ReturnsInHanded {} Try.checked os 6 .any (Rows.descSetsSpec.pre6 enc Try.prog Try.f6 Rows.descSetsRow.domain false) (Rows.descSetsSpec.post enc Try.prog Try.f6 false true false false) := by
  refine returnsInHanded_of_change (C := Try.checked) own started (by kernel_rfl) Try.func6
    (ChangeSpec.witness6 (enc := enc) (C := Try.checked) false ⟨#[], #[.slice none 0 0, .int .i64 0, .agg #[.int .i64 0, .int .i64 0, .int .i64 0, .bool false, .slice none 0 0, .int .i64 0]], []⟩ 8 (by kernel_rfl) (by kernel_rfl) (by kernel_rfl) (by kernel_rfl)) ?_
  intro W base args ds gs before hval hW hcnd _
  have hW' := hW
  obtain ⟨p, q, hA, hV, rfl, hfz, hnd⟩ := hW
  have ha : atsOf Try.prog 8 Try.f6.params.toList = some [⟨[.sl actT], false⟩, ⟨[.int .i64], false⟩, ⟨dscT, true⟩] := by kernel_rfl
  refine (calls_goodW good ha (fun j t v h1 h2 => hval j t v (by simpa using h1) (by simpa using h2)) hA).mono fun e W' ⟨he, bel⟩ => ?_
  subst he
  exact ⟨_, rfl, post_same' (tb := 4) rfl rfl rfl Try.underlying4 (fun ds hl => by
    match ds, hl with
    | [d, e, d2], _ => rfl) laidOut (by kernel_rfl) hW' bel⟩
theorem over : Rows.descSetsRow.holds Try.pinned (OpenSpec.ofChange Rows.descSetsSpec) :=
  OpenClaim.holds_of_wide 6 Try.f6 rfl rfl rfl rfl rfl rfl rfl ⟨rfl, rfl, rfl, rfl, rfl⟩ rfl rfl rfl rfl rfl (by kernel_rfl) Try.func6 (by kernel_rfl)
    (of_decide_eq_true (by kernel_rfl)) (by unfold Func.isWrapper; first | (rw [if_pos (by decide +kernel)]; kernel_rfl) | (rw [if_neg (by decide +kernel)]; exact ⟨rfl, rfl⟩))
    (fun os started H enc _ => lifted os started H enc)
theorem proved : Rows.DescSetsSaid := over
end Go.Proofs.Ytbcekfagnajooaa.descSetsDone
