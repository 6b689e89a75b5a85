/- The law CallApart, whole: its row is shown. -/
import Derived.Test.YtdljmmdbpngchaaCallSeat2
namespace Go.Proofs.Ytdljmmdbpngchaa.callApartDone
open Go.Shade Go.ChangeShapes Go.WideShapes Go.ChangeAt Go.RowKit
set_option linter.unusedVariables false
theorem own : ownKnob Try.prog.godebug = none := by kernel_rfl
theorem laidOut : laidOutB Try.prog = true := by kernel_rfl
theorem good : Good1 Try.prog t10 9 [⟨callT, true⟩, ⟨callT, true⟩] := by
  intro H ivs h
  obtain ⟨v, r, rfl, ⟨c, rfl, hf⟩, w, r', rfl, ⟨c', rfl, hf'⟩, rfl⟩ := h
  obtain ⟨l, rfl, _⟩ := fit_call hf
  obtain ⟨m, rfl, _⟩ := fit_call hf'
  obtain ⟨H', h4⟩ := apart_l (cal := callable Try.prog) (N := 0) (c0 := l) (c1 := m) (H := H) okAwake (okEnc (T := t10) (f := 14) rfl)
  obtain ⟨⟨fn, k1, k2⟩, _⟩ := lo9
  exact ⟨H', low_den (cal := callable Try.prog) (fun _ h => h) rfl k1 k2 (Nat.le_of_ble_eq_true rfl) (lrunK_le (n := 0) (by rw [veneerlaw08CallApartEq]; exact h4))⟩
set_option maxRecDepth 100000 in
theorem lifted (os : Os) (started : os.Started) (H : Type) (enc : TypeId × Value → H) :
    ReturnsInHanded {} Try.checked os 9 .any (Rows.callApartSpec.pre6 enc Try.prog Try.f9 Rows.callApartRow.domain false) (Rows.callApartSpec.post enc Try.prog Try.f9 false true false false) := by
  refine returnsInHanded_of_change (C := Try.checked) own started (by kernel_rfl) Try.func9
    (ChangeSpec.witness6 (enc := enc) (C := Try.checked) false ⟨#[], #[.agg #[.int .i64 0, .int .i64 0, .int .i64 0, .int .i64 0, .int .i64 0, .string "".toUTF8, .string "".toUTF8], .agg #[.int .i64 0, .int .i64 0, .int .i64 0, .int .i64 0, .int .i64 0, .string "".toUTF8, .string "".toUTF8]], []⟩ 8 (by kernel_rfl) (by kernel_rfl) (by kernel_rfl) (by kernel_rfl)) ?_
  intro W base args ds gs before hval hW hcnd _
  have hW' := hW
  obtain ⟨p, q, hA, hV, rfl, hfz, hnd⟩ := hW
  have ha : atsOf Try.prog 8 Try.f9.params.toList = some [⟨callT, true⟩, ⟨callT, true⟩] := by kernel_rfl
  refine (calls_good s10 good hm ha (fun j t v h1 h2 => hval j t v (by simpa using h1) (by simpa using h2)) hA).mono fun e W' ⟨he, bel⟩ => ?_
  subst he
  exact ⟨_, rfl, post_same' (tb := 4) rfl rfl rfl Try.underlying4 (fun ds hl => by
    match ds, hl with
    | [d, e], _ => rfl) laidOut (by kernel_rfl) hW' bel⟩
theorem over : Rows.callApartRow.holds Try.pinned (OpenSpec.ofChange Rows.callApartSpec) :=
  OpenClaim.holds_of_wide 9 Try.f9 rfl rfl rfl rfl rfl rfl rfl ⟨rfl, rfl, rfl, rfl, rfl⟩ rfl rfl rfl rfl rfl (by kernel_rfl) Try.func9 (by kernel_rfl)
    (of_decide_eq_true (by kernel_rfl)) (by unfold Func.isWrapper; first | (rw [if_pos (by decide +kernel)]; kernel_rfl) | (rw [if_neg (by decide +kernel)]; exact ⟨rfl, rfl⟩))
    (fun os started H enc _ => lifted os started H enc)
theorem proved : Rows.CallApartSaid := over
end Go.Proofs.Ytdljmmdbpngchaa.callApartDone
