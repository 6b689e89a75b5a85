/- The law CallAhead, whole: its row is shown. -/
import Derived.Test.YtdljmmdbpngchaaCallSeat2
namespace Go.Proofs.Ytdljmmdbpngchaa.callAheadDone
open Go.Shade Go.ChangeShapes Go.WideShapes Go.ChangeAt Go.RowKit
set_option linter.unusedVariables false
theorem own : ownKnob Try.prog.godebug = none := by kernel_rfl
theorem laidOut : laidOutB Try.prog = true := by kernel_rfl
theorem good : Good1 Try.prog t10 8 [⟨[.sl callT], false⟩, ⟨[.sl [.int .u8]], false⟩] := by
  intro H ivs h
  obtain ⟨v, r, rfl, ⟨c, hc, hf⟩, w, r', rfl, ⟨c', hc', hf'⟩, rfl⟩ := h
  cases hc
  cases hc'
  obtain ⟨l, g1, g2, g3, g4⟩ := fit_calls hf
  obtain ⟨bs, h1, h2, h3⟩ := fit_bytes hf'
  obtain ⟨H', h4⟩ := ahead_l (cal := callable Try.prog) (N := 0) okAwake (okScript (T := t10) (f := 18) rfl) (okDec (T := t10) (f := 11) rfl) (okSame (T := t10) (f := 12) rfl) g3 g1 h2 h3 h1
  obtain ⟨⟨fn, k1, k2⟩, _⟩ := lo8
  exact ⟨H', low_den (cal := callable Try.prog) (fun _ h => h) rfl k1 k2 (Nat.le_of_ble_eq_true rfl) (lrunK_le (n := 0) (by rw [veneerlaw08CallAheadEq]; exact h4))⟩
set_option maxRecDepth 100000 in
theorem lifted (os : Os) (started : os.Started) (H : Type) (enc : TypeId × Value → H) :
    ReturnsInHanded {} Try.checked os 8 .any (Rows.callAheadSpec.pre6 enc Try.prog Try.f8 Rows.callAheadRow.domain false) (Rows.callAheadSpec.post enc Try.prog Try.f8 false true false false) := by
  refine returnsInHanded_of_change (C := Try.checked) own started (by kernel_rfl) Try.func8
    (ChangeSpec.witness6 (enc := enc) (C := Try.checked) false ⟨#[], #[.slice none 0 0, .slice none 0 0], []⟩ 8 (by kernel_rfl) (by kernel_rfl) (by kernel_rfl) (by kernel_rfl)) ?_
  intro W base args ds gs before hval hW hcnd _
  have hW' := hW
  obtain ⟨p, q, hA, hV, rfl, hfz, hnd⟩ := hW
  have ha : atsOf Try.prog 8 Try.f8.params.toList = some [⟨[.sl callT], false⟩, ⟨[.sl [.int .u8]], false⟩] := by kernel_rfl
  refine (calls_good s10 good hm ha (fun j t v h1 h2 => hval j t v (by simpa using h1) (by simpa using h2)) hA).mono fun e W' ⟨he, bel⟩ => ?_
  subst he
  exact ⟨_, rfl, post_same' (tb := 4) rfl rfl rfl Try.underlying4 (fun ds hl => by
    match ds, hl with
    | [d, e], _ => rfl) laidOut (by kernel_rfl) hW' bel⟩
theorem over : Rows.callAheadRow.holds Try.pinned (OpenSpec.ofChange Rows.callAheadSpec) :=
  OpenClaim.holds_of_wide 8 Try.f8 rfl rfl rfl rfl rfl rfl rfl ⟨rfl, rfl, rfl, rfl, rfl⟩ rfl rfl rfl rfl rfl (by kernel_rfl) Try.func8 (by kernel_rfl)
    (of_decide_eq_true (by kernel_rfl)) (by unfold Func.isWrapper; first | (rw [if_pos (by decide +kernel)]; kernel_rfl) | (rw [if_neg (by decide +kernel)]; exact ⟨rfl, rfl⟩))
    (fun os started H enc _ => lifted os started H enc)
theorem proved : Rows.CallAheadSaid := over
end Go.Proofs.Ytdljmmdbpngchaa.callAheadDone
