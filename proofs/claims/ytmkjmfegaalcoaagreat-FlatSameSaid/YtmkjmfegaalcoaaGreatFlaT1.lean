/- The law FlatSame, part 5. -/
import Derived.Test.YtmkjmfegaalcoaaGreatM4
set_option linter.all false
namespace Go.Proofs.YtmkjmfegaalcoaaGreat.flatSameDone
open Go.Shade Go.ChangeShapes Go.WideShapes Go.ChangeAt Go.RowKit
theorem own : ownKnob Tryz.prog.godebug = none := by kernel_rfl
theorem laidOut : laidOutB Tryz.prog = true := by kernel_rfl
theorem good : Good1 Tryz.prog tg 3 [⟨[.sl lineT], false⟩, ⟨[.sl lineT], false⟩] := by
  intro H ivs h
  obtain ⟨v, r, rfl, ⟨c, hc, hf⟩, w, r', rfl, ⟨c', hc', hf'⟩, rfl⟩ := h
  cases hc
  cases hc'
  obtain ⟨a, h1, _⟩ := fit_lines hf
  obtain ⟨b, k1, _⟩ := fit_lines hf'
  exact ⟨H, denLo (T := tg) rfl lo3f 0 (args := [v, w]) (Nat.le_of_ble_eq_true rfl) (by rw [veneerlaw11FlatSameEq]; exact fsame_l gAw gLarge gSame gRSame gText h1 k1)⟩
set_option maxRecDepth 100000 in
theorem lifted (os : Os) (started : os.Started) (H : Type) (enc : TypeId × Value → H) :
    ReturnsInHanded {} Tryz.checked os 3 .any (Rows.flatSameSpec.pre6 enc Tryz.prog Tryz.f3 Rows.flatSameRow.domain false) (Rows.flatSameSpec.post enc Tryz.prog Tryz.f3 false true false false) := by
  refine returnsInHanded_of_change (C := Tryz.checked) own started (by kernel_rfl) Tryz.func3
    (ChangeSpec.witness6 (enc := enc) (C := Tryz.checked) false ⟨#[], #[.slice none 0 0, .slice none 0 0], []⟩ 8 (by kernel_rfl) (by kernel_rfl) (by kernel_rfl) (by kernel_rfl)) ?_
  intro W base args ds gs before hval hW hcnd _
  have hW' := hW
  obtain ⟨p, q, hA, hV, rfl, hfz, hnd⟩ := hW
  have ha : atsOf Tryz.prog 8 Tryz.f3.params.toList = some [⟨[.sl lineT], false⟩, ⟨[.sl lineT], false⟩] := by kernel_rfl
  refine (calls_good sG good hm ha (fun j t v h1 h2 => hval j t v (by simpa using h1) (by simpa using h2)) hA).mono fun e W' ⟨he, bel⟩ => ?_
  subst he
  exact ⟨_, rfl, post_same' (tb := 4) rfl rfl rfl Tryz.underlying4 (fun ds hl => by
    match ds, hl with
    | [d, e], _ => rfl) laidOut (by kernel_rfl) hW' bel⟩
theorem over : Rows.flatSameRow.holds Tryz.pinned (OpenSpec.ofChange Rows.flatSameSpec) :=
  OpenClaim.holds_of_wide 3 Tryz.f3 rfl rfl rfl rfl rfl rfl rfl ⟨rfl, rfl, rfl, rfl, rfl⟩ rfl rfl rfl rfl rfl (by kernel_rfl) Tryz.func3 (by kernel_rfl)
    (of_decide_eq_true (by kernel_rfl)) (by unfold Func.isWrapper; first | (rw [if_pos (by decide +kernel)]; kernel_rfl) | (rw [if_neg (by decide +kernel)]; exact ⟨rfl, rfl⟩))
    (fun os started H enc _ => lifted os started H enc)
theorem proved : Rows.FlatSameSaid := over
end Go.Proofs.YtmkjmfegaalcoaaGreat.flatSameDone
