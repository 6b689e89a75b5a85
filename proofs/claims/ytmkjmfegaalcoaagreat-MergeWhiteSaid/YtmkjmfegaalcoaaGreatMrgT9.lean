/- The law MergeWhite, part 8. -/
import Derived.Test.YtmkjmfegaalcoaaGreatM7
set_option linter.all false
namespace Go.Proofs.YtmkjmfegaalcoaaGreat.mergeWhiteDone
open Go.Shade Go.ChangeShapes Go.WideShapes Go.ChangeAt Go.RowKit
theorem own : ownKnob Tryz.prog.godebug = none := by kernel_rfl
theorem laidOut : laidOutB Tryz.prog = true := by kernel_rfl
theorem good : Good1 Tryz.prog ta 9 [⟨[.sl mactT], false⟩, ⟨[.str], false⟩] := by
  intro H ivs h
  obtain ⟨v, r, rfl, ⟨c, hc, hf⟩, u, r'', rfl, ⟨c'', hc'', hf''⟩, rfl⟩ := h
  cases hc
  cases hc''
  obtain ⟨l, g1⟩ := fit_macts hf
  obtain ⟨s, rfl⟩ := fit_str hf''
  obtain ⟨⟨r, H'⟩, h4, h5⟩ := denWp (tba.non 9 rfl) lo9 4000001 (args := [v, .str s]) (H := H) (Q := fun r => r.1 = .bool true) (Nat.le_of_ble_eq_true rfl) (by rw [Go.Shade.veneerlaw10MergeWhiteEq]; exact white_l okAwa (okBuild tba) (okMNew tba) (okVRoot tba) okVAll (okBMake tba) (okNSame tba) (okBUnl tba) (by omega) g1)
  simp only at h5; subst h5
  exact ⟨H', h4⟩
set_option maxRecDepth 100000 in
theorem lifted (os : Os) (started : os.Started) (H : Type) (enc : TypeId × Value → H) :
    ReturnsInHanded {} Tryz.checked os 9 .any (Rows.mergeWhiteSpec.pre6 enc Tryz.prog Tryz.f9 Rows.mergeWhiteRow.domain false) (Rows.mergeWhiteSpec.post enc Tryz.prog Tryz.f9 false true false false) := by
  refine returnsInHanded_of_change (C := Tryz.checked) own started (by kernel_rfl) Tryz.func9
    (ChangeSpec.witness6 (enc := enc) (C := Tryz.checked) false ⟨#[], #[.slice none 0 0, .string ⟨#[]⟩], []⟩ 8 (by kernel_rfl) (by kernel_rfl) (by kernel_rfl) (by kernel_rfl)) ?_
  intro W base args ds gs before hval hW hcnd _
  have hW' := hW
  obtain ⟨p, q, hA, hV, rfl, hfz, hnd⟩ := hW
  have ha : atsOf Tryz.prog 8 Tryz.f9.params.toList = some [⟨[.sl mactT], false⟩, ⟨[.str], false⟩] := by kernel_rfl
  refine (calls_good ssa good hm ha (fun j t v h1 h2 => hval j t v (by simpa using h1) (by simpa using h2)) hA).mono fun e W' ⟨he, bel⟩ => ?_
  subst he
  exact ⟨_, rfl, post_same' (tb := 4) rfl rfl rfl Tryz.underlying4 (fun ds hl => by
    match ds, hl with
    | [d, e], _ => rfl) laidOut (by kernel_rfl) hW' bel⟩
theorem over : Rows.mergeWhiteRow.holds Tryz.pinned (OpenSpec.ofChange Rows.mergeWhiteSpec) :=
  OpenClaim.holds_of_wide 9 Tryz.f9 rfl rfl rfl rfl rfl rfl rfl ⟨rfl, rfl, rfl, rfl, rfl⟩ rfl rfl rfl rfl rfl (by kernel_rfl) Tryz.func9 (by kernel_rfl)
    (of_decide_eq_true (by kernel_rfl)) (by unfold Func.isWrapper; first | (rw [if_pos (by decide +kernel)]; kernel_rfl) | (rw [if_neg (by decide +kernel)]; exact ⟨rfl, rfl⟩))
    (fun os started H enc _ => lifted os started H enc)
theorem proved : Rows.MergeWhiteSaid := over
end Go.Proofs.YtmkjmfegaalcoaaGreat.mergeWhiteDone
