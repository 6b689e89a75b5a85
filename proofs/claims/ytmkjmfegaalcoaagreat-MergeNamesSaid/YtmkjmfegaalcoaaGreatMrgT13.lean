/- The law MergeNames, part 8. -/
import Derived.Test.YtmkjmfegaalcoaaGreatM7
set_option linter.all false
namespace Go.Proofs.YtmkjmfegaalcoaaGreat.mergeNamesDone
open Go.Shade Go.ChangeShapes Go.WideShapes Go.ChangeAt Go.RowKit
theorem own : ownKnob Tryz.prog.godebug = none := by kernel_rfl
theorem laidOut : laidOutB Tryz.prog = true := by kernel_rfl
theorem good : GoodW Tryz.prog 6 [⟨[.sl mactT], false⟩, ⟨[.int .i64, .int .i64], true⟩, ⟨[.str], false⟩] := by
  intro H ivs h
  obtain ⟨v, r, rfl, ⟨c, hc, hf⟩, w, r', rfl, ⟨c', rfl, hf'⟩, u, r'', rfl, ⟨c'', hc'', hf''⟩, rfl⟩ := h
  cases hc
  cases hc''
  obtain ⟨l, g1⟩ := fit_macts hf
  obtain ⟨U, L, eN⟩ := fit_node hf'
  rw [eN]
  obtain ⟨s, rfl⟩ := fit_str hf''
  obtain ⟨⟨fn, q1, q2⟩, _⟩ := lo6
  exact sim_W (sound_den ssa hm) (fun _ h => h) hm q1 q2 (Nat.le_of_ble_eq_true rfl) (names_w (N := 4000001) okAwa (okBuild tba) (okMNew tba) (okVGet tba) okVAll okPLess okVStat (by omega) g1)
set_option maxRecDepth 100000 in
theorem lifted (os : Os) (started : os.Started) (H : Type) (enc : TypeId × Value → H) :
    ReturnsInHanded {} Tryz.checked os 6 .any (Rows.mergeNamesSpec.pre6 enc Tryz.prog Tryz.f6 Rows.mergeNamesRow.domain false) (Rows.mergeNamesSpec.post enc Tryz.prog Tryz.f6 false true false false) := by
  refine returnsInHanded_of_change (C := Tryz.checked) own started (by kernel_rfl) Tryz.func6
    (ChangeSpec.witness6 (enc := enc) (C := Tryz.checked) false ⟨#[], #[.slice none 0 0, .agg #[.int .i64 0, .int .i64 0], .string ⟨#[]⟩], []⟩ 8 (by kernel_rfl) (by kernel_rfl) (by kernel_rfl) (by kernel_rfl)) ?_
  intro W base args ds gs before hval hW hcnd _
  have hW' := hW
  obtain ⟨p, q, hA, hV, rfl, hfz, hnd⟩ := hW
  have ha : atsOf Tryz.prog 8 Tryz.f6.params.toList = some [⟨[.sl mactT], false⟩, ⟨[.int .i64, .int .i64], true⟩, ⟨[.str], false⟩] := by kernel_rfl
  refine (calls_goodW good ha (fun j t v h1 h2 => hval j t v (by simpa using h1) (by simpa using h2)) hA).mono fun e W' ⟨he, bel⟩ => ?_
  subst he
  exact ⟨_, rfl, post_same' (tb := 4) rfl rfl rfl Tryz.underlying4 (fun ds hl => by
    match ds, hl with
    | [d, e, d2], _ => rfl) laidOut (by kernel_rfl) hW' bel⟩
theorem over : Rows.mergeNamesRow.holds Tryz.pinned (OpenSpec.ofChange Rows.mergeNamesSpec) :=
  OpenClaim.holds_of_wide 6 Tryz.f6 rfl rfl rfl rfl rfl rfl rfl ⟨rfl, rfl, rfl, rfl, rfl⟩ rfl rfl rfl rfl rfl (by kernel_rfl) Tryz.func6 (by kernel_rfl)
    (of_decide_eq_true (by kernel_rfl)) (by unfold Func.isWrapper; first | (rw [if_pos (by decide +kernel)]; kernel_rfl) | (rw [if_neg (by decide +kernel)]; exact ⟨rfl, rfl⟩))
    (fun os started H enc _ => lifted os started H enc)
theorem proved : Rows.MergeNamesSaid := over
end Go.Proofs.YtmkjmfegaalcoaaGreat.mergeNamesDone
