/- The law MergeAsks, part 8. -/
import Derived.Test.YtmkjmfegaalcoaaGreatM7
set_option linter.all false
namespace Go.Proofs.YtmkjmfegaalcoaaGreat.mergeAsksDone
open Go.Shade Go.ChangeShapes Go.WideShapes Go.ChangeAt Go.RowKit
theorem own : ownKnob Tryz.prog.godebug = none := by kernel_rfl
theorem laidOut : laidOutB Tryz.prog = true := by kernel_rfl
theorem good : Good1 Tryz.prog ta 12 [⟨[.sl mactT], false⟩, ⟨[.int .i64, .int .i64], true⟩, ⟨[.str], false⟩] := by
  intro H ivs h
  obtain ⟨v, r, rfl, ⟨c, hc, hf⟩, w, r', rfl, ⟨c', rfl, hf'⟩, u, r'', rfl, ⟨c'', hc'', hf''⟩, rfl⟩ := h
  cases hc
  cases hc''
  obtain ⟨l, g1⟩ := fit_macts hf
  obtain ⟨U, L, eN⟩ := fit_node hf'
  rw [eN]
  obtain ⟨s, rfl⟩ := fit_str hf''
  obtain ⟨⟨r, H'⟩, h4, h5⟩ := denWp (tba.non 12 rfl) lo12 4000001 (args := [v, nodV U L, .str s]) (H := H) (Q := fun r => r.1 = .bool true) (Nat.le_of_ble_eq_true rfl) (by rw [Go.Shade.veneerlaw10MergeAsksEq]; exact asks_l okAwa (okBuild tba) (okMNew tba) (okInodes tba) (okVGet tba) okVAll okVStat (by omega) g1)
  simp only at h5; subst h5
  exact ⟨H', h4⟩
set_option maxRecDepth 100000 in
theorem lifted (os : Os) (started : os.Started) (H : Type) (enc : TypeId × Value → H) :
    ReturnsInHanded {} Tryz.checked os 12 .any (Rows.mergeAsksSpec.pre6 enc Tryz.prog Tryz.f12 Rows.mergeAsksRow.domain false) (Rows.mergeAsksSpec.post enc Tryz.prog Tryz.f12 false true false false) := by
  refine returnsInHanded_of_change (C := Tryz.checked) own started (by kernel_rfl) Tryz.func12
    (ChangeSpec.witness6 (enc := enc) (C := Tryz.checked) false ⟨#[], #[.slice none 0 0, .agg #[.int .i64 0, .int .i64 0], .string ⟨#[]⟩], []⟩ 8 (by kernel_rfl) (by kernel_rfl) (by kernel_rfl) (by kernel_rfl)) ?_
  intro W base args ds gs before hval hW hcnd _
  have hW' := hW
  obtain ⟨p, q, hA, hV, rfl, hfz, hnd⟩ := hW
  have ha : atsOf Tryz.prog 8 Tryz.f12.params.toList = some [⟨[.sl mactT], false⟩, ⟨[.int .i64, .int .i64], true⟩, ⟨[.str], false⟩] := by kernel_rfl
  refine (calls_good ssa good hm ha (fun j t v h1 h2 => hval j t v (by simpa using h1) (by simpa using h2)) hA).mono fun e W' ⟨he, bel⟩ => ?_
  subst he
  exact ⟨_, rfl, post_same' (tb := 4) rfl rfl rfl Tryz.underlying4 (fun ds hl => by
    match ds, hl with
    | [d, e, d2], _ => rfl) laidOut (by kernel_rfl) hW' bel⟩
theorem over : Rows.mergeAsksRow.holds Tryz.pinned (OpenSpec.ofChange Rows.mergeAsksSpec) :=
  OpenClaim.holds_of_wide 12 Tryz.f12 rfl rfl rfl rfl rfl rfl rfl ⟨rfl, rfl, rfl, rfl, rfl⟩ rfl rfl rfl rfl rfl (by kernel_rfl) Tryz.func12 (by kernel_rfl)
    (of_decide_eq_true (by kernel_rfl)) (by unfold Func.isWrapper; first | (rw [if_pos (by decide +kernel)]; kernel_rfl) | (rw [if_neg (by decide +kernel)]; exact ⟨rfl, rfl⟩))
    (fun os started H enc _ => lifted os started H enc)
theorem proved : Rows.MergeAsksSaid := over
end Go.Proofs.YtmkjmfegaalcoaaGreat.mergeAsksDone
