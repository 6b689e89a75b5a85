/- The law ScriptEncodes, part 17. -/
import Derived.Test.YtmpdeebjhmgpgaaGreatDoorM16
import Derived.Test.YtmpdeebjhmgpgaaGreatDoorTie
import Derived.Test.YtmpdeebjhmgpgaaGreatDoorCards
import Derived.Lay
import Derived.LaidOnce
import Derived.SevenTiedAt
set_option linter.all false
namespace Go.Proofs.YtmpdeebjhmgpgaaGreatDoor.scriptEncodesDone
open Go.Shade Go.ChangeShapes Go.WideShapes Go.ChangeAt Go.RowKit
theorem own : ownKnob Tryz.prog.godebug = none := by kernel_rfl
theorem laidOut : laidOutB Tryz.prog = true := by kernel_rfl
theorem good : Good1 Tryz.prog uu 4 [⟨[.sl [.sl callT]], false⟩, ⟨[.sl [.int .u8]], false⟩] := by
  intro H ivs h
  obtain ⟨v, r, rfl, ⟨c, hc, hf⟩, w, r', rfl, ⟨c', hc', hf'⟩, rfl⟩ := h
  cases hc
  cases hc'
  obtain ⟨T, h1⟩ := fit_threads hf
  obtain ⟨bs', k1, k2, k3⟩ := fit_bytes hf'
  obtain ⟨⟨r, H'⟩, h4, h5⟩ := denWp (T := uu) rfl lo4 1001 (args := [v, w]) (H := H) (Q := fun r => r.1 = .bool true) (Nat.le_of_ble_eq_true rfl) (by rw [veneerlaw20ScriptEncodesEq]; exact encodes20_l okAwk okEnc okEnc20 (by omega) h1 k3 k1)
  simp only at h5; subst h5
  exact ⟨H', h4⟩
set_option maxRecDepth 100000 in
theorem lifted (os : Os) (started : os.Started) (H : Type) (enc : TypeId × Value → H) :
    ReturnsInHanded {} Tryz.checked os 4 .any (fun w args => (Rows.scriptEncodesSpec.pre enc Tryz.prog Tryz.f4 [] false w args ∧ laidMetH Tryz.prog Rows.scriptEncodesRow.laid w) ∧ sizedMet enc Tryz.prog Tryz.f4 (OpenSpec.ofChange Rows.scriptEncodesSpec) false w args) (Rows.scriptEncodesSpec.post enc Tryz.prog Tryz.f4 false true false false) := by
  refine returnsInHanded_of_change_and (C := Tryz.checked) (X := fun w _ => laidMetH Tryz.prog Rows.scriptEncodesRow.laid w) (fun _ _ _ hh h => h.of_heap hh) own started (by kernel_rfl) Tryz.func4
    (ChangeSpec.witness_shaped (enc := enc) (C := Tryz.checked) (os := os) (X := fun w _ => laidMetH Tryz.prog Rows.scriptEncodesRow.laid w) false (World.laidAll Tryz.prog os Rows.scriptEncodesRow.laid) #[.slice none 0 0, .slice none 0 0] 8 (World.laidAll_os _ _ _)
      (World.shaped_of_ZipB (by kernel_rfl) (by kernel_rfl)) (by kernel_rfl) (by kernel_rfl) (by kernel_rfl)
      (by rw [MakeChecks.laidMetH_plain _ _ _ (by kernel_rfl)]; exact laidMet_laidAll _ (by kernel_rfl) (by kernel_rfl))) ?_
  intro W base args ds gs before hval hW _ _ _ _
  have hW' := hW
  obtain ⟨p, q, hA, hV, rfl, hfz, hnd⟩ := hW
  have ha : atsOf Tryz.prog 8 Tryz.f4.params.toList = some [⟨[.sl [.sl callT]], false⟩, ⟨[.sl [.int .u8]], false⟩] := by kernel_rfl
  refine (calls_good vv good hm ha (fun j t v h1 h2 => hval j t v (by simpa using h1) (by simpa using h2)) hA).mono fun e W' ⟨he, bel⟩ => ?_
  subst he
  exact ⟨_, rfl, post_same' (tb := 4) rfl rfl rfl Tryz.underlying4 (fun ds hl => by
    match ds, hl with
    | [d, e], _ => rfl) laidOut (by kernel_rfl) hW' bel⟩
theorem bt {a b : Bool} (ha : a = true) (hb : b = true) : (a && b) = true := by rw [ha, hb]; rfl
theorem j0 : Rows.scriptEncodesRow.wf (OpenSpec.ofChange Rows.scriptEncodesSpec) = true := by kernel_rfl
theorem j1 : laidOutB Tryz.prog = true := by kernel_rfl
theorem j2 : mapsRowed Tryz.prog = true := by kernel_rfl
theorem j3 : Tryz.f4.params.all (Tryz.prog.readableRec ·) = true := by kernel_rfl
theorem j4 : namedTie Tryz.prog Rows.scriptEncodesRow.named Rows.scriptEncodesSpec.vars = true := by kernel_rfl
theorem j5 : (Rows.scriptEncodesRow.stops == []) = true := by kernel_rfl
theorem j6 : (Tryz.prog.stops == []) = true := by kernel_rfl
theorem j7 : (Rows.scriptEncodesRow.knobs == []) = true := by kernel_rfl
theorem j8 : (Tryz.prog.stopKnobs == []) = true := by kernel_rfl
theorem j9 : (Rows.scriptEncodesRow.inPlace == Tryz.prog.inPlace 4) = true := by kernel_rfl
theorem j10 : (Rows.scriptEncodesRow.unfollowed == Tryz.prog.unfollowed 4) = true := by kernel_rfl
theorem j11 : (Rows.scriptEncodesRow.recurses == Tryz.prog.recurses 4) = true := by kernel_rfl
theorem j12 : (Rows.scriptEncodesRow.named == Tryz.prog.varsNamed 4) = true := by kernel_rfl
theorem j13 : (Rows.scriptEncodesRow.maps == (Tryz.f4.params.toList ++ Rows.scriptEncodesSpec.plain.varTypes Tryz.prog).any (Tryz.prog.mapsRec ·)) = true := by kernel_rfl
theorem j14 : (Rows.scriptEncodesRow.ifaces == (Tryz.f4.params.toList ++ Rows.scriptEncodesSpec.plain.varTypes Tryz.prog).any (Tryz.prog.ifacesRec ·)) = true := by kernel_rfl
theorem j15 : (Rows.scriptEncodesRow.mapsOut == Tryz.prog.mapsAmong Tryz.f4.resultTypes.toList) = true := by kernel_rfl
theorem j16 : (Rows.scriptEncodesRow.loops == (Tryz.f4.params.toList ++ Rows.scriptEncodesSpec.plain.varTypes Tryz.prog).any (Tryz.prog.loopsFrom ·)) = true := by kernel_rfl
theorem j17 : (Rows.scriptEncodesRow.wideKeys == (Tryz.f4.params.toList ++ Rows.scriptEncodesSpec.plain.varTypes Tryz.prog ++ Tryz.f4.resultTypes.toList).any (Tryz.prog.wideKeysFrom ·)) = true := by kernel_rfl
theorem j18 : Rows.scriptEncodesSpec.vars.all (Tryz.prog.varReadable ·) = true := by kernel_rfl
theorem j19 : Tryz.f4.resultTypes.all (fun t => Tryz.prog.readableRec t && decide (t < Tryz.prog.types.size)) = true := by kernel_rfl
theorem j20 : (Rows.scriptEncodesRow.ifacesOut == Tryz.f4.resultTypes.toList.any (Tryz.prog.ifacesRec ·)) = true := by kernel_rfl
theorem j21 : (Rows.scriptEncodesRow.loopsOut == Tryz.f4.resultTypes.toList.any (Tryz.prog.loopsFrom ·)) = true := by kernel_rfl
theorem j22 : (Rows.scriptEncodesRow.plainKeys == Tryz.prog.plainKeys) = true := by kernel_rfl
theorem j23 : Rows.scriptEncodesRow.shortTexts.isNone = true := by kernel_rfl
theorem j24 : Tryz.prog.stopsHeard = true := by kernel_rfl
theorem j25 : Tryz.prog.mayEnter = true := by kernel_rfl
theorem j26 : (Rows.scriptEncodesRow.lifted == Tryz.prog.liftsFinal) = true := by kernel_rfl
theorem j27 : (Tryz.prog.make == some Rows.scriptEncodesRow.make) = true := by kernel_rfl
theorem j29 : (Rows.scriptEncodesRow.pinned == Rows.scriptEncodesRow.pinnedBy) = true := by kernel_rfl
theorem j30 : (Rows.scriptEncodesRow.veiled == (Tryz.f4.params.toList ++ Rows.scriptEncodesSpec.plain.varTypes Tryz.prog ++ Tryz.f4.resultTypes.toList).any (Tryz.prog.veiledRec ·)) = true := by kernel_rfl
theorem j31 : Rows.scriptEncodesRow.veiledFits Tryz.prog Tryz.f4.params.toList (Tryz.f4.params.toList ++ Rows.scriptEncodesSpec.plain.varTypes Tryz.prog ++ Tryz.f4.resultTypes.toList) = true := by kernel_rfl
theorem closed : joinedFacts Tryz.prog 4 Tryz.f4 Rows.scriptEncodesSpec Rows.scriptEncodesRow = true := by
  unfold joinedFacts
  exact (bt (bt (bt (bt (bt (bt (bt (bt (bt (bt (bt (bt (bt (bt (bt (bt (bt (bt (bt (bt (bt (bt (bt (bt (bt (bt (bt (bt (bt (bt (bt j0 j1) j2) j3) j4) j5) j6) j7) j8) j9) j10) j11) j12) j13) j14) j15) j16) j17) j18) j19) j20) j21) j22) j23) j24) j25) j26) j27) (by kernel_rfl)) j29) j30) j31)
theorem over : Rows.scriptEncodesRow.holds Tryz.pinned (OpenSpec.ofChange Rows.scriptEncodesSpec) :=
  OpenClaim.holds_of_wide 4 Tryz.f4 rfl rfl rfl rfl rfl rfl rfl ⟨rfl, rfl, rfl, rfl, rfl⟩ rfl rfl rfl rfl rfl (by kernel_rfl) Tryz.func4 closed
    (of_decide_eq_true (by kernel_rfl)) (by unfold Func.isWrapper; first | (rw [if_pos (by decide +kernel)]; kernel_rfl) | (rw [if_neg (by decide +kernel)]; exact ⟨rfl, rfl⟩))
    (fun os started H enc _ => lifted os started H enc)
theorem w0 : Rows.scriptEncodesRow.wfByText (OpenSpec.ofChange Rows.scriptEncodesSpec) = true := by kernel_rfl
theorem w1 : Tryz.prog.mainIs = some (true, "601e9abd6826068a1a6600ee56a0400b6a7d6e6cf01fbda9fbb0b55fad4c2788".toList) := by kernel_rfl
theorem w2 : true = Tryz.prog.looks [] := by kernel_rfl
theorem w3 : (Tryz.f4.params.toList.all fun u => !Tryz.prog.wantsStandIn u) = true := by kernel_rfl
theorem w4 : false = Rows.scriptEncodesRow.goesBy Tryz.prog := by kernel_rfl
theorem w5 : Tryz.prog.funcNamed "veneer/veneerlaw20.ScriptEncodes" = some 4 := by kernel_rfl
theorem w6 (f : FuncId) (fn : Func) (hf : Tryz.prog.funcNamed "veneer/veneerlaw20.ScriptEncodes" = some f) (hfn : Tryz.prog.funcs[f]? = some fn) : true = Tryz.prog.looks [] ∧ ∀ (j : Nat) t, fn.params[j]? = some t → Tryz.prog.wantsStandIn t = false := by
  obtain rfl : 4 = f := Option.some.inj (w5.symm.trans hf)
  obtain rfl : Tryz.f4 = fn := Option.some.inj (Tryz.func4.symm.trans hfn)
  exact ⟨w2, fun j t ht => by
    have hm : t ∈ Tryz.f4.params.toList := Array.mem_toList_iff.2 (Array.mem_of_getElem? ht)
    exact (show Tryz.prog.wantsStandIn t = false by simpa using List.all_eq_true.1 w3 t hm)⟩
theorem proved : Rows.ScriptEncodesCardSaid :=
  Claim7.holds_tied_plain_at .later [] [.data, .data, .data, .data, .pinned] true (true, "601e9abd6826068a1a6600ee56a0400b6a7d6e6cf01fbda9fbb0b55fad4c2788") true over (fun _ h => by cases h) w0 (fun _ h => by cases h) scriptEncodes_row_tie rfl ⟨rfl, rfl⟩ w1 rfl w6 w4
end Go.Proofs.YtmpdeebjhmgpgaaGreatDoor.scriptEncodesDone
