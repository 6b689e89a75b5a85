/- CALL, part 11: the table of this seat's program. -/
import Derived.Test.YtdljmmdbpngchaaRows
import Derived.Test.YtdljmmdbpngchaaCallLaw1
import Derived.Test.YtdljmmdbpngchaaShadeLaw
namespace Go.Proofs.Ytdljmmdbpngchaa
open Go.Shade
set_option linter.unusedVariables false
theorem hm : Try.prog.follows .mixedOrders = true := by kernel_rfl
theorem lo26 : LoF Try.prog 26 callWithin := ⟨⟨Try.f26, Try.func26, by kernel_rfl⟩, by kernel_rfl⟩
theorem lo16 : LoF Try.prog 16 (callMay 26) := ⟨⟨Try.f16, Try.func16, by kernel_rfl⟩, by kernel_rfl⟩
theorem lo14 : LoF Try.prog 14 (callEncode 16) := ⟨⟨Try.f14, Try.func14, by kernel_rfl⟩, by kernel_rfl⟩
theorem lo20 : LoF Try.prog 20 callDecode1 := ⟨⟨Try.f20, Try.func20, by kernel_rfl⟩, by kernel_rfl⟩
theorem lo21 : LoF Try.prog 21 callDecode2 := ⟨⟨Try.f21, Try.func21, by kernel_rfl⟩, by kernel_rfl⟩
theorem lo22 : LoF Try.prog 22 callDecode3 := ⟨⟨Try.f22, Try.func22, by kernel_rfl⟩, by kernel_rfl⟩
theorem lo11 : LoF Try.prog 11 (callDecode 20 21 22) := ⟨⟨Try.f11, Try.func11, by kernel_rfl⟩, by kernel_rfl⟩
theorem lo12 : LoF Try.prog 12 veneerlaw08Same := ⟨⟨Try.f12, Try.func12, by kernel_rfl⟩, by kernel_rfl⟩
theorem lo18 : LoF Try.prog 18 (callScript 14) := ⟨⟨Try.f18, Try.func18, by kernel_rfl⟩, by kernel_rfl⟩
theorem lo10 : LoF Try.prog 10 (veneerlaw08Awake 14 11 18 16) := ⟨⟨Try.f10, Try.func10, by kernel_rfl⟩, by kernel_rfl⟩
theorem lo5 : LoF Try.prog 5 (veneerlaw08CallTotal 10 11 16) := ⟨⟨Try.f5, Try.func5, by kernel_rfl⟩, by kernel_rfl⟩
noncomputable def t1 : Table := ext T0 26 (tab WithinR)
noncomputable def t2 : Table := ext t1 16 (tab MayR)
noncomputable def t3 : Table := ext t2 14 (tab EncR)
noncomputable def t4 : Table := ext t3 20 (tab OneR)
noncomputable def t5 : Table := ext t4 21 (tab (TwoR 20))
noncomputable def t6 : Table := ext t5 22 (tab (TextR 20))
noncomputable def t7 : Table := ext t6 11 (tab DecR)
noncomputable def t8 : Table := ext t7 12 (tab SameR)
noncomputable def t9 : Table := ext t8 18 (tab ScriptR)
def AwakeR : RelT := fun args H x => args = [] ∧ x = (.bool true, H)
noncomputable def t10 : Table := ext t9 10 (tab AwakeR)
theorem s1 : SoundT Try.prog t1 := soundExt (soundT0 _) fun args H r H' h => simWithin (soundT0 _) hm rfl lo26 args H (r, H') (tab_some h)
theorem s2 : SoundT Try.prog t2 := soundExt s1 fun args H r H' h => simMay s1 hm rfl rfl lo16 args H (r, H') (tab_some h)
theorem s3 : SoundT Try.prog t3 := soundExt s2 fun args H r H' h => simEnc s2 hm rfl rfl lo14 args H (r, H') (tab_some h)
theorem s4 : SoundT Try.prog t4 := soundExt s3 fun args H r H' h => simOne s3 hm rfl lo20 args H (r, H') (tab_some h)
theorem s5 : SoundT Try.prog t5 := soundExt s4 fun args H r H' h => simTwo s4 hm lo20.2 rfl rfl lo21 args H (r, H') (tab_some h)
theorem s6 : SoundT Try.prog t6 := soundExt s5 fun args H r H' h => simText s5 hm lo20.2 rfl rfl lo22 args H (r, H') (tab_some h)
theorem s7 : SoundT Try.prog t7 := soundExt s6 fun args H r H' h => simDec s6 hm lo20.2 lo21.2 lo22.2 rfl rfl rfl rfl lo11 args H (r, H') (tab_some h)
theorem s8 : SoundT Try.prog t8 := soundExt s7 fun args H r H' h => simSame s7 hm rfl lo12 args H (r, H') (tab_some h)
theorem s9 : SoundT Try.prog t9 := soundExt s8 fun args H r H' h => simScript s8 hm rfl rfl lo18 args H (r, H') (tab_some h)
theorem simAwake : ∀ args H x, AwakeR args H x → SimCall Try.prog 10 args H x.1 x.2 := by
  rintro args H x ⟨rfl, rfl⟩
  obtain ⟨X, h⟩ := awake_s (cal := callable Try.prog) (N := 0) (okEnc (P := Try.prog) (T := t9) (f := 14) rfl) (okDec (f := 11) rfl) (okScript (f := 18) rfl) (okMay (f := 16) rfl) H
  exact (simOf s9 hm rfl lo10 0 (args := []) (Nat.le_of_ble_eq_true rfl) (by rw [veneerlaw08AwakeEq]; exact h)).drop (fun i o hi => by rw [List.getElem?_append_left (List.getElem?_eq_some_iff.1 hi).1]; exact hi) rfl
theorem s10 : SoundT Try.prog t10 := soundExt s9 fun args H r H' h => simAwake args H (r, H') (tab_some h)
theorem okAwake : AwakeOk (den Try.prog t10) 10 := fun H => den_tab (S := AwakeR) rfl (fun x y ⟨_, h⟩ ⟨_, k⟩ => by rw [h, k]) ⟨rfl, rfl⟩
end Go.Proofs.Ytdljmmdbpngchaa
