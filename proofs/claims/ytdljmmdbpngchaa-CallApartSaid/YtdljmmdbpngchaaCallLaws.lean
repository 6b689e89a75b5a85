/- CALL, part 2: the laws' own low code. Printed by gen.py. -/
import Derived.Test.YtdljmmdbpngchaaShadeK
import Derived.KernelRfl
namespace Go.Shade
set_option linter.unusedVariables false

def veneerlaw08Awake (cCallEncode cCallDecode cCallScript cCallMay : FuncId) : LFun := ⟨(.seq (.reg [
    ⟨(some 0), (.mv (.k (.bool false))), none⟩])
  (.seq (.reg [
    ⟨(some 10), (.bld [(.int .i64 0), (.int .i64 0), (.int .i64 0), (.int .i64 0), (.int .i64 0), (.str []), (.str [])] [(0, (1, (.k (.int .i64 2)))), (5, (1, (.k (.str [97]))))]), none⟩,
    ⟨(some 11), (.callF cCallEncode [(.t 10)]), none⟩,
    ⟨(some 9), (.mv (.t 11)), none⟩,
    ⟨(some 12), (.ext (.t 9) 0), none⟩,
    ⟨(some 13), (.ext (.t 9) 1), none⟩,
    ⟨(some 1), (.mv (.t 12)), none⟩,
    ⟨(some 2), (.mv (.t 13)), none⟩])
  (.seq (.reg [
    ⟨(some 14), (.mv (.t 1)), none⟩,
    ⟨(some 15), (.callF cCallDecode [(.t 14)]), none⟩,
    ⟨(some 3), (.mv (.t 15)), none⟩])
  (.seq (.reg [
    ⟨(some 17), (.bld [(.int .i64 0), (.int .i64 0), (.int .i64 0), (.int .i64 0), (.int .i64 0), (.str []), (.str [])] []), none⟩,
    ⟨(some 18), (.callF cCallEncode [(.t 17)]), none⟩,
    ⟨(some 16), (.mv (.t 18)), none⟩,
    ⟨(some 19), (.ext (.t 16) 0), none⟩,
    ⟨(some 20), (.ext (.t 16) 1), none⟩,
    ⟨(some 4), (.mv (.t 19)), none⟩,
    ⟨(some 5), (.mv (.t 20)), none⟩])
  (.seq (.reg [
    ⟨(some 22), (.mv (.t 3)), none⟩,
    ⟨(some 23), (.callF cCallScript [(.t 22)]), none⟩,
    ⟨(some 21), (.mv (.t 23)), none⟩,
    ⟨(some 24), (.ext (.t 21) 0), none⟩,
    ⟨(some 25), (.ext (.t 21) 1), none⟩,
    ⟨(some 6), (.mv (.t 24)), none⟩,
    ⟨(some 7), (.mv (.t 25)), none⟩])
  (.seq (.reg [
    ⟨(some 26), (.bldS 1 1 [(.int .u8 0)] [(0, (.k (.int .u8 20)))]), none⟩,
    ⟨(some 27), (.callF cCallDecode [(.t 26)]), none⟩,
    ⟨(some 8), (.mv (.t 27)), none⟩])
  (.seq (.reg [
    ⟨(some 28), (.mv (.t 1)), none⟩,
    ⟨(some 29), (.b2s (.t 28)), none⟩,
    ⟨(some 30), (.bin .eql (.t 29) (.k (.str [1, 4, 0, 1, 0, 1, 0, 1, 97, 0]))), none⟩,
    ⟨(some 31), (.mv (.t 30)), none⟩,
    ⟨(some 32), (.mv (.t 2)), (some (31, true))⟩,
    ⟨(some 33), (.bin .eql (.t 32) (.k (.int .i64 0))), (some (31, true))⟩,
    ⟨(some 34), (.pick (.t 31) (.t 33) (.k (.bool false))), none⟩,
    ⟨(some 35), (.mv (.t 34)), none⟩,
    ⟨(some 36), (.mv (.t 3)), (some (35, true))⟩,
    ⟨(some 37), (.len .slice (.t 36)), (some (35, true))⟩,
    ⟨(some 38), (.bin .eql (.t 37) (.k (.int .i64 1))), (some (35, true))⟩,
    ⟨(some 39), (.pick (.t 35) (.t 38) (.k (.bool false))), none⟩,
    ⟨(some 40), (.mv (.t 39)), none⟩,
    ⟨(some 41), (.mv (.t 3)), (some (40, true))⟩,
    ⟨(some 42), (.ix 7 (.t 41) (.k (.int .i64 0))), (some (40, true))⟩,
    ⟨(some 43), (.ldn 7 (.t 42)), (some (40, true))⟩,
    ⟨(some 44), (.bld [(.int .i64 0), (.int .i64 0), (.int .i64 0), (.int .i64 0), (.int .i64 0), (.str []), (.str [])] [(0, (1, (.k (.int .i64 2)))), (5, (1, (.k (.str [97]))))]), (some (40, true))⟩,
    ⟨(some 45), (.eqv false (.struct [(0, .int), (1, .int), (2, .int), (3, .int), (4, .int), (5, .str), (6, .str)]) (.t 43) (.t 44)), (some (40, true))⟩,
    ⟨(some 46), (.pick (.t 40) (.t 45) (.k (.bool false))), none⟩,
    ⟨(some 47), (.mv (.t 46)), none⟩,
    ⟨(some 48), (.mv (.t 5)), (some (47, true))⟩,
    ⟨(some 49), (.bin .eql (.t 48) (.k (.int .i64 22))), (some (47, true))⟩,
    ⟨(some 50), (.pick (.t 47) (.t 49) (.k (.bool false))), none⟩,
    ⟨(some 51), (.mv (.t 50)), none⟩,
    ⟨(some 52), (.mv (.t 6)), (some (51, true))⟩,
    ⟨(some 53), (.b2s (.t 52)), (some (51, true))⟩,
    ⟨(some 54), (.mv (.t 1)), (some (51, true))⟩,
    ⟨(some 55), (.b2s (.t 54)), (some (51, true))⟩,
    ⟨(some 56), (.bin .eql (.t 53) (.t 55)), (some (51, true))⟩,
    ⟨(some 57), (.pick (.t 51) (.t 56) (.k (.bool false))), none⟩,
    ⟨(some 58), (.mv (.t 57)), none⟩,
    ⟨(some 59), (.mv (.t 7)), (some (58, true))⟩,
    ⟨(some 60), (.bin .eql (.t 59) (.k (.int .i64 0))), (some (58, true))⟩,
    ⟨(some 61), (.pick (.t 58) (.t 60) (.k (.bool false))), none⟩,
    ⟨(some 62), (.mv (.t 61)), none⟩,
    ⟨(some 63), (.mv (.t 8)), (some (62, true))⟩,
    ⟨(some 64), (.len .slice (.t 63)), (some (62, true))⟩,
    ⟨(some 65), (.bin .eql (.t 64) (.k (.int .i64 1))), (some (62, true))⟩,
    ⟨(some 66), (.pick (.t 62) (.t 65) (.k (.bool false))), none⟩,
    ⟨(some 67), (.mv (.t 66)), none⟩,
    ⟨(some 68), (.mv (.t 8)), (some (67, true))⟩,
    ⟨(some 69), (.ix 7 (.t 68) (.k (.int .i64 0))), (some (67, true))⟩,
    ⟨(some 70), (.ldn 7 (.t 69)), (some (67, true))⟩,
    ⟨(some 71), (.bld [(.int .i64 0), (.int .i64 0), (.int .i64 0), (.int .i64 0), (.int .i64 0), (.str []), (.str [])] [(0, (1, (.k (.int .i64 1)))), (1, (1, (.k (.int .i64 (-4))))), (3, (1, (.k (.int .i64 (-256))))), (4, (1, (.k (.int .i64 (-256)))))]), (some (67, true))⟩,
    ⟨(some 72), (.eqv false (.struct [(0, .int), (1, .int), (2, .int), (3, .int), (4, .int), (5, .str), (6, .str)]) (.t 70) (.t 71)), (some (67, true))⟩,
    ⟨(some 73), (.pick (.t 67) (.t 72) (.k (.bool false))), none⟩,
    ⟨(some 74), (.mv (.t 73)), none⟩,
    ⟨(some 75), (.mv (.t 3)), (some (74, true))⟩,
    ⟨(some 76), (.ix 7 (.t 75) (.k (.int .i64 0))), (some (74, true))⟩,
    ⟨(some 77), (.ldn 7 (.t 76)), (some (74, true))⟩,
    ⟨(some 78), (.callF cCallMay [(.t 77)]), (some (74, true))⟩,
    ⟨(some 79), (.pick (.t 74) (.t 78) (.k (.bool false))), none⟩,
    ⟨(some 0), (.mv (.t 79)), none⟩])
  .ret))))))), [(.tmp 0)], 80⟩
def veneerlaw08AwakeS (cal : FuncId → Bool) (φ : Oracle) (N : Nat) (cCallEncode cCallDecode cCallScript cCallMay : FuncId) (H : Heap) : Option (IV × Heap) :=
    ob (lbld [(.int .i64 0), (.int .i64 0), (.int .i64 0), (.int .i64 0), (.int .i64 0), (.str []), (.str [])] [(0, 1, (.int .i64 2)), (5, 1, (.str [97]))]) fun t1 =>
    ob (φ cCallEncode [t1] H) fun r2 =>
    ob (iextract r2.1 0) fun t3 =>
    ob (iextract r2.1 1) fun t4 =>
    ob (φ cCallDecode [t3] r2.2) fun r5 =>
    ob (lbld [(.int .i64 0), (.int .i64 0), (.int .i64 0), (.int .i64 0), (.int .i64 0), (.str []), (.str [])] []) fun t6 =>
    ob (φ cCallEncode [t6] r5.2) fun r7 =>
    ob (iextract r7.1 0) fun t8 =>
    ob (iextract r7.1 1) fun t9 =>
    ob (φ cCallScript [r5.1] r7.2) fun r10 =>
    ob (iextract r10.1 0) fun t11 =>
    ob (iextract r10.1 1) fun t12 =>
    ob (lbldS r10.2 1 1 [(.int .u8 0)] [(0, (.int .u8 20))]) fun r13 =>
    ob (φ cCallDecode [r13.1] r13.2) fun r14 =>
    ob (lb2s r14.2 t3) fun t15 =>
    ob (lbin .eql t15 (.str [1, 4, 0, 1, 0, 1, 0, 1, 97, 0])) fun t16 =>
    ob (gq (isB t16 true) (some t4)) fun t17 =>
    ob (gq (isB t16 true) (lbin .eql t17 (.int .i64 0))) fun t18 =>
    ob (lpick t16 t18 (.bool false)) fun t19 =>
    ob (gq (isB t19 true) (some r5.1)) fun t20 =>
    ob (gq (isB t19 true) (llen r14.2 .slice t20)) fun t21 =>
    ob (gq (isB t19 true) (lbin .eql t21 (.int .i64 1))) fun t22 =>
    ob (lpick t19 t22 (.bool false)) fun t23 =>
    ob (gq (isB t23 true) (some r5.1)) fun t24 =>
    ob (gq (isB t23 true) (lix 7 t24 (.int .i64 0))) fun t25 =>
    ob (gq (isB t23 true) (lloadn r14.2 7 t25)) fun t26 =>
    ob (gq (isB t23 true) (lbld [(.int .i64 0), (.int .i64 0), (.int .i64 0), (.int .i64 0), (.int .i64 0), (.str []), (.str [])] [(0, 1, (.int .i64 2)), (5, 1, (.str [97]))])) fun t27 =>
    ob (gq (isB t23 true) (leqv false (leq (.struct [(0, .int), (1, .int), (2, .int), (3, .int), (4, .int), (5, .str), (6, .str)]) t26 t27))) fun t28 =>
    ob (lpick t23 t28 (.bool false)) fun t29 =>
    ob (gq (isB t29 true) (some t9)) fun t30 =>
    ob (gq (isB t29 true) (lbin .eql t30 (.int .i64 22))) fun t31 =>
    ob (lpick t29 t31 (.bool false)) fun t32 =>
    ob (gq (isB t32 true) (some t11)) fun t33 =>
    ob (gq (isB t32 true) (lb2s r14.2 t33)) fun t34 =>
    ob (gq (isB t32 true) (some t3)) fun t35 =>
    ob (gq (isB t32 true) (lb2s r14.2 t35)) fun t36 =>
    ob (gq (isB t32 true) (lbin .eql t34 t36)) fun t37 =>
    ob (lpick t32 t37 (.bool false)) fun t38 =>
    ob (gq (isB t38 true) (some t12)) fun t39 =>
    ob (gq (isB t38 true) (lbin .eql t39 (.int .i64 0))) fun t40 =>
    ob (lpick t38 t40 (.bool false)) fun t41 =>
    ob (gq (isB t41 true) (some r14.1)) fun t42 =>
    ob (gq (isB t41 true) (llen r14.2 .slice t42)) fun t43 =>
    ob (gq (isB t41 true) (lbin .eql t43 (.int .i64 1))) fun t44 =>
    ob (lpick t41 t44 (.bool false)) fun t45 =>
    ob (gq (isB t45 true) (some r14.1)) fun t46 =>
    ob (gq (isB t45 true) (lix 7 t46 (.int .i64 0))) fun t47 =>
    ob (gq (isB t45 true) (lloadn r14.2 7 t47)) fun t48 =>
    ob (gq (isB t45 true) (lbld [(.int .i64 0), (.int .i64 0), (.int .i64 0), (.int .i64 0), (.int .i64 0), (.str []), (.str [])] [(0, 1, (.int .i64 1)), (1, 1, (.int .i64 (-4))), (3, 1, (.int .i64 (-256))), (4, 1, (.int .i64 (-256)))])) fun t49 =>
    ob (gq (isB t45 true) (leqv false (leq (.struct [(0, .int), (1, .int), (2, .int), (3, .int), (4, .int), (5, .str), (6, .str)]) t48 t49))) fun t50 =>
    ob (lpick t45 t50 (.bool false)) fun t51 =>
    ob (gq (isB t51 true) (some r5.1)) fun t52 =>
    ob (gq (isB t51 true) (lix 7 t52 (.int .i64 0))) fun t53 =>
    ob (gq (isB t51 true) (lloadn r14.2 7 t53)) fun t54 =>
    ob (ge (isB t51 true) r14.2 (φ cCallMay [t54] r14.2)) fun r55 =>
    ob (lpick t51 r55.1 (.bool false)) fun t56 =>
    some (t56, r55.2)
theorem veneerlaw08AwakeEq (cal : FuncId → Bool) (φ : Oracle) (N : Nat) (cCallEncode cCallDecode cCallScript cCallMay : FuncId) (H : Heap) : lrunK cal φ N (veneerlaw08Awake cCallEncode cCallDecode cCallScript cCallMay) [] H = veneerlaw08AwakeS cal φ N cCallEncode cCallDecode cCallScript cCallMay H := by
  kernel_rfl

def veneerlaw08CallDecodes (cVeneerlaw08Awake cCallDecode cVeneerref08Decode cVeneerlaw08Same : FuncId) : LFun := ⟨(.seq (.reg [
    ⟨(some 2), (.mv (.k (.bool false))), none⟩])
  (.seq (.seq (.reg [
    ⟨(some 5), (.callF cVeneerlaw08Awake []), none⟩,
    ⟨(some 6), (.un .not (.t 5)), none⟩])
  (.cond (.t 6) (.seq (.reg [
    ⟨(some 2), (.mv (.k (.bool false))), none⟩])
  .ret)
  .skip))
  (.seq (.seq (.reg [
    ⟨(some 7), (.mv (.t 0)), none⟩,
    ⟨(some 8), (.len .slice (.t 7)), none⟩,
    ⟨(some 9), (.bin .gtr (.t 8) (.k (.int .i64 65536))), none⟩])
  (.cond (.t 9) (.seq (.reg [
    ⟨(some 2), (.mv (.k (.bool true))), none⟩])
  .ret)
  .skip))
  (.seq (.reg [
    ⟨(some 10), (.bldS 1 0 [(.int .u8 0)] []), none⟩,
    ⟨(some 11), (.mv (.t 0)), none⟩,
    ⟨(some 12), (.app 1 1 (.t 10) (.t 11)), none⟩,
    ⟨(some 3), (.mv (.t 12)), none⟩])
  (.seq (.reg [
    ⟨(some 13), (.mv (.t 3)), none⟩,
    ⟨(some 14), (.callF cCallDecode [(.t 13)]), none⟩,
    ⟨(some 4), (.mv (.t 14)), none⟩])
  (.seq (.reg [
    ⟨(some 15), (.mv (.t 4)), none⟩,
    ⟨(some 16), (.mv (.t 0)), none⟩,
    ⟨(some 17), (.callF cVeneerref08Decode [(.t 16)]), none⟩,
    ⟨(some 18), (.callF cVeneerlaw08Same [(.t 15), (.t 17)]), none⟩,
    ⟨(some 19), (.mv (.t 18)), none⟩,
    ⟨(some 20), (.mv (.t 3)), (some (19, true))⟩,
    ⟨(some 21), (.b2s (.t 20)), (some (19, true))⟩,
    ⟨(some 22), (.mv (.t 0)), (some (19, true))⟩,
    ⟨(some 23), (.b2s (.t 22)), (some (19, true))⟩,
    ⟨(some 24), (.bin .eql (.t 21) (.t 23)), (some (19, true))⟩,
    ⟨(some 25), (.pick (.t 19) (.t 24) (.k (.bool false))), none⟩,
    ⟨(some 2), (.mv (.t 25)), none⟩])
  .ret)))))), [(.tmp 2)], 26⟩
def veneerlaw08CallDecodesS (cal : FuncId → Bool) (φ : Oracle) (N : Nat) (cVeneerlaw08Awake cCallDecode cVeneerref08Decode cVeneerlaw08Same : FuncId) (v0 : IV) (H : Heap) : Option (IV × Heap) :=
    ob (φ cVeneerlaw08Awake [] H) fun r1 =>
    ob (iun .not r1.1) fun t2 =>
    cnd t2
    (some ((.bool false), r1.2))
    (ob (llen r1.2 .slice v0) fun t3 =>
    ob (lbin .gtr t3 (.int .i64 65536)) fun t4 =>
    cnd t4
    (some ((.bool true), r1.2))
    (ob (lbldS r1.2 1 0 [(.int .u8 0)] []) fun r5 =>
    ob (lapp r5.2 1 1 r5.1 v0) fun r6 =>
    ob (φ cCallDecode [r6.1] r6.2) fun r7 =>
    ob (φ cVeneerref08Decode [v0] r7.2) fun r8 =>
    ob (φ cVeneerlaw08Same [r7.1, r8.1] r8.2) fun r9 =>
    ob (gq (isB r9.1 true) (some r6.1)) fun t10 =>
    ob (gq (isB r9.1 true) (lb2s r9.2 t10)) fun t11 =>
    ob (gq (isB r9.1 true) (some v0)) fun t12 =>
    ob (gq (isB r9.1 true) (lb2s r9.2 t12)) fun t13 =>
    ob (gq (isB r9.1 true) (lbin .eql t11 t13)) fun t14 =>
    ob (lpick r9.1 t14 (.bool false)) fun t15 =>
    some (t15, r9.2)))
theorem veneerlaw08CallDecodesEq (cal : FuncId → Bool) (φ : Oracle) (N : Nat) (cVeneerlaw08Awake cCallDecode cVeneerref08Decode cVeneerlaw08Same : FuncId) (v0 : IV) (H : Heap) : lrunK cal φ N (veneerlaw08CallDecodes cVeneerlaw08Awake cCallDecode cVeneerref08Decode cVeneerlaw08Same) [v0] H = veneerlaw08CallDecodesS cal φ N cVeneerlaw08Awake cCallDecode cVeneerref08Decode cVeneerlaw08Same v0 H := by
  kernel_rfl

def veneerlaw08CallEncodesC0 (cVeneerlaw08Awake cCallEncode cVeneerref08Encode cCallMay cVeneerref08May cCallScript cVeneerref08Script : FuncId) : LC := .loop (.seq (.reg [
    ⟨(some 20), (.bin .lss (.t 19) (.t 18)), none⟩])
  (.seq (.cond (.t 20) .skip
  (.exit 0))
  (.seq (.block 1 (.seq (.reg [
    ⟨(some 21), (.mv (.t 19)), none⟩,
    ⟨(some 3), (.mv (.t 21)), none⟩])
  (.seq (.reg [
    ⟨(some 23), (.mv (.t 0)), none⟩,
    ⟨(some 24), (.mv (.t 3)), none⟩,
    ⟨(some 25), (.ix 7 (.t 23) (.t 24)), none⟩,
    ⟨(some 26), (.ldn 7 (.t 25)), none⟩,
    ⟨(some 27), (.callF cCallEncode [(.t 26)]), none⟩,
    ⟨(some 22), (.mv (.t 27)), none⟩,
    ⟨(some 28), (.ext (.t 22) 0), none⟩,
    ⟨(some 29), (.ext (.t 22) 1), none⟩,
    ⟨(some 4), (.mv (.t 28)), none⟩,
    ⟨(some 5), (.mv (.t 29)), none⟩])
  (.seq (.reg [
    ⟨(some 31), (.mv (.t 0)), none⟩,
    ⟨(some 32), (.mv (.t 3)), none⟩,
    ⟨(some 33), (.ix 7 (.t 31) (.t 32)), none⟩,
    ⟨(some 34), (.ldn 7 (.t 33)), none⟩,
    ⟨(some 35), (.callF cVeneerref08Encode [(.t 34)]), none⟩,
    ⟨(some 30), (.mv (.t 35)), none⟩,
    ⟨(some 36), (.ext (.t 30) 0), none⟩,
    ⟨(some 37), (.ext (.t 30) 1), none⟩,
    ⟨(some 6), (.mv (.t 36)), none⟩,
    ⟨(some 7), (.mv (.t 37)), none⟩])
  (.seq (.drw [
    ⟨(some 38), (.mv (.t 4)), none⟩,
    ⟨(some 39), (.b2s (.t 38)), none⟩,
    ⟨(some 40), (.mv (.t 6)), none⟩,
    ⟨(some 41), (.b2s (.t 40)), none⟩,
    ⟨(some 42), (.bin .neq (.t 39) (.t 41)), none⟩,
    ⟨(some 43), (.mv (.t 42)), none⟩,
    ⟨(some 44), (.mv (.t 5)), (some (43, false))⟩,
    ⟨(some 45), (.mv (.t 7)), (some (43, false))⟩,
    ⟨(some 46), (.bin .neq (.t 44) (.t 45)), (some (43, false))⟩,
    ⟨(some 47), (.pick (.t 43) (.k (.bool true)) (.t 46)), none⟩,
    ⟨(some 48), (.mv (.t 47)), none⟩,
    ⟨(some 49), (.mv (.t 0)), (some (48, false))⟩,
    ⟨(some 50), (.mv (.t 3)), (some (48, false))⟩,
    ⟨(some 51), (.ix 7 (.t 49) (.t 50)), (some (48, false))⟩,
    ⟨(some 52), (.ldn 7 (.t 51)), (some (48, false))⟩,
    ⟨(some 53), (.callF cCallMay [(.t 52)]), (some (48, false))⟩,
    ⟨(some 54), (.mv (.t 0)), (some (48, false))⟩,
    ⟨(some 55), (.mv (.t 3)), (some (48, false))⟩,
    ⟨(some 56), (.ix 7 (.t 54) (.t 55)), (some (48, false))⟩,
    ⟨(some 57), (.ldn 7 (.t 56)), (some (48, false))⟩,
    ⟨(some 58), (.callF cVeneerref08May [(.t 57)]), (some (48, false))⟩,
    ⟨(some 59), (.eqv true .bool (.t 53) (.t 58)), (some (48, false))⟩,
    ⟨(some 60), (.pick (.t 48) (.k (.bool true)) (.t 59)), none⟩] [(19, 15)])
  (.cond (.t 60) (.seq (.reg [
    ⟨(some 2), (.mv (.k (.bool false))), none⟩])
  .ret)
  .skip))))))
  (.reg [
    ⟨(some 61), (.bin .add (.t 19) (.k (.int .i64 1))), none⟩,
    ⟨(some 19), (.mv (.t 61)), none⟩]))))
def veneerlaw08CallEncodesC1 (cVeneerlaw08Awake cCallEncode cVeneerref08Encode cCallMay cVeneerref08May cCallScript cVeneerref08Script : FuncId) : LC := .block 0 (veneerlaw08CallEncodesC0 cVeneerlaw08Awake cCallEncode cVeneerref08Encode cCallMay cVeneerref08May cCallScript cVeneerref08Script)
def veneerlaw08CallEncodesC2 (cVeneerlaw08Awake cCallEncode cVeneerref08Encode cCallMay cVeneerref08May cCallScript cVeneerref08Script : FuncId) : LC := .seq (.reg [
    ⟨(some 17), (.mv (.t 0)), none⟩,
    ⟨(some 18), (.len .slice (.t 17)), none⟩,
    ⟨(some 19), (.mv (.k (.int .i64 0))), none⟩]) (veneerlaw08CallEncodesC1 cVeneerlaw08Awake cCallEncode cVeneerref08Encode cCallMay cVeneerref08May cCallScript cVeneerref08Script)
def veneerlaw08CallEncodesC3 (cVeneerlaw08Awake cCallEncode cVeneerref08Encode cCallMay cVeneerref08May cCallScript cVeneerref08Script : FuncId) : LC := .seq (veneerlaw08CallEncodesC2 cVeneerlaw08Awake cCallEncode cVeneerref08Encode cCallMay cVeneerref08May cCallScript cVeneerref08Script) (.seq (.reg [
    ⟨(some 63), (.mv (.t 0)), none⟩,
    ⟨(some 64), (.callF cCallScript [(.t 63)]), none⟩,
    ⟨(some 62), (.mv (.t 64)), none⟩,
    ⟨(some 65), (.ext (.t 62) 0), none⟩,
    ⟨(some 66), (.ext (.t 62) 1), none⟩,
    ⟨(some 8), (.mv (.t 65)), none⟩,
    ⟨(some 9), (.mv (.t 66)), none⟩])
  (.seq (.reg [
    ⟨(some 68), (.mv (.t 0)), none⟩,
    ⟨(some 69), (.callF cVeneerref08Script [(.t 68)]), none⟩,
    ⟨(some 67), (.mv (.t 69)), none⟩,
    ⟨(some 70), (.ext (.t 67) 0), none⟩,
    ⟨(some 71), (.ext (.t 67) 1), none⟩,
    ⟨(some 10), (.mv (.t 70)), none⟩,
    ⟨(some 11), (.mv (.t 71)), none⟩])
  (.seq (.reg [
    ⟨(some 72), (.mv (.t 8)), none⟩,
    ⟨(some 73), (.b2s (.t 72)), none⟩,
    ⟨(some 74), (.mv (.t 10)), none⟩,
    ⟨(some 75), (.b2s (.t 74)), none⟩,
    ⟨(some 76), (.bin .eql (.t 73) (.t 75)), none⟩,
    ⟨(some 77), (.mv (.t 76)), none⟩,
    ⟨(some 78), (.mv (.t 9)), (some (77, true))⟩,
    ⟨(some 79), (.mv (.t 11)), (some (77, true))⟩,
    ⟨(some 80), (.bin .eql (.t 78) (.t 79)), (some (77, true))⟩,
    ⟨(some 81), (.pick (.t 77) (.t 80) (.k (.bool false))), none⟩,
    ⟨(some 2), (.mv (.t 81)), none⟩])
  .ret)))
def veneerlaw08CallEncodesC4 (cVeneerlaw08Awake cCallEncode cVeneerref08Encode cCallMay cVeneerref08May cCallScript cVeneerref08Script : FuncId) : LC := .seq (.seq (.reg [
    ⟨(some 14), (.mv (.t 0)), none⟩,
    ⟨(some 15), (.len .slice (.t 14)), none⟩,
    ⟨(some 16), (.bin .gtr (.t 15) (.k (.int .i64 300))), none⟩])
  (.cond (.t 16) (.seq (.reg [
    ⟨(some 2), (.mv (.k (.bool true))), none⟩])
  .ret)
  .skip)) (veneerlaw08CallEncodesC3 cVeneerlaw08Awake cCallEncode cVeneerref08Encode cCallMay cVeneerref08May cCallScript cVeneerref08Script)
def veneerlaw08CallEncodesC5 (cVeneerlaw08Awake cCallEncode cVeneerref08Encode cCallMay cVeneerref08May cCallScript cVeneerref08Script : FuncId) : LC := .seq (.seq (.reg [
    ⟨(some 12), (.callF cVeneerlaw08Awake []), none⟩,
    ⟨(some 13), (.un .not (.t 12)), none⟩])
  (.cond (.t 13) (.seq (.reg [
    ⟨(some 2), (.mv (.k (.bool false))), none⟩])
  .ret)
  .skip)) (veneerlaw08CallEncodesC4 cVeneerlaw08Awake cCallEncode cVeneerref08Encode cCallMay cVeneerref08May cCallScript cVeneerref08Script)
def veneerlaw08CallEncodesC6 (cVeneerlaw08Awake cCallEncode cVeneerref08Encode cCallMay cVeneerref08May cCallScript cVeneerref08Script : FuncId) : LC := .seq (.reg [
    ⟨(some 2), (.mv (.k (.bool false))), none⟩]) (veneerlaw08CallEncodesC5 cVeneerlaw08Awake cCallEncode cVeneerref08Encode cCallMay cVeneerref08May cCallScript cVeneerref08Script)
def veneerlaw08CallEncodesC0S (cal : FuncId → Bool) (φ : Oracle) (N : Nat) (cVeneerlaw08Awake cCallEncode cVeneerref08Encode cCallMay cVeneerref08May cCallScript cVeneerref08Script : FuncId) (gE0 : IV → Heap → Option (IV × Heap)) : Nat → IV → IV → IV → Heap → Option (IV × Heap)
  | 0, _, _, _, _ => none
  | n + 1, v0, v18, v19, H =>
    ob (lbin .lss v19 v18) fun t1 =>
    cnd t1
    (ob (lix 7 v0 v19) fun t2 =>
    ob (lloadn H 7 t2) fun t3 =>
    ob (φ cCallEncode [t3] H) fun r4 =>
    ob (iextract r4.1 0) fun t5 =>
    ob (iextract r4.1 1) fun t6 =>
    ob (lix 7 v0 v19) fun t7 =>
    ob (lloadn r4.2 7 t7) fun t8 =>
    ob (φ cVeneerref08Encode [t8] r4.2) fun r9 =>
    ob (iextract r9.1 0) fun t10 =>
    ob (iextract r9.1 1) fun t11 =>
    ob (lb2s r9.2 t5) fun t12 =>
    ob (lb2s r9.2 t10) fun t13 =>
    ob (lbin .neq t12 t13) fun t14 =>
    ob (gq (isB t14 false) (some t6)) fun t15 =>
    ob (gq (isB t14 false) (some t11)) fun t16 =>
    ob (gq (isB t14 false) (lbin .neq t15 t16)) fun t17 =>
    ob (lpick t14 (.bool true) t17) fun t18 =>
    ob (gq (isB t18 false) (some v0)) fun t19 =>
    ob (gq (isB t18 false) (some v19)) fun t20 =>
    ob (gq (isB t18 false) (lix 7 t19 t20)) fun t21 =>
    ob (gq (isB t18 false) (lloadn r9.2 7 t21)) fun t22 =>
    ob (ge (isB t18 false) r9.2 (φ cCallMay [t22] r9.2)) fun r23 =>
    ob (gq (isB t18 false) (some v0)) fun t24 =>
    ob (gq (isB t18 false) (some v19)) fun t25 =>
    ob (gq (isB t18 false) (lix 7 t24 t25)) fun t26 =>
    ob (gq (isB t18 false) (lloadn r23.2 7 t26)) fun t27 =>
    ob (ge (isB t18 false) r23.2 (φ cVeneerref08May [t27] r23.2)) fun r28 =>
    ob (gq (isB t18 false) (leqv true (leq .bool r23.1 r28.1))) fun t29 =>
    ob (lpick t18 (.bool true) t29) fun t30 =>
    ckd ((!(isB t18 false) || ((!(false)) && ivo (lloadn r9.2 7 t26) t27 && ivo (lloadn r23.2 7 t26) t27)) && true) <|
    cnd t30
    (some ((.bool false), r28.2))
    (ob (lbin .add v19 (.int .i64 1)) fun t31 =>
    veneerlaw08CallEncodesC0S cal φ N cVeneerlaw08Awake cCallEncode cVeneerref08Encode cCallMay cVeneerref08May cCallScript cVeneerref08Script gE0 n v0 v18 t31 r28.2))
    (gE0 v0 H)
theorem veneerlaw08CallEncodesC0Eq (cal : FuncId → Bool) (φ : Oracle) (N : Nat) (cVeneerlaw08Awake cCallEncode cVeneerref08Encode cCallMay cVeneerref08May cCallScript cVeneerref08Script : FuncId) {k : KT (IV × Heap)} (gE0 : IV → Heap → Option (IV × Heap)) (hgE0 : ∀ σ H, k (.exit 0) σ H = gE0 (lk σ 0) H) (hR : ∀ σ H, k .ret σ H = resK [(.tmp 2)] [] σ H) : ∀ (n : Nat) (σ : Sg) (H : Heap), itK (lxK cal φ N (.seq (.reg [
    ⟨(some 20), (.bin .lss (.t 19) (.t 18)), none⟩])
  (.seq (.cond (.t 20) .skip
  (.exit 0))
  (.seq (.block 1 (.seq (.reg [
    ⟨(some 21), (.mv (.t 19)), none⟩,
    ⟨(some 3), (.mv (.t 21)), none⟩])
  (.seq (.reg [
    ⟨(some 23), (.mv (.t 0)), none⟩,
    ⟨(some 24), (.mv (.t 3)), none⟩,
    ⟨(some 25), (.ix 7 (.t 23) (.t 24)), none⟩,
    ⟨(some 26), (.ldn 7 (.t 25)), none⟩,
    ⟨(some 27), (.callF cCallEncode [(.t 26)]), none⟩,
    ⟨(some 22), (.mv (.t 27)), none⟩,
    ⟨(some 28), (.ext (.t 22) 0), none⟩,
    ⟨(some 29), (.ext (.t 22) 1), none⟩,
    ⟨(some 4), (.mv (.t 28)), none⟩,
    ⟨(some 5), (.mv (.t 29)), none⟩])
  (.seq (.reg [
    ⟨(some 31), (.mv (.t 0)), none⟩,
    ⟨(some 32), (.mv (.t 3)), none⟩,
    ⟨(some 33), (.ix 7 (.t 31) (.t 32)), none⟩,
    ⟨(some 34), (.ldn 7 (.t 33)), none⟩,
    ⟨(some 35), (.callF cVeneerref08Encode [(.t 34)]), none⟩,
    ⟨(some 30), (.mv (.t 35)), none⟩,
    ⟨(some 36), (.ext (.t 30) 0), none⟩,
    ⟨(some 37), (.ext (.t 30) 1), none⟩,
    ⟨(some 6), (.mv (.t 36)), none⟩,
    ⟨(some 7), (.mv (.t 37)), none⟩])
  (.seq (.drw [
    ⟨(some 38), (.mv (.t 4)), none⟩,
    ⟨(some 39), (.b2s (.t 38)), none⟩,
    ⟨(some 40), (.mv (.t 6)), none⟩,
    ⟨(some 41), (.b2s (.t 40)), none⟩,
    ⟨(some 42), (.bin .neq (.t 39) (.t 41)), none⟩,
    ⟨(some 43), (.mv (.t 42)), none⟩,
    ⟨(some 44), (.mv (.t 5)), (some (43, false))⟩,
    ⟨(some 45), (.mv (.t 7)), (some (43, false))⟩,
    ⟨(some 46), (.bin .neq (.t 44) (.t 45)), (some (43, false))⟩,
    ⟨(some 47), (.pick (.t 43) (.k (.bool true)) (.t 46)), none⟩,
    ⟨(some 48), (.mv (.t 47)), none⟩,
    ⟨(some 49), (.mv (.t 0)), (some (48, false))⟩,
    ⟨(some 50), (.mv (.t 3)), (some (48, false))⟩,
    ⟨(some 51), (.ix 7 (.t 49) (.t 50)), (some (48, false))⟩,
    ⟨(some 52), (.ldn 7 (.t 51)), (some (48, false))⟩,
    ⟨(some 53), (.callF cCallMay [(.t 52)]), (some (48, false))⟩,
    ⟨(some 54), (.mv (.t 0)), (some (48, false))⟩,
    ⟨(some 55), (.mv (.t 3)), (some (48, false))⟩,
    ⟨(some 56), (.ix 7 (.t 54) (.t 55)), (some (48, false))⟩,
    ⟨(some 57), (.ldn 7 (.t 56)), (some (48, false))⟩,
    ⟨(some 58), (.callF cVeneerref08May [(.t 57)]), (some (48, false))⟩,
    ⟨(some 59), (.eqv true .bool (.t 53) (.t 58)), (some (48, false))⟩,
    ⟨(some 60), (.pick (.t 48) (.k (.bool true)) (.t 59)), none⟩] [(19, 15)])
  (.cond (.t 60) (.seq (.reg [
    ⟨(some 2), (.mv (.k (.bool false))), none⟩])
  .ret)
  .skip))))))
  (.reg [
    ⟨(some 61), (.bin .add (.t 19) (.k (.int .i64 1))), none⟩,
    ⟨(some 19), (.mv (.t 61)), none⟩]))))) n σ H k = veneerlaw08CallEncodesC0S cal φ N cVeneerlaw08Awake cCallEncode cVeneerref08Encode cCallMay cVeneerref08May cCallScript cVeneerref08Script gE0 n (lk σ 0) (lk σ 18) (lk σ 19) H := by
  have hk : k = (kE 0 (fun σ H => gE0 (lk σ 0) H) (kR (resK [(.tmp 2)] []) k)) := (kE_mk hgE0 (kR_mk hR rfl))
  intro n
  induction n with
  | zero => intro σ H; rfl
  | succ n ih =>
    intro σ H
    rw [itK_succ, seqK_mk (g := fun σ H => veneerlaw08CallEncodesC0S cal φ N cVeneerlaw08Awake cCallEncode cVeneerref08Encode cCallMay cVeneerref08May cCallScript cVeneerref08Script gE0 n (lk σ 0) (lk σ 18) (lk σ 19) H) ih, hk]
    kernel_rfl
def veneerlaw08CallEncodesC1S (cal : FuncId → Bool) (φ : Oracle) (N : Nat) (cVeneerlaw08Awake cCallEncode cVeneerref08Encode cCallMay cVeneerref08May cCallScript cVeneerref08Script : FuncId) (gN : IV → Heap → Option (IV × Heap)) (v0 v18 v19 : IV) (H : Heap) : Option (IV × Heap) :=
    veneerlaw08CallEncodesC0S cal φ N cVeneerlaw08Awake cCallEncode cVeneerref08Encode cCallMay cVeneerref08May cCallScript cVeneerref08Script (fun v0 H => gN v0 H) N v0 v18 v19 H
theorem veneerlaw08CallEncodesC1Eq (cal : FuncId → Bool) (φ : Oracle) (N : Nat) (cVeneerlaw08Awake cCallEncode cVeneerref08Encode cCallMay cVeneerref08May cCallScript cVeneerref08Script : FuncId) {k : KT (IV × Heap)} (gN : IV → Heap → Option (IV × Heap)) (hgN : ∀ σ H, k .normal σ H = gN (lk σ 0) H) (hR : ∀ σ H, k .ret σ H = resK [(.tmp 2)] [] σ H) : ∀ (σ : Sg) (H : Heap), lxK cal φ N (veneerlaw08CallEncodesC1 cVeneerlaw08Awake cCallEncode cVeneerref08Encode cCallMay cVeneerref08May cCallScript cVeneerref08Script) σ H k = veneerlaw08CallEncodesC1S cal φ N cVeneerlaw08Awake cCallEncode cVeneerref08Encode cCallMay cVeneerref08May cCallScript cVeneerref08Script gN (lk σ 0) (lk σ 18) (lk σ 19) H := by
  have hk : k = (kN (fun σ H => gN (lk σ 0) H) (kR (resK [(.tmp 2)] []) k)) := (kN_mk hgN (kR_mk hR rfl))
  intro σ H
  rw [hk]
  show lxK cal φ N (veneerlaw08CallEncodesC0 cVeneerlaw08Awake cCallEncode cVeneerref08Encode cCallMay cVeneerref08May cCallScript cVeneerref08Script) σ H (blockK 0 (kN (fun σ H => gN (lk σ 0) H) (kR (resK [(.tmp 2)] []) k))) = _
  exact veneerlaw08CallEncodesC0Eq cal φ N cVeneerlaw08Awake cCallEncode cVeneerref08Encode cCallMay cVeneerref08May cCallScript cVeneerref08Script (k := (blockK 0 (kN (fun σ H => gN (lk σ 0) H) (kR (resK [(.tmp 2)] []) k)))) (fun v0 H => gN v0 H) (fun _ _ => rfl) (fun _ _ => rfl) N σ H
def veneerlaw08CallEncodesC2S (cal : FuncId → Bool) (φ : Oracle) (N : Nat) (cVeneerlaw08Awake cCallEncode cVeneerref08Encode cCallMay cVeneerref08May cCallScript cVeneerref08Script : FuncId) (gN : IV → Heap → Option (IV × Heap)) (v0 : IV) (H : Heap) : Option (IV × Heap) :=
    ob (llen H .slice v0) fun t1 =>
    veneerlaw08CallEncodesC1S cal φ N cVeneerlaw08Awake cCallEncode cVeneerref08Encode cCallMay cVeneerref08May cCallScript cVeneerref08Script (fun v0 H => gN v0 H) v0 t1 (.int .i64 0) H
theorem veneerlaw08CallEncodesC2Eq (cal : FuncId → Bool) (φ : Oracle) (N : Nat) (cVeneerlaw08Awake cCallEncode cVeneerref08Encode cCallMay cVeneerref08May cCallScript cVeneerref08Script : FuncId) {k : KT (IV × Heap)} (gN : IV → Heap → Option (IV × Heap)) (hgN : ∀ σ H, k .normal σ H = gN (lk σ 0) H) (hR : ∀ σ H, k .ret σ H = resK [(.tmp 2)] [] σ H) : ∀ (σ : Sg) (H : Heap), lxK cal φ N (veneerlaw08CallEncodesC2 cVeneerlaw08Awake cCallEncode cVeneerref08Encode cCallMay cVeneerref08May cCallScript cVeneerref08Script) σ H k = veneerlaw08CallEncodesC2S cal φ N cVeneerlaw08Awake cCallEncode cVeneerref08Encode cCallMay cVeneerref08May cCallScript cVeneerref08Script gN (lk σ 0) H := by
  have hk : k = (kN (fun σ H => gN (lk σ 0) H) (kR (resK [(.tmp 2)] []) k)) := (kN_mk hgN (kR_mk hR rfl))
  intro σ H
  rw [hk]
  show lxK cal φ N (.reg [
    ⟨(some 17), (.mv (.t 0)), none⟩,
    ⟨(some 18), (.len .slice (.t 17)), none⟩,
    ⟨(some 19), (.mv (.k (.int .i64 0))), none⟩]) σ H (seqK (lxK cal φ N (veneerlaw08CallEncodesC1 cVeneerlaw08Awake cCallEncode cVeneerref08Encode cCallMay cVeneerref08May cCallScript cVeneerref08Script)) (kN (fun σ H => gN (lk σ 0) H) (kR (resK [(.tmp 2)] []) k))) = _
  rw [seqK_mk (g := fun σ H => veneerlaw08CallEncodesC1S cal φ N cVeneerlaw08Awake cCallEncode cVeneerref08Encode cCallMay cVeneerref08May cCallScript cVeneerref08Script (fun v0 H => gN v0 H) (lk σ 0) (lk σ 18) (lk σ 19) H) (veneerlaw08CallEncodesC1Eq cal φ N cVeneerlaw08Awake cCallEncode cVeneerref08Encode cCallMay cVeneerref08May cCallScript cVeneerref08Script (k := (kN (fun σ H => gN (lk σ 0) H) (kR (resK [(.tmp 2)] []) k))) (fun v0 H => gN v0 H) (fun _ _ => rfl) (fun _ _ => rfl))]
  kernel_rfl
def veneerlaw08CallEncodesC3S (cal : FuncId → Bool) (φ : Oracle) (N : Nat) (cVeneerlaw08Awake cCallEncode cVeneerref08Encode cCallMay cVeneerref08May cCallScript cVeneerref08Script : FuncId) (v0 : IV) (H : Heap) : Option (IV × Heap) :=
    veneerlaw08CallEncodesC2S cal φ N cVeneerlaw08Awake cCallEncode cVeneerref08Encode cCallMay cVeneerref08May cCallScript cVeneerref08Script (fun v0 H => ob (φ cCallScript [v0] H) fun r1 =>
    ob (iextract r1.1 0) fun t2 =>
    ob (iextract r1.1 1) fun t3 =>
    ob (φ cVeneerref08Script [v0] r1.2) fun r4 =>
    ob (iextract r4.1 0) fun t5 =>
    ob (iextract r4.1 1) fun t6 =>
    ob (lb2s r4.2 t2) fun t7 =>
    ob (lb2s r4.2 t5) fun t8 =>
    ob (lbin .eql t7 t8) fun t9 =>
    ob (gq (isB t9 true) (some t3)) fun t10 =>
    ob (gq (isB t9 true) (some t6)) fun t11 =>
    ob (gq (isB t9 true) (lbin .eql t10 t11)) fun t12 =>
    ob (lpick t9 t12 (.bool false)) fun t13 =>
    some (t13, r4.2)) v0 H
theorem veneerlaw08CallEncodesC3Eq (cal : FuncId → Bool) (φ : Oracle) (N : Nat) (cVeneerlaw08Awake cCallEncode cVeneerref08Encode cCallMay cVeneerref08May cCallScript cVeneerref08Script : FuncId) {k : KT (IV × Heap)} (hR : ∀ σ H, k .ret σ H = resK [(.tmp 2)] [] σ H) : ∀ (σ : Sg) (H : Heap), lxK cal φ N (veneerlaw08CallEncodesC3 cVeneerlaw08Awake cCallEncode cVeneerref08Encode cCallMay cVeneerref08May cCallScript cVeneerref08Script) σ H k = veneerlaw08CallEncodesC3S cal φ N cVeneerlaw08Awake cCallEncode cVeneerref08Encode cCallMay cVeneerref08May cCallScript cVeneerref08Script (lk σ 0) H := by
  have hk : k = (kR (resK [(.tmp 2)] []) k) := (kR_mk hR rfl)
  intro σ H
  rw [hk]
  show lxK cal φ N (veneerlaw08CallEncodesC2 cVeneerlaw08Awake cCallEncode cVeneerref08Encode cCallMay cVeneerref08May cCallScript cVeneerref08Script) σ H (seqK (lxK cal φ N (.seq (.reg [
    ⟨(some 63), (.mv (.t 0)), none⟩,
    ⟨(some 64), (.callF cCallScript [(.t 63)]), none⟩,
    ⟨(some 62), (.mv (.t 64)), none⟩,
    ⟨(some 65), (.ext (.t 62) 0), none⟩,
    ⟨(some 66), (.ext (.t 62) 1), none⟩,
    ⟨(some 8), (.mv (.t 65)), none⟩,
    ⟨(some 9), (.mv (.t 66)), none⟩])
  (.seq (.reg [
    ⟨(some 68), (.mv (.t 0)), none⟩,
    ⟨(some 69), (.callF cVeneerref08Script [(.t 68)]), none⟩,
    ⟨(some 67), (.mv (.t 69)), none⟩,
    ⟨(some 70), (.ext (.t 67) 0), none⟩,
    ⟨(some 71), (.ext (.t 67) 1), none⟩,
    ⟨(some 10), (.mv (.t 70)), none⟩,
    ⟨(some 11), (.mv (.t 71)), none⟩])
  (.seq (.reg [
    ⟨(some 72), (.mv (.t 8)), none⟩,
    ⟨(some 73), (.b2s (.t 72)), none⟩,
    ⟨(some 74), (.mv (.t 10)), none⟩,
    ⟨(some 75), (.b2s (.t 74)), none⟩,
    ⟨(some 76), (.bin .eql (.t 73) (.t 75)), none⟩,
    ⟨(some 77), (.mv (.t 76)), none⟩,
    ⟨(some 78), (.mv (.t 9)), (some (77, true))⟩,
    ⟨(some 79), (.mv (.t 11)), (some (77, true))⟩,
    ⟨(some 80), (.bin .eql (.t 78) (.t 79)), (some (77, true))⟩,
    ⟨(some 81), (.pick (.t 77) (.t 80) (.k (.bool false))), none⟩,
    ⟨(some 2), (.mv (.t 81)), none⟩])
  .ret)))) (kR (resK [(.tmp 2)] []) k)) = _
  exact veneerlaw08CallEncodesC2Eq cal φ N cVeneerlaw08Awake cCallEncode cVeneerref08Encode cCallMay cVeneerref08May cCallScript cVeneerref08Script (k := (seqK (lxK cal φ N (.seq (.reg [
    ⟨(some 63), (.mv (.t 0)), none⟩,
    ⟨(some 64), (.callF cCallScript [(.t 63)]), none⟩,
    ⟨(some 62), (.mv (.t 64)), none⟩,
    ⟨(some 65), (.ext (.t 62) 0), none⟩,
    ⟨(some 66), (.ext (.t 62) 1), none⟩,
    ⟨(some 8), (.mv (.t 65)), none⟩,
    ⟨(some 9), (.mv (.t 66)), none⟩])
  (.seq (.reg [
    ⟨(some 68), (.mv (.t 0)), none⟩,
    ⟨(some 69), (.callF cVeneerref08Script [(.t 68)]), none⟩,
    ⟨(some 67), (.mv (.t 69)), none⟩,
    ⟨(some 70), (.ext (.t 67) 0), none⟩,
    ⟨(some 71), (.ext (.t 67) 1), none⟩,
    ⟨(some 10), (.mv (.t 70)), none⟩,
    ⟨(some 11), (.mv (.t 71)), none⟩])
  (.seq (.reg [
    ⟨(some 72), (.mv (.t 8)), none⟩,
    ⟨(some 73), (.b2s (.t 72)), none⟩,
    ⟨(some 74), (.mv (.t 10)), none⟩,
    ⟨(some 75), (.b2s (.t 74)), none⟩,
    ⟨(some 76), (.bin .eql (.t 73) (.t 75)), none⟩,
    ⟨(some 77), (.mv (.t 76)), none⟩,
    ⟨(some 78), (.mv (.t 9)), (some (77, true))⟩,
    ⟨(some 79), (.mv (.t 11)), (some (77, true))⟩,
    ⟨(some 80), (.bin .eql (.t 78) (.t 79)), (some (77, true))⟩,
    ⟨(some 81), (.pick (.t 77) (.t 80) (.k (.bool false))), none⟩,
    ⟨(some 2), (.mv (.t 81)), none⟩])
  .ret)))) (kR (resK [(.tmp 2)] []) k))) (fun v0 H => ob (φ cCallScript [v0] H) fun r1 =>
ob (iextract r1.1 0) fun t2 =>
ob (iextract r1.1 1) fun t3 =>
ob (φ cVeneerref08Script [v0] r1.2) fun r4 =>
ob (iextract r4.1 0) fun t5 =>
ob (iextract r4.1 1) fun t6 =>
ob (lb2s r4.2 t2) fun t7 =>
ob (lb2s r4.2 t5) fun t8 =>
ob (lbin .eql t7 t8) fun t9 =>
ob (gq (isB t9 true) (some t3)) fun t10 =>
ob (gq (isB t9 true) (some t6)) fun t11 =>
ob (gq (isB t9 true) (lbin .eql t10 t11)) fun t12 =>
ob (lpick t9 t12 (.bool false)) fun t13 =>
some (t13, r4.2)) (fun _ _ => rfl) (fun _ _ => rfl) σ H
def veneerlaw08CallEncodesC4S (cal : FuncId → Bool) (φ : Oracle) (N : Nat) (cVeneerlaw08Awake cCallEncode cVeneerref08Encode cCallMay cVeneerref08May cCallScript cVeneerref08Script : FuncId) (v0 : IV) (H : Heap) : Option (IV × Heap) :=
    ob (llen H .slice v0) fun t1 =>
    ob (lbin .gtr t1 (.int .i64 300)) fun t2 =>
    cnd t2
    (some ((.bool true), H))
    (veneerlaw08CallEncodesC3S cal φ N cVeneerlaw08Awake cCallEncode cVeneerref08Encode cCallMay cVeneerref08May cCallScript cVeneerref08Script v0 H)
theorem veneerlaw08CallEncodesC4Eq (cal : FuncId → Bool) (φ : Oracle) (N : Nat) (cVeneerlaw08Awake cCallEncode cVeneerref08Encode cCallMay cVeneerref08May cCallScript cVeneerref08Script : FuncId) {k : KT (IV × Heap)} (hR : ∀ σ H, k .ret σ H = resK [(.tmp 2)] [] σ H) : ∀ (σ : Sg) (H : Heap), lxK cal φ N (veneerlaw08CallEncodesC4 cVeneerlaw08Awake cCallEncode cVeneerref08Encode cCallMay cVeneerref08May cCallScript cVeneerref08Script) σ H k = veneerlaw08CallEncodesC4S cal φ N cVeneerlaw08Awake cCallEncode cVeneerref08Encode cCallMay cVeneerref08May cCallScript cVeneerref08Script (lk σ 0) H := by
  have hk : k = (kR (resK [(.tmp 2)] []) k) := (kR_mk hR rfl)
  intro σ H
  rw [hk]
  show lxK cal φ N (.seq (.reg [
    ⟨(some 14), (.mv (.t 0)), none⟩,
    ⟨(some 15), (.len .slice (.t 14)), none⟩,
    ⟨(some 16), (.bin .gtr (.t 15) (.k (.int .i64 300))), none⟩])
  (.cond (.t 16) (.seq (.reg [
    ⟨(some 2), (.mv (.k (.bool true))), none⟩])
  .ret)
  .skip)) σ H (seqK (lxK cal φ N (veneerlaw08CallEncodesC3 cVeneerlaw08Awake cCallEncode cVeneerref08Encode cCallMay cVeneerref08May cCallScript cVeneerref08Script)) (kR (resK [(.tmp 2)] []) k)) = _
  rw [seqK_mk (g := fun σ H => veneerlaw08CallEncodesC3S cal φ N cVeneerlaw08Awake cCallEncode cVeneerref08Encode cCallMay cVeneerref08May cCallScript cVeneerref08Script (lk σ 0) H) (veneerlaw08CallEncodesC3Eq cal φ N cVeneerlaw08Awake cCallEncode cVeneerref08Encode cCallMay cVeneerref08May cCallScript cVeneerref08Script (k := (kR (resK [(.tmp 2)] []) k)) (fun _ _ => rfl))]
  kernel_rfl
def veneerlaw08CallEncodesC5S (cal : FuncId → Bool) (φ : Oracle) (N : Nat) (cVeneerlaw08Awake cCallEncode cVeneerref08Encode cCallMay cVeneerref08May cCallScript cVeneerref08Script : FuncId) (v0 : IV) (H : Heap) : Option (IV × Heap) :=
    ob (φ cVeneerlaw08Awake [] H) fun r1 =>
    ob (iun .not r1.1) fun t2 =>
    cnd t2
    (some ((.bool false), r1.2))
    (veneerlaw08CallEncodesC4S cal φ N cVeneerlaw08Awake cCallEncode cVeneerref08Encode cCallMay cVeneerref08May cCallScript cVeneerref08Script v0 r1.2)
theorem veneerlaw08CallEncodesC5Eq (cal : FuncId → Bool) (φ : Oracle) (N : Nat) (cVeneerlaw08Awake cCallEncode cVeneerref08Encode cCallMay cVeneerref08May cCallScript cVeneerref08Script : FuncId) {k : KT (IV × Heap)} (hR : ∀ σ H, k .ret σ H = resK [(.tmp 2)] [] σ H) : ∀ (σ : Sg) (H : Heap), lxK cal φ N (veneerlaw08CallEncodesC5 cVeneerlaw08Awake cCallEncode cVeneerref08Encode cCallMay cVeneerref08May cCallScript cVeneerref08Script) σ H k = veneerlaw08CallEncodesC5S cal φ N cVeneerlaw08Awake cCallEncode cVeneerref08Encode cCallMay cVeneerref08May cCallScript cVeneerref08Script (lk σ 0) H := by
  have hk : k = (kR (resK [(.tmp 2)] []) k) := (kR_mk hR rfl)
  intro σ H
  rw [hk]
  show lxK cal φ N (.seq (.reg [
    ⟨(some 12), (.callF cVeneerlaw08Awake []), none⟩,
    ⟨(some 13), (.un .not (.t 12)), none⟩])
  (.cond (.t 13) (.seq (.reg [
    ⟨(some 2), (.mv (.k (.bool false))), none⟩])
  .ret)
  .skip)) σ H (seqK (lxK cal φ N (veneerlaw08CallEncodesC4 cVeneerlaw08Awake cCallEncode cVeneerref08Encode cCallMay cVeneerref08May cCallScript cVeneerref08Script)) (kR (resK [(.tmp 2)] []) k)) = _
  rw [seqK_mk (g := fun σ H => veneerlaw08CallEncodesC4S cal φ N cVeneerlaw08Awake cCallEncode cVeneerref08Encode cCallMay cVeneerref08May cCallScript cVeneerref08Script (lk σ 0) H) (veneerlaw08CallEncodesC4Eq cal φ N cVeneerlaw08Awake cCallEncode cVeneerref08Encode cCallMay cVeneerref08May cCallScript cVeneerref08Script (k := (kR (resK [(.tmp 2)] []) k)) (fun _ _ => rfl))]
  kernel_rfl
def veneerlaw08CallEncodesC6S (cal : FuncId → Bool) (φ : Oracle) (N : Nat) (cVeneerlaw08Awake cCallEncode cVeneerref08Encode cCallMay cVeneerref08May cCallScript cVeneerref08Script : FuncId) (v0 : IV) (H : Heap) : Option (IV × Heap) :=
    veneerlaw08CallEncodesC5S cal φ N cVeneerlaw08Awake cCallEncode cVeneerref08Encode cCallMay cVeneerref08May cCallScript cVeneerref08Script v0 H
theorem veneerlaw08CallEncodesC6Eq (cal : FuncId → Bool) (φ : Oracle) (N : Nat) (cVeneerlaw08Awake cCallEncode cVeneerref08Encode cCallMay cVeneerref08May cCallScript cVeneerref08Script : FuncId) {k : KT (IV × Heap)} (hR : ∀ σ H, k .ret σ H = resK [(.tmp 2)] [] σ H) : ∀ (σ : Sg) (H : Heap), lxK cal φ N (veneerlaw08CallEncodesC6 cVeneerlaw08Awake cCallEncode cVeneerref08Encode cCallMay cVeneerref08May cCallScript cVeneerref08Script) σ H k = veneerlaw08CallEncodesC6S cal φ N cVeneerlaw08Awake cCallEncode cVeneerref08Encode cCallMay cVeneerref08May cCallScript cVeneerref08Script (lk σ 0) H := by
  have hk : k = (kR (resK [(.tmp 2)] []) k) := (kR_mk hR rfl)
  intro σ H
  rw [hk]
  show lxK cal φ N (.reg [
    ⟨(some 2), (.mv (.k (.bool false))), none⟩]) σ H (seqK (lxK cal φ N (veneerlaw08CallEncodesC5 cVeneerlaw08Awake cCallEncode cVeneerref08Encode cCallMay cVeneerref08May cCallScript cVeneerref08Script)) (kR (resK [(.tmp 2)] []) k)) = _
  rw [seqK_mk (g := fun σ H => veneerlaw08CallEncodesC5S cal φ N cVeneerlaw08Awake cCallEncode cVeneerref08Encode cCallMay cVeneerref08May cCallScript cVeneerref08Script (lk σ 0) H) (veneerlaw08CallEncodesC5Eq cal φ N cVeneerlaw08Awake cCallEncode cVeneerref08Encode cCallMay cVeneerref08May cCallScript cVeneerref08Script (k := (kR (resK [(.tmp 2)] []) k)) (fun _ _ => rfl))]
  kernel_rfl
def veneerlaw08CallEncodes (cVeneerlaw08Awake cCallEncode cVeneerref08Encode cCallMay cVeneerref08May cCallScript cVeneerref08Script : FuncId) : LFun := ⟨(veneerlaw08CallEncodesC6 cVeneerlaw08Awake cCallEncode cVeneerref08Encode cCallMay cVeneerref08May cCallScript cVeneerref08Script), [(.tmp 2)], 82⟩
def veneerlaw08CallEncodesS (cal : FuncId → Bool) (φ : Oracle) (N : Nat) (cVeneerlaw08Awake cCallEncode cVeneerref08Encode cCallMay cVeneerref08May cCallScript cVeneerref08Script : FuncId) (v0 : IV) (H : Heap) : Option (IV × Heap) :=
    veneerlaw08CallEncodesC6S cal φ N cVeneerlaw08Awake cCallEncode cVeneerref08Encode cCallMay cVeneerref08May cCallScript cVeneerref08Script v0 H
theorem veneerlaw08CallEncodesEq (cal : FuncId → Bool) (φ : Oracle) (N : Nat) (cVeneerlaw08Awake cCallEncode cVeneerref08Encode cCallMay cVeneerref08May cCallScript cVeneerref08Script : FuncId) (v0 : IV) (H : Heap) : lrunK cal φ N (veneerlaw08CallEncodes cVeneerlaw08Awake cCallEncode cVeneerref08Encode cCallMay cVeneerref08May cCallScript cVeneerref08Script) [v0] H = veneerlaw08CallEncodesS cal φ N cVeneerlaw08Awake cCallEncode cVeneerref08Encode cCallMay cVeneerref08May cCallScript cVeneerref08Script v0 H := by
  show lxK cal φ N (veneerlaw08CallEncodesC6 cVeneerlaw08Awake cCallEncode cVeneerref08Encode cCallMay cVeneerref08May cCallScript cVeneerref08Script) (initFrom 0 [v0]) H (endK [(.tmp 2)]) = _
  exact veneerlaw08CallEncodesC6Eq cal φ N cVeneerlaw08Awake cCallEncode cVeneerref08Encode cCallMay cVeneerref08May cCallScript cVeneerref08Script (k := (endK [(.tmp 2)])) (fun _ _ => rfl) (initFrom 0 [v0]) H

def veneerlaw08CallTotalC0 (cVeneerlaw08Awake cCallDecode cCallMay : FuncId) : LC := .loop (.seq (.reg [
    ⟨(some 15), (.bin .lss (.t 14) (.t 13)), none⟩])
  (.seq (.cond (.t 15) .skip
  (.exit 0))
  (.seq (.block 1 (.seq (.reg [
    ⟨(some 16), (.mv (.t 14)), none⟩,
    ⟨(some 4), (.mv (.t 16)), none⟩])
  (.seq (.reg [
    ⟨(some 17), (.mv (.t 3)), none⟩,
    ⟨(some 18), (.mv (.t 4)), none⟩,
    ⟨(some 19), (.ix 7 (.t 17) (.t 18)), none⟩,
    ⟨(some 20), (.ldn 7 (.t 19)), none⟩,
    ⟨(some 21), (.callF cCallMay [(.t 20)]), none⟩,
    ⟨(some 22), (.un .not (.t 21)), none⟩])
  (.cond (.t 22) (.seq (.reg [
    ⟨(some 2), (.mv (.k (.bool false))), none⟩])
  .ret)
  .skip))))
  (.reg [
    ⟨(some 23), (.bin .add (.t 14) (.k (.int .i64 1))), none⟩,
    ⟨(some 14), (.mv (.t 23)), none⟩]))))
def veneerlaw08CallTotalC1 (cVeneerlaw08Awake cCallDecode cCallMay : FuncId) : LC := .block 0 (veneerlaw08CallTotalC0 cVeneerlaw08Awake cCallDecode cCallMay)
def veneerlaw08CallTotalC2 (cVeneerlaw08Awake cCallDecode cCallMay : FuncId) : LC := .seq (.reg [
    ⟨(some 12), (.mv (.t 3)), none⟩,
    ⟨(some 13), (.len .slice (.t 12)), none⟩,
    ⟨(some 14), (.mv (.k (.int .i64 0))), none⟩]) (veneerlaw08CallTotalC1 cVeneerlaw08Awake cCallDecode cCallMay)
def veneerlaw08CallTotalC3 (cVeneerlaw08Awake cCallDecode cCallMay : FuncId) : LC := .seq (veneerlaw08CallTotalC2 cVeneerlaw08Awake cCallDecode cCallMay) (.seq (.reg [
    ⟨(some 24), (.mv (.t 3)), none⟩,
    ⟨(some 25), (.len .slice (.t 24)), none⟩,
    ⟨(some 26), (.bin .leq (.t 25) (.k (.int .i64 200))), none⟩,
    ⟨(some 27), (.mv (.t 26)), none⟩,
    ⟨(some 28), (.mv (.t 3)), (some (27, true))⟩,
    ⟨(some 29), (.len .slice (.t 28)), (some (27, true))⟩,
    ⟨(some 30), (.bin .eql (.t 29) (.k (.int .i64 0))), (some (27, true))⟩,
    ⟨(some 31), (.mv (.t 0)), (some (27, true))⟩,
    ⟨(some 32), (.len .slice (.t 31)), (some (27, true))⟩,
    ⟨(some 33), (.bin .eql (.t 32) (.k (.int .i64 0))), (some (27, true))⟩,
    ⟨(some 34), (.eqv false .bool (.t 30) (.t 33)), (some (27, true))⟩,
    ⟨(some 35), (.pick (.t 27) (.t 34) (.k (.bool false))), none⟩,
    ⟨(some 2), (.mv (.t 35)), none⟩])
  .ret)
def veneerlaw08CallTotalC4 (cVeneerlaw08Awake cCallDecode cCallMay : FuncId) : LC := .seq (.reg [
    ⟨(some 10), (.mv (.t 0)), none⟩,
    ⟨(some 11), (.callF cCallDecode [(.t 10)]), none⟩,
    ⟨(some 3), (.mv (.t 11)), none⟩]) (veneerlaw08CallTotalC3 cVeneerlaw08Awake cCallDecode cCallMay)
def veneerlaw08CallTotalC5 (cVeneerlaw08Awake cCallDecode cCallMay : FuncId) : LC := .seq (.seq (.reg [
    ⟨(some 7), (.mv (.t 0)), none⟩,
    ⟨(some 8), (.len .slice (.t 7)), none⟩,
    ⟨(some 9), (.bin .gtr (.t 8) (.k (.int .i64 65536))), none⟩])
  (.cond (.t 9) (.seq (.reg [
    ⟨(some 2), (.mv (.k (.bool true))), none⟩])
  .ret)
  .skip)) (veneerlaw08CallTotalC4 cVeneerlaw08Awake cCallDecode cCallMay)
def veneerlaw08CallTotalC6 (cVeneerlaw08Awake cCallDecode cCallMay : FuncId) : LC := .seq (.seq (.reg [
    ⟨(some 5), (.callF cVeneerlaw08Awake []), none⟩,
    ⟨(some 6), (.un .not (.t 5)), none⟩])
  (.cond (.t 6) (.seq (.reg [
    ⟨(some 2), (.mv (.k (.bool false))), none⟩])
  .ret)
  .skip)) (veneerlaw08CallTotalC5 cVeneerlaw08Awake cCallDecode cCallMay)
def veneerlaw08CallTotalC7 (cVeneerlaw08Awake cCallDecode cCallMay : FuncId) : LC := .seq (.reg [
    ⟨(some 2), (.mv (.k (.bool false))), none⟩]) (veneerlaw08CallTotalC6 cVeneerlaw08Awake cCallDecode cCallMay)
def veneerlaw08CallTotalC0S (cal : FuncId → Bool) (φ : Oracle) (N : Nat) (cVeneerlaw08Awake cCallDecode cCallMay : FuncId) (gE0 : IV → IV → Heap → Option (IV × Heap)) : Nat → IV → IV → IV → IV → Heap → Option (IV × Heap)
  | 0, _, _, _, _, _ => none
  | n + 1, v0, v3, v13, v14, H =>
    ob (lbin .lss v14 v13) fun t1 =>
    cnd t1
    (ob (lix 7 v3 v14) fun t2 =>
    ob (lloadn H 7 t2) fun t3 =>
    ob (φ cCallMay [t3] H) fun r4 =>
    ob (iun .not r4.1) fun t5 =>
    cnd t5
    (some ((.bool false), r4.2))
    (ob (lbin .add v14 (.int .i64 1)) fun t6 =>
    veneerlaw08CallTotalC0S cal φ N cVeneerlaw08Awake cCallDecode cCallMay gE0 n v0 v3 v13 t6 r4.2))
    (gE0 v0 v3 H)
theorem veneerlaw08CallTotalC0Eq (cal : FuncId → Bool) (φ : Oracle) (N : Nat) (cVeneerlaw08Awake cCallDecode cCallMay : FuncId) {k : KT (IV × Heap)} (gE0 : IV → IV → Heap → Option (IV × Heap)) (hgE0 : ∀ σ H, k (.exit 0) σ H = gE0 (lk σ 0) (lk σ 3) H) (hR : ∀ σ H, k .ret σ H = resK [(.tmp 2)] [] σ H) : ∀ (n : Nat) (σ : Sg) (H : Heap), itK (lxK cal φ N (.seq (.reg [
    ⟨(some 15), (.bin .lss (.t 14) (.t 13)), none⟩])
  (.seq (.cond (.t 15) .skip
  (.exit 0))
  (.seq (.block 1 (.seq (.reg [
    ⟨(some 16), (.mv (.t 14)), none⟩,
    ⟨(some 4), (.mv (.t 16)), none⟩])
  (.seq (.reg [
    ⟨(some 17), (.mv (.t 3)), none⟩,
    ⟨(some 18), (.mv (.t 4)), none⟩,
    ⟨(some 19), (.ix 7 (.t 17) (.t 18)), none⟩,
    ⟨(some 20), (.ldn 7 (.t 19)), none⟩,
    ⟨(some 21), (.callF cCallMay [(.t 20)]), none⟩,
    ⟨(some 22), (.un .not (.t 21)), none⟩])
  (.cond (.t 22) (.seq (.reg [
    ⟨(some 2), (.mv (.k (.bool false))), none⟩])
  .ret)
  .skip))))
  (.reg [
    ⟨(some 23), (.bin .add (.t 14) (.k (.int .i64 1))), none⟩,
    ⟨(some 14), (.mv (.t 23)), none⟩]))))) n σ H k = veneerlaw08CallTotalC0S cal φ N cVeneerlaw08Awake cCallDecode cCallMay gE0 n (lk σ 0) (lk σ 3) (lk σ 13) (lk σ 14) H := by
  have hk : k = (kE 0 (fun σ H => gE0 (lk σ 0) (lk σ 3) H) (kR (resK [(.tmp 2)] []) k)) := (kE_mk hgE0 (kR_mk hR rfl))
  intro n
  induction n with
  | zero => intro σ H; rfl
  | succ n ih =>
    intro σ H
    rw [itK_succ, seqK_mk (g := fun σ H => veneerlaw08CallTotalC0S cal φ N cVeneerlaw08Awake cCallDecode cCallMay gE0 n (lk σ 0) (lk σ 3) (lk σ 13) (lk σ 14) H) ih, hk]
    kernel_rfl
def veneerlaw08CallTotalC1S (cal : FuncId → Bool) (φ : Oracle) (N : Nat) (cVeneerlaw08Awake cCallDecode cCallMay : FuncId) (gN : IV → IV → Heap → Option (IV × Heap)) (v0 v3 v13 v14 : IV) (H : Heap) : Option (IV × Heap) :=
    veneerlaw08CallTotalC0S cal φ N cVeneerlaw08Awake cCallDecode cCallMay (fun v0 v3 H => gN v0 v3 H) N v0 v3 v13 v14 H
theorem veneerlaw08CallTotalC1Eq (cal : FuncId → Bool) (φ : Oracle) (N : Nat) (cVeneerlaw08Awake cCallDecode cCallMay : FuncId) {k : KT (IV × Heap)} (gN : IV → IV → Heap → Option (IV × Heap)) (hgN : ∀ σ H, k .normal σ H = gN (lk σ 0) (lk σ 3) H) (hR : ∀ σ H, k .ret σ H = resK [(.tmp 2)] [] σ H) : ∀ (σ : Sg) (H : Heap), lxK cal φ N (veneerlaw08CallTotalC1 cVeneerlaw08Awake cCallDecode cCallMay) σ H k = veneerlaw08CallTotalC1S cal φ N cVeneerlaw08Awake cCallDecode cCallMay gN (lk σ 0) (lk σ 3) (lk σ 13) (lk σ 14) H := by
  have hk : k = (kN (fun σ H => gN (lk σ 0) (lk σ 3) H) (kR (resK [(.tmp 2)] []) k)) := (kN_mk hgN (kR_mk hR rfl))
  intro σ H
  rw [hk]
  show lxK cal φ N (veneerlaw08CallTotalC0 cVeneerlaw08Awake cCallDecode cCallMay) σ H (blockK 0 (kN (fun σ H => gN (lk σ 0) (lk σ 3) H) (kR (resK [(.tmp 2)] []) k))) = _
  exact veneerlaw08CallTotalC0Eq cal φ N cVeneerlaw08Awake cCallDecode cCallMay (k := (blockK 0 (kN (fun σ H => gN (lk σ 0) (lk σ 3) H) (kR (resK [(.tmp 2)] []) k)))) (fun v0 v3 H => gN v0 v3 H) (fun _ _ => rfl) (fun _ _ => rfl) N σ H
def veneerlaw08CallTotalC2S (cal : FuncId → Bool) (φ : Oracle) (N : Nat) (cVeneerlaw08Awake cCallDecode cCallMay : FuncId) (gN : IV → IV → Heap → Option (IV × Heap)) (v0 v3 : IV) (H : Heap) : Option (IV × Heap) :=
    ob (llen H .slice v3) fun t1 =>
    veneerlaw08CallTotalC1S cal φ N cVeneerlaw08Awake cCallDecode cCallMay (fun v0 v3 H => gN v0 v3 H) v0 v3 t1 (.int .i64 0) H
theorem veneerlaw08CallTotalC2Eq (cal : FuncId → Bool) (φ : Oracle) (N : Nat) (cVeneerlaw08Awake cCallDecode cCallMay : FuncId) {k : KT (IV × Heap)} (gN : IV → IV → Heap → Option (IV × Heap)) (hgN : ∀ σ H, k .normal σ H = gN (lk σ 0) (lk σ 3) H) (hR : ∀ σ H, k .ret σ H = resK [(.tmp 2)] [] σ H) : ∀ (σ : Sg) (H : Heap), lxK cal φ N (veneerlaw08CallTotalC2 cVeneerlaw08Awake cCallDecode cCallMay) σ H k = veneerlaw08CallTotalC2S cal φ N cVeneerlaw08Awake cCallDecode cCallMay gN (lk σ 0) (lk σ 3) H := by
  have hk : k = (kN (fun σ H => gN (lk σ 0) (lk σ 3) H) (kR (resK [(.tmp 2)] []) k)) := (kN_mk hgN (kR_mk hR rfl))
  intro σ H
  rw [hk]
  show lxK cal φ N (.reg [
    ⟨(some 12), (.mv (.t 3)), none⟩,
    ⟨(some 13), (.len .slice (.t 12)), none⟩,
    ⟨(some 14), (.mv (.k (.int .i64 0))), none⟩]) σ H (seqK (lxK cal φ N (veneerlaw08CallTotalC1 cVeneerlaw08Awake cCallDecode cCallMay)) (kN (fun σ H => gN (lk σ 0) (lk σ 3) H) (kR (resK [(.tmp 2)] []) k))) = _
  rw [seqK_mk (g := fun σ H => veneerlaw08CallTotalC1S cal φ N cVeneerlaw08Awake cCallDecode cCallMay (fun v0 v3 H => gN v0 v3 H) (lk σ 0) (lk σ 3) (lk σ 13) (lk σ 14) H) (veneerlaw08CallTotalC1Eq cal φ N cVeneerlaw08Awake cCallDecode cCallMay (k := (kN (fun σ H => gN (lk σ 0) (lk σ 3) H) (kR (resK [(.tmp 2)] []) k))) (fun v0 v3 H => gN v0 v3 H) (fun _ _ => rfl) (fun _ _ => rfl))]
  kernel_rfl
def veneerlaw08CallTotalC3S (cal : FuncId → Bool) (φ : Oracle) (N : Nat) (cVeneerlaw08Awake cCallDecode cCallMay : FuncId) (v0 v3 : IV) (H : Heap) : Option (IV × Heap) :=
    veneerlaw08CallTotalC2S cal φ N cVeneerlaw08Awake cCallDecode cCallMay (fun v0 v3 H => ob (llen H .slice v3) fun t1 =>
    ob (lbin .leq t1 (.int .i64 200)) fun t2 =>
    ob (gq (isB t2 true) (some v3)) fun t3 =>
    ob (gq (isB t2 true) (llen H .slice t3)) fun t4 =>
    ob (gq (isB t2 true) (lbin .eql t4 (.int .i64 0))) fun t5 =>
    ob (gq (isB t2 true) (some v0)) fun t6 =>
    ob (gq (isB t2 true) (llen H .slice t6)) fun t7 =>
    ob (gq (isB t2 true) (lbin .eql t7 (.int .i64 0))) fun t8 =>
    ob (gq (isB t2 true) (leqv false (leq .bool t5 t8))) fun t9 =>
    ob (lpick t2 t9 (.bool false)) fun t10 =>
    some (t10, H)) v0 v3 H
theorem veneerlaw08CallTotalC3Eq (cal : FuncId → Bool) (φ : Oracle) (N : Nat) (cVeneerlaw08Awake cCallDecode cCallMay : FuncId) {k : KT (IV × Heap)} (hR : ∀ σ H, k .ret σ H = resK [(.tmp 2)] [] σ H) : ∀ (σ : Sg) (H : Heap), lxK cal φ N (veneerlaw08CallTotalC3 cVeneerlaw08Awake cCallDecode cCallMay) σ H k = veneerlaw08CallTotalC3S cal φ N cVeneerlaw08Awake cCallDecode cCallMay (lk σ 0) (lk σ 3) H := by
  have hk : k = (kR (resK [(.tmp 2)] []) k) := (kR_mk hR rfl)
  intro σ H
  rw [hk]
  show lxK cal φ N (veneerlaw08CallTotalC2 cVeneerlaw08Awake cCallDecode cCallMay) σ H (seqK (lxK cal φ N (.seq (.reg [
    ⟨(some 24), (.mv (.t 3)), none⟩,
    ⟨(some 25), (.len .slice (.t 24)), none⟩,
    ⟨(some 26), (.bin .leq (.t 25) (.k (.int .i64 200))), none⟩,
    ⟨(some 27), (.mv (.t 26)), none⟩,
    ⟨(some 28), (.mv (.t 3)), (some (27, true))⟩,
    ⟨(some 29), (.len .slice (.t 28)), (some (27, true))⟩,
    ⟨(some 30), (.bin .eql (.t 29) (.k (.int .i64 0))), (some (27, true))⟩,
    ⟨(some 31), (.mv (.t 0)), (some (27, true))⟩,
    ⟨(some 32), (.len .slice (.t 31)), (some (27, true))⟩,
    ⟨(some 33), (.bin .eql (.t 32) (.k (.int .i64 0))), (some (27, true))⟩,
    ⟨(some 34), (.eqv false .bool (.t 30) (.t 33)), (some (27, true))⟩,
    ⟨(some 35), (.pick (.t 27) (.t 34) (.k (.bool false))), none⟩,
    ⟨(some 2), (.mv (.t 35)), none⟩])
  .ret)) (kR (resK [(.tmp 2)] []) k)) = _
  exact veneerlaw08CallTotalC2Eq cal φ N cVeneerlaw08Awake cCallDecode cCallMay (k := (seqK (lxK cal φ N (.seq (.reg [
    ⟨(some 24), (.mv (.t 3)), none⟩,
    ⟨(some 25), (.len .slice (.t 24)), none⟩,
    ⟨(some 26), (.bin .leq (.t 25) (.k (.int .i64 200))), none⟩,
    ⟨(some 27), (.mv (.t 26)), none⟩,
    ⟨(some 28), (.mv (.t 3)), (some (27, true))⟩,
    ⟨(some 29), (.len .slice (.t 28)), (some (27, true))⟩,
    ⟨(some 30), (.bin .eql (.t 29) (.k (.int .i64 0))), (some (27, true))⟩,
    ⟨(some 31), (.mv (.t 0)), (some (27, true))⟩,
    ⟨(some 32), (.len .slice (.t 31)), (some (27, true))⟩,
    ⟨(some 33), (.bin .eql (.t 32) (.k (.int .i64 0))), (some (27, true))⟩,
    ⟨(some 34), (.eqv false .bool (.t 30) (.t 33)), (some (27, true))⟩,
    ⟨(some 35), (.pick (.t 27) (.t 34) (.k (.bool false))), none⟩,
    ⟨(some 2), (.mv (.t 35)), none⟩])
  .ret)) (kR (resK [(.tmp 2)] []) k))) (fun v0 v3 H => ob (llen H .slice v3) fun t1 =>
ob (lbin .leq t1 (.int .i64 200)) fun t2 =>
ob (gq (isB t2 true) (some v3)) fun t3 =>
ob (gq (isB t2 true) (llen H .slice t3)) fun t4 =>
ob (gq (isB t2 true) (lbin .eql t4 (.int .i64 0))) fun t5 =>
ob (gq (isB t2 true) (some v0)) fun t6 =>
ob (gq (isB t2 true) (llen H .slice t6)) fun t7 =>
ob (gq (isB t2 true) (lbin .eql t7 (.int .i64 0))) fun t8 =>
ob (gq (isB t2 true) (leqv false (leq .bool t5 t8))) fun t9 =>
ob (lpick t2 t9 (.bool false)) fun t10 =>
some (t10, H)) (fun _ _ => rfl) (fun _ _ => rfl) σ H
def veneerlaw08CallTotalC4S (cal : FuncId → Bool) (φ : Oracle) (N : Nat) (cVeneerlaw08Awake cCallDecode cCallMay : FuncId) (v0 : IV) (H : Heap) : Option (IV × Heap) :=
    ob (φ cCallDecode [v0] H) fun r1 =>
    veneerlaw08CallTotalC3S cal φ N cVeneerlaw08Awake cCallDecode cCallMay v0 r1.1 r1.2
theorem veneerlaw08CallTotalC4Eq (cal : FuncId → Bool) (φ : Oracle) (N : Nat) (cVeneerlaw08Awake cCallDecode cCallMay : FuncId) {k : KT (IV × Heap)} (hR : ∀ σ H, k .ret σ H = resK [(.tmp 2)] [] σ H) : ∀ (σ : Sg) (H : Heap), lxK cal φ N (veneerlaw08CallTotalC4 cVeneerlaw08Awake cCallDecode cCallMay) σ H k = veneerlaw08CallTotalC4S cal φ N cVeneerlaw08Awake cCallDecode cCallMay (lk σ 0) H := by
  have hk : k = (kR (resK [(.tmp 2)] []) k) := (kR_mk hR rfl)
  intro σ H
  rw [hk]
  show lxK cal φ N (.reg [
    ⟨(some 10), (.mv (.t 0)), none⟩,
    ⟨(some 11), (.callF cCallDecode [(.t 10)]), none⟩,
    ⟨(some 3), (.mv (.t 11)), none⟩]) σ H (seqK (lxK cal φ N (veneerlaw08CallTotalC3 cVeneerlaw08Awake cCallDecode cCallMay)) (kR (resK [(.tmp 2)] []) k)) = _
  rw [seqK_mk (g := fun σ H => veneerlaw08CallTotalC3S cal φ N cVeneerlaw08Awake cCallDecode cCallMay (lk σ 0) (lk σ 3) H) (veneerlaw08CallTotalC3Eq cal φ N cVeneerlaw08Awake cCallDecode cCallMay (k := (kR (resK [(.tmp 2)] []) k)) (fun _ _ => rfl))]
  kernel_rfl
def veneerlaw08CallTotalC5S (cal : FuncId → Bool) (φ : Oracle) (N : Nat) (cVeneerlaw08Awake cCallDecode cCallMay : FuncId) (v0 : IV) (H : Heap) : Option (IV × Heap) :=
    ob (llen H .slice v0) fun t1 =>
    ob (lbin .gtr t1 (.int .i64 65536)) fun t2 =>
    cnd t2
    (some ((.bool true), H))
    (veneerlaw08CallTotalC4S cal φ N cVeneerlaw08Awake cCallDecode cCallMay v0 H)
theorem veneerlaw08CallTotalC5Eq (cal : FuncId → Bool) (φ : Oracle) (N : Nat) (cVeneerlaw08Awake cCallDecode cCallMay : FuncId) {k : KT (IV × Heap)} (hR : ∀ σ H, k .ret σ H = resK [(.tmp 2)] [] σ H) : ∀ (σ : Sg) (H : Heap), lxK cal φ N (veneerlaw08CallTotalC5 cVeneerlaw08Awake cCallDecode cCallMay) σ H k = veneerlaw08CallTotalC5S cal φ N cVeneerlaw08Awake cCallDecode cCallMay (lk σ 0) H := by
  have hk : k = (kR (resK [(.tmp 2)] []) k) := (kR_mk hR rfl)
  intro σ H
  rw [hk]
  show lxK cal φ N (.seq (.reg [
    ⟨(some 7), (.mv (.t 0)), none⟩,
    ⟨(some 8), (.len .slice (.t 7)), none⟩,
    ⟨(some 9), (.bin .gtr (.t 8) (.k (.int .i64 65536))), none⟩])
  (.cond (.t 9) (.seq (.reg [
    ⟨(some 2), (.mv (.k (.bool true))), none⟩])
  .ret)
  .skip)) σ H (seqK (lxK cal φ N (veneerlaw08CallTotalC4 cVeneerlaw08Awake cCallDecode cCallMay)) (kR (resK [(.tmp 2)] []) k)) = _
  rw [seqK_mk (g := fun σ H => veneerlaw08CallTotalC4S cal φ N cVeneerlaw08Awake cCallDecode cCallMay (lk σ 0) H) (veneerlaw08CallTotalC4Eq cal φ N cVeneerlaw08Awake cCallDecode cCallMay (k := (kR (resK [(.tmp 2)] []) k)) (fun _ _ => rfl))]
  kernel_rfl
def veneerlaw08CallTotalC6S (cal : FuncId → Bool) (φ : Oracle) (N : Nat) (cVeneerlaw08Awake cCallDecode cCallMay : FuncId) (v0 : IV) (H : Heap) : Option (IV × Heap) :=
    ob (φ cVeneerlaw08Awake [] H) fun r1 =>
    ob (iun .not r1.1) fun t2 =>
    cnd t2
    (some ((.bool false), r1.2))
    (veneerlaw08CallTotalC5S cal φ N cVeneerlaw08Awake cCallDecode cCallMay v0 r1.2)
theorem veneerlaw08CallTotalC6Eq (cal : FuncId → Bool) (φ : Oracle) (N : Nat) (cVeneerlaw08Awake cCallDecode cCallMay : FuncId) {k : KT (IV × Heap)} (hR : ∀ σ H, k .ret σ H = resK [(.tmp 2)] [] σ H) : ∀ (σ : Sg) (H : Heap), lxK cal φ N (veneerlaw08CallTotalC6 cVeneerlaw08Awake cCallDecode cCallMay) σ H k = veneerlaw08CallTotalC6S cal φ N cVeneerlaw08Awake cCallDecode cCallMay (lk σ 0) H := by
  have hk : k = (kR (resK [(.tmp 2)] []) k) := (kR_mk hR rfl)
  intro σ H
  rw [hk]
  show lxK cal φ N (.seq (.reg [
    ⟨(some 5), (.callF cVeneerlaw08Awake []), none⟩,
    ⟨(some 6), (.un .not (.t 5)), none⟩])
  (.cond (.t 6) (.seq (.reg [
    ⟨(some 2), (.mv (.k (.bool false))), none⟩])
  .ret)
  .skip)) σ H (seqK (lxK cal φ N (veneerlaw08CallTotalC5 cVeneerlaw08Awake cCallDecode cCallMay)) (kR (resK [(.tmp 2)] []) k)) = _
  rw [seqK_mk (g := fun σ H => veneerlaw08CallTotalC5S cal φ N cVeneerlaw08Awake cCallDecode cCallMay (lk σ 0) H) (veneerlaw08CallTotalC5Eq cal φ N cVeneerlaw08Awake cCallDecode cCallMay (k := (kR (resK [(.tmp 2)] []) k)) (fun _ _ => rfl))]
  kernel_rfl
def veneerlaw08CallTotalC7S (cal : FuncId → Bool) (φ : Oracle) (N : Nat) (cVeneerlaw08Awake cCallDecode cCallMay : FuncId) (v0 : IV) (H : Heap) : Option (IV × Heap) :=
    veneerlaw08CallTotalC6S cal φ N cVeneerlaw08Awake cCallDecode cCallMay v0 H
theorem veneerlaw08CallTotalC7Eq (cal : FuncId → Bool) (φ : Oracle) (N : Nat) (cVeneerlaw08Awake cCallDecode cCallMay : FuncId) {k : KT (IV × Heap)} (hR : ∀ σ H, k .ret σ H = resK [(.tmp 2)] [] σ H) : ∀ (σ : Sg) (H : Heap), lxK cal φ N (veneerlaw08CallTotalC7 cVeneerlaw08Awake cCallDecode cCallMay) σ H k = veneerlaw08CallTotalC7S cal φ N cVeneerlaw08Awake cCallDecode cCallMay (lk σ 0) H := by
  have hk : k = (kR (resK [(.tmp 2)] []) k) := (kR_mk hR rfl)
  intro σ H
  rw [hk]
  show lxK cal φ N (.reg [
    ⟨(some 2), (.mv (.k (.bool false))), none⟩]) σ H (seqK (lxK cal φ N (veneerlaw08CallTotalC6 cVeneerlaw08Awake cCallDecode cCallMay)) (kR (resK [(.tmp 2)] []) k)) = _
  rw [seqK_mk (g := fun σ H => veneerlaw08CallTotalC6S cal φ N cVeneerlaw08Awake cCallDecode cCallMay (lk σ 0) H) (veneerlaw08CallTotalC6Eq cal φ N cVeneerlaw08Awake cCallDecode cCallMay (k := (kR (resK [(.tmp 2)] []) k)) (fun _ _ => rfl))]
  kernel_rfl
def veneerlaw08CallTotal (cVeneerlaw08Awake cCallDecode cCallMay : FuncId) : LFun := ⟨(veneerlaw08CallTotalC7 cVeneerlaw08Awake cCallDecode cCallMay), [(.tmp 2)], 36⟩
def veneerlaw08CallTotalS (cal : FuncId → Bool) (φ : Oracle) (N : Nat) (cVeneerlaw08Awake cCallDecode cCallMay : FuncId) (v0 : IV) (H : Heap) : Option (IV × Heap) :=
    veneerlaw08CallTotalC7S cal φ N cVeneerlaw08Awake cCallDecode cCallMay v0 H
theorem veneerlaw08CallTotalEq (cal : FuncId → Bool) (φ : Oracle) (N : Nat) (cVeneerlaw08Awake cCallDecode cCallMay : FuncId) (v0 : IV) (H : Heap) : lrunK cal φ N (veneerlaw08CallTotal cVeneerlaw08Awake cCallDecode cCallMay) [v0] H = veneerlaw08CallTotalS cal φ N cVeneerlaw08Awake cCallDecode cCallMay v0 H := by
  show lxK cal φ N (veneerlaw08CallTotalC7 cVeneerlaw08Awake cCallDecode cCallMay) (initFrom 0 [v0]) H (endK [(.tmp 2)]) = _
  exact veneerlaw08CallTotalC7Eq cal φ N cVeneerlaw08Awake cCallDecode cCallMay (k := (endK [(.tmp 2)])) (fun _ _ => rfl) (initFrom 0 [v0]) H

def veneerlaw08CallBack (cVeneerlaw08Awake cCallScript cCallDecode cVeneerlaw08Same : FuncId) : LFun := ⟨(.seq (.reg [
    ⟨(some 4), (.mv (.k (.bool false))), none⟩])
  (.seq (.seq (.reg [
    ⟨(some 10), (.callF cVeneerlaw08Awake []), none⟩,
    ⟨(some 11), (.un .not (.t 10)), none⟩])
  (.cond (.t 11) (.seq (.reg [
    ⟨(some 4), (.mv (.k (.bool false))), none⟩])
  .ret)
  .skip))
  (.seq (.seq (.reg [
    ⟨(some 12), (.mv (.t 0)), none⟩,
    ⟨(some 13), (.len .slice (.t 12)), none⟩,
    ⟨(some 14), (.bin .gtr (.t 13) (.k (.int .i64 300))), none⟩,
    ⟨(some 15), (.mv (.t 14)), none⟩,
    ⟨(some 16), (.mv (.t 1)), (some (15, false))⟩,
    ⟨(some 17), (.len .slice (.t 16)), (some (15, false))⟩,
    ⟨(some 18), (.bin .gtr (.t 17) (.k (.int .i64 65536))), (some (15, false))⟩,
    ⟨(some 19), (.pick (.t 15) (.k (.bool true)) (.t 18)), none⟩])
  (.cond (.t 19) (.seq (.reg [
    ⟨(some 4), (.mv (.k (.bool true))), none⟩])
  .ret)
  .skip))
  (.seq (.reg [
    ⟨(some 21), (.mv (.t 0)), none⟩,
    ⟨(some 22), (.callF cCallScript [(.t 21)]), none⟩,
    ⟨(some 20), (.mv (.t 22)), none⟩,
    ⟨(some 23), (.ext (.t 20) 0), none⟩,
    ⟨(some 24), (.ext (.t 20) 1), none⟩,
    ⟨(some 5), (.mv (.t 23)), none⟩,
    ⟨(some 6), (.mv (.t 24)), none⟩])
  (.seq (.seq (.reg [
    ⟨(some 25), (.mv (.t 6)), none⟩,
    ⟨(some 26), (.bin .eql (.t 25) (.k (.int .i64 0))), none⟩,
    ⟨(some 27), (.mv (.t 26)), none⟩,
    ⟨(some 28), (.mv (.t 5)), (some (27, true))⟩,
    ⟨(some 29), (.callF cCallDecode [(.t 28)]), (some (27, true))⟩,
    ⟨(some 30), (.mv (.t 0)), (some (27, true))⟩,
    ⟨(some 31), (.callF cVeneerlaw08Same [(.t 29), (.t 30)]), (some (27, true))⟩,
    ⟨(some 32), (.un .not (.t 31)), (some (27, true))⟩,
    ⟨(some 33), (.pick (.t 27) (.t 32) (.k (.bool false))), none⟩])
  (.cond (.t 33) (.seq (.reg [
    ⟨(some 4), (.mv (.k (.bool false))), none⟩])
  .ret)
  .skip))
  (.seq (.reg [
    ⟨(some 34), (.mv (.t 1)), none⟩,
    ⟨(some 35), (.callF cCallDecode [(.t 34)]), none⟩,
    ⟨(some 7), (.mv (.t 35)), none⟩])
  (.seq (.reg [
    ⟨(some 37), (.mv (.t 7)), none⟩,
    ⟨(some 38), (.callF cCallScript [(.t 37)]), none⟩,
    ⟨(some 36), (.mv (.t 38)), none⟩,
    ⟨(some 39), (.ext (.t 36) 0), none⟩,
    ⟨(some 40), (.ext (.t 36) 1), none⟩,
    ⟨(some 8), (.mv (.t 39)), none⟩,
    ⟨(some 9), (.mv (.t 40)), none⟩])
  (.seq (.reg [
    ⟨(some 41), (.mv (.t 9)), none⟩,
    ⟨(some 42), (.bin .eql (.t 41) (.k (.int .i64 0))), none⟩,
    ⟨(some 43), (.mv (.t 42)), none⟩,
    ⟨(some 44), (.mv (.t 8)), (some (43, true))⟩,
    ⟨(some 45), (.callF cCallDecode [(.t 44)]), (some (43, true))⟩,
    ⟨(some 46), (.mv (.t 7)), (some (43, true))⟩,
    ⟨(some 47), (.callF cVeneerlaw08Same [(.t 45), (.t 46)]), (some (43, true))⟩,
    ⟨(some 48), (.pick (.t 43) (.t 47) (.k (.bool false))), none⟩,
    ⟨(some 4), (.mv (.t 48)), none⟩])
  .ret)))))))), [(.tmp 4)], 49⟩
def veneerlaw08CallBackS (cal : FuncId → Bool) (φ : Oracle) (N : Nat) (cVeneerlaw08Awake cCallScript cCallDecode cVeneerlaw08Same : FuncId) (v0 v1 : IV) (H : Heap) : Option (IV × Heap) :=
    ob (φ cVeneerlaw08Awake [] H) fun r1 =>
    ob (iun .not r1.1) fun t2 =>
    cnd t2
    (some ((.bool false), r1.2))
    (ob (llen r1.2 .slice v0) fun t3 =>
    ob (lbin .gtr t3 (.int .i64 300)) fun t4 =>
    ob (gq (isB t4 false) (some v1)) fun t5 =>
    ob (gq (isB t4 false) (llen r1.2 .slice t5)) fun t6 =>
    ob (gq (isB t4 false) (lbin .gtr t6 (.int .i64 65536))) fun t7 =>
    ob (lpick t4 (.bool true) t7) fun t8 =>
    cnd t8
    (some ((.bool true), r1.2))
    (ob (φ cCallScript [v0] r1.2) fun r9 =>
    ob (iextract r9.1 0) fun t10 =>
    ob (iextract r9.1 1) fun t11 =>
    ob (lbin .eql t11 (.int .i64 0)) fun t12 =>
    ob (gq (isB t12 true) (some t10)) fun t13 =>
    ob (ge (isB t12 true) r9.2 (φ cCallDecode [t13] r9.2)) fun r14 =>
    ob (gq (isB t12 true) (some v0)) fun t15 =>
    ob (ge (isB t12 true) r14.2 (φ cVeneerlaw08Same [r14.1, t15] r14.2)) fun r16 =>
    ob (gq (isB t12 true) (iun .not r16.1)) fun t17 =>
    ob (lpick t12 t17 (.bool false)) fun t18 =>
    cnd t18
    (some ((.bool false), r16.2))
    (ob (φ cCallDecode [v1] r16.2) fun r19 =>
    ob (φ cCallScript [r19.1] r19.2) fun r20 =>
    ob (iextract r20.1 0) fun t21 =>
    ob (iextract r20.1 1) fun t22 =>
    ob (lbin .eql t22 (.int .i64 0)) fun t23 =>
    ob (gq (isB t23 true) (some t21)) fun t24 =>
    ob (ge (isB t23 true) r20.2 (φ cCallDecode [t24] r20.2)) fun r25 =>
    ob (gq (isB t23 true) (some r19.1)) fun t26 =>
    ob (ge (isB t23 true) r25.2 (φ cVeneerlaw08Same [r25.1, t26] r25.2)) fun r27 =>
    ob (lpick t23 r27.1 (.bool false)) fun t28 =>
    some (t28, r27.2))))
theorem veneerlaw08CallBackEq (cal : FuncId → Bool) (φ : Oracle) (N : Nat) (cVeneerlaw08Awake cCallScript cCallDecode cVeneerlaw08Same : FuncId) (v0 v1 : IV) (H : Heap) : lrunK cal φ N (veneerlaw08CallBack cVeneerlaw08Awake cCallScript cCallDecode cVeneerlaw08Same) [v0, v1] H = veneerlaw08CallBackS cal φ N cVeneerlaw08Awake cCallScript cCallDecode cVeneerlaw08Same v0 v1 H := by
  kernel_rfl

def veneerlaw08CallJoins (cVeneerlaw08Awake cCallScript cCallDecode cVeneerlaw08Same : FuncId) : LFun := ⟨(.seq (.reg [
    ⟨(some 4), (.mv (.k (.bool false))), none⟩])
  (.seq (.seq (.reg [
    ⟨(some 9), (.callF cVeneerlaw08Awake []), none⟩,
    ⟨(some 10), (.un .not (.t 9)), none⟩])
  (.cond (.t 10) (.seq (.reg [
    ⟨(some 4), (.mv (.k (.bool false))), none⟩])
  .ret)
  .skip))
  (.seq (.seq (.reg [
    ⟨(some 11), (.mv (.t 0)), none⟩,
    ⟨(some 12), (.len .slice (.t 11)), none⟩,
    ⟨(some 13), (.bin .gtr (.t 12) (.k (.int .i64 100))), none⟩,
    ⟨(some 14), (.mv (.t 13)), none⟩,
    ⟨(some 15), (.mv (.t 1)), (some (14, false))⟩,
    ⟨(some 16), (.len .slice (.t 15)), (some (14, false))⟩,
    ⟨(some 17), (.bin .gtr (.t 16) (.k (.int .i64 100))), (some (14, false))⟩,
    ⟨(some 18), (.pick (.t 14) (.k (.bool true)) (.t 17)), none⟩])
  (.cond (.t 18) (.seq (.reg [
    ⟨(some 4), (.mv (.k (.bool true))), none⟩])
  .ret)
  .skip))
  (.seq (.reg [
    ⟨(some 20), (.mv (.t 0)), none⟩,
    ⟨(some 21), (.callF cCallScript [(.t 20)]), none⟩,
    ⟨(some 19), (.mv (.t 21)), none⟩,
    ⟨(some 22), (.ext (.t 19) 0), none⟩,
    ⟨(some 23), (.ext (.t 19) 1), none⟩,
    ⟨(some 5), (.mv (.t 22)), none⟩,
    ⟨(some 6), (.mv (.t 23)), none⟩])
  (.seq (.reg [
    ⟨(some 25), (.mv (.t 1)), none⟩,
    ⟨(some 26), (.callF cCallScript [(.t 25)]), none⟩,
    ⟨(some 24), (.mv (.t 26)), none⟩,
    ⟨(some 27), (.ext (.t 24) 0), none⟩,
    ⟨(some 28), (.ext (.t 24) 1), none⟩,
    ⟨(some 7), (.mv (.t 27)), none⟩,
    ⟨(some 8), (.mv (.t 28)), none⟩])
  (.seq (.seq (.reg [
    ⟨(some 29), (.mv (.t 6)), none⟩,
    ⟨(some 30), (.bin .neq (.t 29) (.k (.int .i64 0))), none⟩,
    ⟨(some 31), (.mv (.t 30)), none⟩,
    ⟨(some 32), (.mv (.t 8)), (some (31, false))⟩,
    ⟨(some 33), (.bin .neq (.t 32) (.k (.int .i64 0))), (some (31, false))⟩,
    ⟨(some 34), (.pick (.t 31) (.k (.bool true)) (.t 33)), none⟩])
  (.cond (.t 34) (.seq (.reg [
    ⟨(some 4), (.mv (.k (.bool true))), none⟩])
  .ret)
  .skip))
  (.seq (.reg [
    ⟨(some 35), (.bldS 1 0 [(.int .u8 0)] []), none⟩,
    ⟨(some 36), (.mv (.t 5)), none⟩,
    ⟨(some 37), (.app 1 1 (.t 35) (.t 36)), none⟩,
    ⟨(some 38), (.mv (.t 7)), none⟩,
    ⟨(some 39), (.app 1 1 (.t 37) (.t 38)), none⟩,
    ⟨(some 40), (.callF cCallDecode [(.t 39)]), none⟩,
    ⟨(some 41), (.bldS 7 0 [(.int .i64 0), (.int .i64 0), (.int .i64 0), (.int .i64 0), (.int .i64 0), (.str []), (.str [])] []), none⟩,
    ⟨(some 42), (.mv (.t 0)), none⟩,
    ⟨(some 43), (.app 7 72 (.t 41) (.t 42)), none⟩,
    ⟨(some 44), (.mv (.t 1)), none⟩,
    ⟨(some 45), (.app 7 72 (.t 43) (.t 44)), none⟩,
    ⟨(some 46), (.callF cVeneerlaw08Same [(.t 40), (.t 45)]), none⟩,
    ⟨(some 4), (.mv (.t 46)), none⟩])
  .ret))))))), [(.tmp 4)], 47⟩
def veneerlaw08CallJoinsS (cal : FuncId → Bool) (φ : Oracle) (N : Nat) (cVeneerlaw08Awake cCallScript cCallDecode cVeneerlaw08Same : FuncId) (v0 v1 : IV) (H : Heap) : Option (IV × Heap) :=
    ob (φ cVeneerlaw08Awake [] H) fun r1 =>
    ob (iun .not r1.1) fun t2 =>
    cnd t2
    (some ((.bool false), r1.2))
    (ob (llen r1.2 .slice v0) fun t3 =>
    ob (lbin .gtr t3 (.int .i64 100)) fun t4 =>
    ob (gq (isB t4 false) (some v1)) fun t5 =>
    ob (gq (isB t4 false) (llen r1.2 .slice t5)) fun t6 =>
    ob (gq (isB t4 false) (lbin .gtr t6 (.int .i64 100))) fun t7 =>
    ob (lpick t4 (.bool true) t7) fun t8 =>
    cnd t8
    (some ((.bool true), r1.2))
    (ob (φ cCallScript [v0] r1.2) fun r9 =>
    ob (iextract r9.1 0) fun t10 =>
    ob (iextract r9.1 1) fun t11 =>
    ob (φ cCallScript [v1] r9.2) fun r12 =>
    ob (iextract r12.1 0) fun t13 =>
    ob (iextract r12.1 1) fun t14 =>
    ob (lbin .neq t11 (.int .i64 0)) fun t15 =>
    ob (gq (isB t15 false) (some t14)) fun t16 =>
    ob (gq (isB t15 false) (lbin .neq t16 (.int .i64 0))) fun t17 =>
    ob (lpick t15 (.bool true) t17) fun t18 =>
    cnd t18
    (some ((.bool true), r12.2))
    (ob (lbldS r12.2 1 0 [(.int .u8 0)] []) fun r19 =>
    ob (lapp r19.2 1 1 r19.1 t10) fun r20 =>
    ob (lapp r20.2 1 1 r20.1 t13) fun r21 =>
    ob (φ cCallDecode [r21.1] r21.2) fun r22 =>
    ob (lbldS r22.2 7 0 [(.int .i64 0), (.int .i64 0), (.int .i64 0), (.int .i64 0), (.int .i64 0), (.str []), (.str [])] []) fun r23 =>
    ob (lapp r23.2 7 72 r23.1 v0) fun r24 =>
    ob (lapp r24.2 7 72 r24.1 v1) fun r25 =>
    ob (φ cVeneerlaw08Same [r22.1, r25.1] r25.2) fun r26 =>
    some (r26.1, r26.2))))
theorem veneerlaw08CallJoinsEq (cal : FuncId → Bool) (φ : Oracle) (N : Nat) (cVeneerlaw08Awake cCallScript cCallDecode cVeneerlaw08Same : FuncId) (v0 v1 : IV) (H : Heap) : lrunK cal φ N (veneerlaw08CallJoins cVeneerlaw08Awake cCallScript cCallDecode cVeneerlaw08Same) [v0, v1] H = veneerlaw08CallJoinsS cal φ N cVeneerlaw08Awake cCallScript cCallDecode cVeneerlaw08Same v0 v1 H := by
  kernel_rfl

def veneerlaw08CallAhead (cVeneerlaw08Awake cCallScript cCallDecode cVeneerlaw08Same : FuncId) : LFun := ⟨(.seq (.reg [
    ⟨(some 4), (.mv (.k (.bool false))), none⟩])
  (.seq (.seq (.reg [
    ⟨(some 9), (.callF cVeneerlaw08Awake []), none⟩,
    ⟨(some 10), (.un .not (.t 9)), none⟩])
  (.cond (.t 10) (.seq (.reg [
    ⟨(some 4), (.mv (.k (.bool false))), none⟩])
  .ret)
  .skip))
  (.seq (.seq (.reg [
    ⟨(some 11), (.mv (.t 0)), none⟩,
    ⟨(some 12), (.len .slice (.t 11)), none⟩,
    ⟨(some 13), (.bin .gtr (.t 12) (.k (.int .i64 150))), none⟩,
    ⟨(some 14), (.mv (.t 13)), none⟩,
    ⟨(some 15), (.mv (.t 1)), (some (14, false))⟩,
    ⟨(some 16), (.len .slice (.t 15)), (some (14, false))⟩,
    ⟨(some 17), (.bin .gtr (.t 16) (.k (.int .i64 16384))), (some (14, false))⟩,
    ⟨(some 18), (.pick (.t 14) (.k (.bool true)) (.t 17)), none⟩])
  (.cond (.t 18) (.seq (.reg [
    ⟨(some 4), (.mv (.k (.bool true))), none⟩])
  .ret)
  .skip))
  (.seq (.reg [
    ⟨(some 20), (.mv (.t 0)), none⟩,
    ⟨(some 21), (.callF cCallScript [(.t 20)]), none⟩,
    ⟨(some 19), (.mv (.t 21)), none⟩,
    ⟨(some 22), (.ext (.t 19) 0), none⟩,
    ⟨(some 23), (.ext (.t 19) 1), none⟩,
    ⟨(some 5), (.mv (.t 22)), none⟩,
    ⟨(some 6), (.mv (.t 23)), none⟩])
  (.seq (.seq (.reg [
    ⟨(some 24), (.mv (.t 6)), none⟩,
    ⟨(some 25), (.bin .neq (.t 24) (.k (.int .i64 0))), none⟩])
  (.cond (.t 25) (.seq (.reg [
    ⟨(some 4), (.mv (.k (.bool true))), none⟩])
  .ret)
  .skip))
  (.seq (.reg [
    ⟨(some 26), (.bldS 1 0 [(.int .u8 0)] []), none⟩,
    ⟨(some 27), (.mv (.t 5)), none⟩,
    ⟨(some 28), (.app 1 1 (.t 26) (.t 27)), none⟩,
    ⟨(some 29), (.mv (.t 1)), none⟩,
    ⟨(some 30), (.app 1 1 (.t 28) (.t 29)), none⟩,
    ⟨(some 31), (.callF cCallDecode [(.t 30)]), none⟩,
    ⟨(some 7), (.mv (.t 31)), none⟩])
  (.seq (.reg [
    ⟨(some 32), (.mv (.t 1)), none⟩,
    ⟨(some 33), (.callF cCallDecode [(.t 32)]), none⟩,
    ⟨(some 8), (.mv (.t 33)), none⟩])
  (.seq (.seq (.reg [
    ⟨(some 34), (.mv (.t 7)), none⟩,
    ⟨(some 35), (.len .slice (.t 34)), none⟩,
    ⟨(some 36), (.mv (.t 0)), none⟩,
    ⟨(some 37), (.len .slice (.t 36)), none⟩,
    ⟨(some 38), (.bin .lss (.t 35) (.t 37)), none⟩,
    ⟨(some 39), (.mv (.t 38)), none⟩,
    ⟨(some 40), (.mv (.t 7)), (some (39, false))⟩,
    ⟨(some 41), (.mv (.t 0)), (some (39, false))⟩,
    ⟨(some 42), (.len .slice (.t 41)), (some (39, false))⟩,
    ⟨(some 43), (.slc (.slice 7) (.t 40) none (some (.t 42)) none), (some (39, false))⟩,
    ⟨(some 44), (.mv (.t 0)), (some (39, false))⟩,
    ⟨(some 45), (.callF cVeneerlaw08Same [(.t 43), (.t 44)]), (some (39, false))⟩,
    ⟨(some 46), (.un .not (.t 45)), (some (39, false))⟩,
    ⟨(some 47), (.pick (.t 39) (.k (.bool true)) (.t 46)), none⟩])
  (.cond (.t 47) (.seq (.reg [
    ⟨(some 4), (.mv (.k (.bool false))), none⟩])
  .ret)
  .skip))
  (.seq (.drw [
    ⟨(some 48), (.mv (.t 7)), none⟩,
    ⟨(some 49), (.mv (.t 0)), none⟩,
    ⟨(some 50), (.len .slice (.t 49)), none⟩,
    ⟨(some 51), (.slc (.slice 7) (.t 48) (some (.t 50)) none none), none⟩,
    ⟨(some 52), (.mv (.t 8)), none⟩,
    ⟨(some 53), (.mv (.t 8)), none⟩,
    ⟨(some 54), (.len .slice (.t 53)), none⟩,
    ⟨(some 55), (.mv (.t 0)), none⟩,
    ⟨(some 56), (.len .slice (.t 55)), none⟩,
    ⟨(some 57), (.bin .sub (.k (.int .i64 200)) (.t 56)), none⟩,
    ⟨(some 58), (.fold false (.t 54) [(.t 57)]), none⟩,
    ⟨(some 59), (.slc (.slice 7) (.t 52) none (some (.t 58)) none), none⟩,
    ⟨(some 60), (.callF cVeneerlaw08Same [(.t 51), (.t 59)]), none⟩,
    ⟨(some 4), (.mv (.t 60)), none⟩] [])
  .ret))))))))), [(.tmp 4)], 61⟩
def veneerlaw08CallAheadS (cal : FuncId → Bool) (φ : Oracle) (N : Nat) (cVeneerlaw08Awake cCallScript cCallDecode cVeneerlaw08Same : FuncId) (v0 v1 : IV) (H : Heap) : Option (IV × Heap) :=
    ob (φ cVeneerlaw08Awake [] H) fun r1 =>
    ob (iun .not r1.1) fun t2 =>
    cnd t2
    (some ((.bool false), r1.2))
    (ob (llen r1.2 .slice v0) fun t3 =>
    ob (lbin .gtr t3 (.int .i64 150)) fun t4 =>
    ob (gq (isB t4 false) (some v1)) fun t5 =>
    ob (gq (isB t4 false) (llen r1.2 .slice t5)) fun t6 =>
    ob (gq (isB t4 false) (lbin .gtr t6 (.int .i64 16384))) fun t7 =>
    ob (lpick t4 (.bool true) t7) fun t8 =>
    cnd t8
    (some ((.bool true), r1.2))
    (ob (φ cCallScript [v0] r1.2) fun r9 =>
    ob (iextract r9.1 0) fun t10 =>
    ob (iextract r9.1 1) fun t11 =>
    ob (lbin .neq t11 (.int .i64 0)) fun t12 =>
    cnd t12
    (some ((.bool true), r9.2))
    (ob (lbldS r9.2 1 0 [(.int .u8 0)] []) fun r13 =>
    ob (lapp r13.2 1 1 r13.1 t10) fun r14 =>
    ob (lapp r14.2 1 1 r14.1 v1) fun r15 =>
    ob (φ cCallDecode [r15.1] r15.2) fun r16 =>
    ob (φ cCallDecode [v1] r16.2) fun r17 =>
    ob (llen r17.2 .slice r16.1) fun t18 =>
    ob (llen r17.2 .slice v0) fun t19 =>
    ob (lbin .lss t18 t19) fun t20 =>
    ob (gq (isB t20 false) (some r16.1)) fun t21 =>
    ob (gq (isB t20 false) (some v0)) fun t22 =>
    ob (gq (isB t20 false) (llen r17.2 .slice t22)) fun t23 =>
    ob (gq (isB t20 false) (lslice r17.2 (.slice 7) t21 none (some t23) none)) fun t24 =>
    ob (gq (isB t20 false) (some v0)) fun t25 =>
    ob (ge (isB t20 false) r17.2 (φ cVeneerlaw08Same [t24, t25] r17.2)) fun r26 =>
    ob (gq (isB t20 false) (iun .not r26.1)) fun t27 =>
    ob (lpick t20 (.bool true) t27) fun t28 =>
    cnd t28
    (some ((.bool false), r26.2))
    (ob (llen r26.2 .slice v0) fun t29 =>
    ob (lslice r26.2 (.slice 7) r16.1 (some t29) none none) fun t30 =>
    ob (llen r26.2 .slice r17.1) fun t31 =>
    ob (llen r26.2 .slice v0) fun t32 =>
    ob (lbin .sub (.int .i64 200) t32) fun t33 =>
    ob (ifold imin2 t31 [t33]) fun t34 =>
    ob (lslice r26.2 (.slice 7) r17.1 none (some t34) none) fun t35 =>
    ob (φ cVeneerlaw08Same [t30, t35] r26.2) fun r36 =>
    some (r36.1, r36.2)))))
theorem veneerlaw08CallAheadEq (cal : FuncId → Bool) (φ : Oracle) (N : Nat) (cVeneerlaw08Awake cCallScript cCallDecode cVeneerlaw08Same : FuncId) (v0 v1 : IV) (H : Heap) : lrunK cal φ N (veneerlaw08CallAhead cVeneerlaw08Awake cCallScript cCallDecode cVeneerlaw08Same) [v0, v1] H = veneerlaw08CallAheadS cal φ N cVeneerlaw08Awake cCallScript cCallDecode cVeneerlaw08Same v0 v1 H := by
  kernel_rfl

def veneerlaw08CallApart (cVeneerlaw08Awake cCallEncode : FuncId) : LFun := ⟨(.seq (.reg [
    ⟨(some 2), (.box (.t 0)), none⟩,
    ⟨(some 3), (.box (.t 1)), none⟩,
    ⟨(some 4), (.mv (.k (.bool false))), none⟩])
  (.seq (.seq (.reg [
    ⟨(some 10), (.callF cVeneerlaw08Awake []), none⟩,
    ⟨(some 11), (.un .not (.t 10)), none⟩])
  (.cond (.t 11) (.seq (.reg [
    ⟨(some 4), (.mv (.k (.bool false))), none⟩])
  .ret)
  .skip))
  (.seq (.seq (.reg [
    ⟨(some 12), (.off (.t 2) 5), none⟩,
    ⟨(some 13), (.ld1 (.t 12)), none⟩,
    ⟨(some 14), (.len .str (.t 13)), none⟩,
    ⟨(some 15), (.off (.t 2) 6), none⟩,
    ⟨(some 16), (.ld1 (.t 15)), none⟩,
    ⟨(some 17), (.len .str (.t 16)), none⟩,
    ⟨(some 18), (.bin .add (.t 14) (.t 17)), none⟩,
    ⟨(some 19), (.bin .gtr (.t 18) (.k (.int .i64 65536))), none⟩,
    ⟨(some 20), (.mv (.t 19)), none⟩,
    ⟨(some 21), (.off (.t 3) 5), (some (20, false))⟩,
    ⟨(some 22), (.ld1 (.t 21)), (some (20, false))⟩,
    ⟨(some 23), (.len .str (.t 22)), (some (20, false))⟩,
    ⟨(some 24), (.off (.t 3) 6), (some (20, false))⟩,
    ⟨(some 25), (.ld1 (.t 24)), (some (20, false))⟩,
    ⟨(some 26), (.len .str (.t 25)), (some (20, false))⟩,
    ⟨(some 27), (.bin .add (.t 23) (.t 26)), (some (20, false))⟩,
    ⟨(some 28), (.bin .gtr (.t 27) (.k (.int .i64 65536))), (some (20, false))⟩,
    ⟨(some 29), (.pick (.t 20) (.k (.bool true)) (.t 28)), none⟩])
  (.cond (.t 29) (.seq (.reg [
    ⟨(some 4), (.mv (.k (.bool true))), none⟩])
  .ret)
  .skip))
  (.seq (.reg [
    ⟨(some 31), (.ldn 7 (.t 2)), none⟩,
    ⟨(some 32), (.callF cCallEncode [(.t 31)]), none⟩,
    ⟨(some 30), (.mv (.t 32)), none⟩,
    ⟨(some 33), (.ext (.t 30) 0), none⟩,
    ⟨(some 34), (.ext (.t 30) 1), none⟩,
    ⟨(some 5), (.mv (.t 33)), none⟩,
    ⟨(some 6), (.mv (.t 34)), none⟩])
  (.seq (.reg [
    ⟨(some 36), (.ldn 7 (.t 3)), none⟩,
    ⟨(some 37), (.callF cCallEncode [(.t 36)]), none⟩,
    ⟨(some 35), (.mv (.t 37)), none⟩,
    ⟨(some 38), (.ext (.t 35) 0), none⟩,
    ⟨(some 39), (.ext (.t 35) 1), none⟩,
    ⟨(some 7), (.mv (.t 38)), none⟩,
    ⟨(some 8), (.mv (.t 39)), none⟩])
  (.seq (.seq (.reg [
    ⟨(some 40), (.mv (.t 6)), none⟩,
    ⟨(some 41), (.bin .neq (.t 40) (.k (.int .i64 0))), none⟩,
    ⟨(some 42), (.mv (.t 41)), none⟩,
    ⟨(some 43), (.mv (.t 8)), (some (42, false))⟩,
    ⟨(some 44), (.bin .neq (.t 43) (.k (.int .i64 0))), (some (42, false))⟩,
    ⟨(some 45), (.pick (.t 42) (.k (.bool true)) (.t 44)), none⟩])
  (.cond (.t 45) (.seq (.reg [
    ⟨(some 4), (.mv (.k (.bool true))), none⟩])
  .ret)
  .skip))
  (.seq (.reg [
    ⟨(some 46), (.mv (.t 5)), none⟩,
    ⟨(some 47), (.len .slice (.t 46)), none⟩,
    ⟨(some 48), (.mv (.t 7)), none⟩,
    ⟨(some 49), (.len .slice (.t 48)), none⟩,
    ⟨(some 50), (.fold false (.t 47) [(.t 49)]), none⟩,
    ⟨(some 9), (.mv (.t 50)), none⟩])
  (.seq (.drw [
    ⟨(some 51), (.ldn 7 (.t 2)), none⟩,
    ⟨(some 52), (.ldn 7 (.t 3)), none⟩,
    ⟨(some 53), (.eqv false (.struct [(0, .int), (1, .int), (2, .int), (3, .int), (4, .int), (5, .str), (6, .str)]) (.t 51) (.t 52)), none⟩,
    ⟨(some 54), (.mv (.t 5)), none⟩,
    ⟨(some 55), (.mv (.t 9)), none⟩,
    ⟨(some 56), (.slc (.slice 1) (.t 54) none (some (.t 55)) none), none⟩,
    ⟨(some 57), (.b2s (.t 56)), none⟩,
    ⟨(some 58), (.mv (.t 7)), none⟩,
    ⟨(some 59), (.mv (.t 9)), none⟩,
    ⟨(some 60), (.slc (.slice 1) (.t 58) none (some (.t 59)) none), none⟩,
    ⟨(some 61), (.b2s (.t 60)), none⟩,
    ⟨(some 62), (.bin .eql (.t 57) (.t 61)), none⟩,
    ⟨(some 63), (.eqv false .bool (.t 53) (.t 62)), none⟩,
    ⟨(some 4), (.mv (.t 63)), none⟩] [])
  .ret)))))))), [(.tmp 4)], 64⟩
def veneerlaw08CallApartS (cal : FuncId → Bool) (φ : Oracle) (N : Nat) (cVeneerlaw08Awake cCallEncode : FuncId) (v0 v1 : IV) (H : Heap) : Option (IV × Heap) :=
    ob (lbox H v0) fun r1 =>
    ob (lbox r1.2 v1) fun r2 =>
    ob (φ cVeneerlaw08Awake [] r2.2) fun r3 =>
    ob (iun .not r3.1) fun t4 =>
    cnd t4
    (some ((.bool false), r3.2))
    (ob (loff r1.1 5) fun t5 =>
    ob (lload1 r3.2 t5) fun t6 =>
    ob (llen r3.2 .str t6) fun t7 =>
    ob (loff r1.1 6) fun t8 =>
    ob (lload1 r3.2 t8) fun t9 =>
    ob (llen r3.2 .str t9) fun t10 =>
    ob (lbin .add t7 t10) fun t11 =>
    ob (lbin .gtr t11 (.int .i64 65536)) fun t12 =>
    ob (gq (isB t12 false) (loff r2.1 5)) fun t13 =>
    ob (gq (isB t12 false) (lload1 r3.2 t13)) fun t14 =>
    ob (gq (isB t12 false) (llen r3.2 .str t14)) fun t15 =>
    ob (gq (isB t12 false) (loff r2.1 6)) fun t16 =>
    ob (gq (isB t12 false) (lload1 r3.2 t16)) fun t17 =>
    ob (gq (isB t12 false) (llen r3.2 .str t17)) fun t18 =>
    ob (gq (isB t12 false) (lbin .add t15 t18)) fun t19 =>
    ob (gq (isB t12 false) (lbin .gtr t19 (.int .i64 65536))) fun t20 =>
    ob (lpick t12 (.bool true) t20) fun t21 =>
    cnd t21
    (some ((.bool true), r3.2))
    (ob (lloadn r3.2 7 r1.1) fun t22 =>
    ob (φ cCallEncode [t22] r3.2) fun r23 =>
    ob (iextract r23.1 0) fun t24 =>
    ob (iextract r23.1 1) fun t25 =>
    ob (lloadn r23.2 7 r2.1) fun t26 =>
    ob (φ cCallEncode [t26] r23.2) fun r27 =>
    ob (iextract r27.1 0) fun t28 =>
    ob (iextract r27.1 1) fun t29 =>
    ob (lbin .neq t25 (.int .i64 0)) fun t30 =>
    ob (gq (isB t30 false) (some t29)) fun t31 =>
    ob (gq (isB t30 false) (lbin .neq t31 (.int .i64 0))) fun t32 =>
    ob (lpick t30 (.bool true) t32) fun t33 =>
    cnd t33
    (some ((.bool true), r27.2))
    (ob (llen r27.2 .slice t24) fun t34 =>
    ob (llen r27.2 .slice t28) fun t35 =>
    ob (ifold imin2 t34 [t35]) fun t36 =>
    ob (lloadn r27.2 7 r1.1) fun t37 =>
    ob (lloadn r27.2 7 r2.1) fun t38 =>
    ob (leqv false (leq (.struct [(0, .int), (1, .int), (2, .int), (3, .int), (4, .int), (5, .str), (6, .str)]) t37 t38)) fun t39 =>
    ob (lslice r27.2 (.slice 1) t24 none (some t36) none) fun t40 =>
    ob (lb2s r27.2 t40) fun t41 =>
    ob (lslice r27.2 (.slice 1) t28 none (some t36) none) fun t42 =>
    ob (lb2s r27.2 t42) fun t43 =>
    ob (lbin .eql t41 t43) fun t44 =>
    ob (leqv false (leq .bool t39 t44)) fun t45 =>
    some (t45, r27.2))))
theorem veneerlaw08CallApartEq (cal : FuncId → Bool) (φ : Oracle) (N : Nat) (cVeneerlaw08Awake cCallEncode : FuncId) (v0 v1 : IV) (H : Heap) : lrunK cal φ N (veneerlaw08CallApart cVeneerlaw08Awake cCallEncode) [v0, v1] H = veneerlaw08CallApartS cal φ N cVeneerlaw08Awake cCallEncode v0 v1 H := by
  kernel_rfl

end Go.Shade
