/- CALL, part 1: the low code of the layer 'call' and of its reference, and plain functions of the same meaning. Printed by gen.py. -/
import Derived.Test.YtdljmmdbpngchaaShadeK
import Derived.KernelRfl
namespace Go.Shade
set_option linter.unusedVariables false

def callWithin : LFun := ⟨(.seq (.reg [
    ⟨(some 6), (.mv (.k (.bool false))), none⟩])
  (.seq (.reg [
    ⟨(some 7), (.mv (.t 0)), none⟩,
    ⟨(some 8), (.mv (.t 1)), none⟩,
    ⟨(some 9), (.bin .geq (.t 7) (.t 8)), none⟩,
    ⟨(some 10), (.mv (.t 9)), none⟩,
    ⟨(some 11), (.mv (.t 0)), (some (10, true))⟩,
    ⟨(some 12), (.mv (.t 2)), (some (10, true))⟩,
    ⟨(some 13), (.bin .leq (.t 11) (.t 12)), (some (10, true))⟩,
    ⟨(some 14), (.pick (.t 10) (.t 13) (.k (.bool false))), none⟩,
    ⟨(some 6), (.mv (.t 14)), none⟩])
  .ret)), [(.tmp 6)], 15⟩
def callWithinS (cal : FuncId → Bool) (φ : Oracle) (N : Nat) (v0 v1 v2 : IV) (H : Heap) : Option (IV × Heap) :=
    ob (lbin .geq v0 v1) fun t1 =>
    ob (gq (isB t1 true) (some v0)) fun t2 =>
    ob (gq (isB t1 true) (some v2)) fun t3 =>
    ob (gq (isB t1 true) (lbin .leq t2 t3)) fun t4 =>
    ob (lpick t1 t4 (.bool false)) fun t5 =>
    some (t5, H)
theorem callWithinEq (cal : FuncId → Bool) (φ : Oracle) (N : Nat) (v0 v1 v2 : IV) (H : Heap) : lrunK cal φ N (callWithin) [v0, v1, v2] H = callWithinS cal φ N v0 v1 v2 H := by
  kernel_rfl

def callMay (cCallWithin : FuncId) : LFun := ⟨(.seq (.reg [
    ⟨(some 1), (.box (.t 0)), none⟩,
    ⟨(some 2), (.mv (.k (.bool false))), none⟩])
  (.seq (.reg [
    ⟨(some 3), (.off (.t 1) 0), none⟩,
    ⟨(some 4), (.ld1 (.t 3)), none⟩,
    ⟨(some 5), (.callF cCallWithin [(.t 4), (.k (.int .i64 1)), (.k (.int .i64 20))]), none⟩,
    ⟨(some 6), (.mv (.t 5)), none⟩,
    ⟨(some 7), (.off (.t 1) 1), (some (6, true))⟩,
    ⟨(some 8), (.ld1 (.t 7)), (some (6, true))⟩,
    ⟨(some 9), (.callF cCallWithin [(.t 8), (.k (.int .i64 (-4))), (.k (.int .i64 35))]), (some (6, true))⟩,
    ⟨(some 10), (.pick (.t 6) (.t 9) (.k (.bool false))), none⟩,
    ⟨(some 11), (.mv (.t 10)), none⟩,
    ⟨(some 12), (.off (.t 1) 2), (some (11, true))⟩,
    ⟨(some 13), (.ld1 (.t 12)), (some (11, true))⟩,
    ⟨(some 14), (.callF cCallWithin [(.t 13), (.k (.int .i64 0)), (.k (.int .i64 63))]), (some (11, true))⟩,
    ⟨(some 15), (.pick (.t 11) (.t 14) (.k (.bool false))), none⟩,
    ⟨(some 16), (.mv (.t 15)), none⟩,
    ⟨(some 17), (.off (.t 1) 3), (some (16, true))⟩,
    ⟨(some 18), (.ld1 (.t 17)), (some (16, true))⟩,
    ⟨(some 19), (.callF cCallWithin [(.t 18), (.k (.int .i64 (-256))), (.k (.int .i64 65279))]), (some (16, true))⟩,
    ⟨(some 20), (.pick (.t 16) (.t 19) (.k (.bool false))), none⟩,
    ⟨(some 21), (.mv (.t 20)), none⟩,
    ⟨(some 22), (.off (.t 1) 4), (some (21, true))⟩,
    ⟨(some 23), (.ld1 (.t 22)), (some (21, true))⟩,
    ⟨(some 24), (.callF cCallWithin [(.t 23), (.k (.int .i64 (-256))), (.k (.int .i64 65279))]), (some (21, true))⟩,
    ⟨(some 25), (.pick (.t 21) (.t 24) (.k (.bool false))), none⟩,
    ⟨(some 26), (.mv (.t 25)), none⟩,
    ⟨(some 27), (.off (.t 1) 5), (some (26, true))⟩,
    ⟨(some 28), (.ld1 (.t 27)), (some (26, true))⟩,
    ⟨(some 29), (.len .str (.t 28)), (some (26, true))⟩,
    ⟨(some 30), (.bin .lss (.t 29) (.k (.int .i64 64))), (some (26, true))⟩,
    ⟨(some 31), (.pick (.t 26) (.t 30) (.k (.bool false))), none⟩,
    ⟨(some 32), (.mv (.t 31)), none⟩,
    ⟨(some 33), (.off (.t 1) 6), (some (32, true))⟩,
    ⟨(some 34), (.ld1 (.t 33)), (some (32, true))⟩,
    ⟨(some 35), (.len .str (.t 34)), (some (32, true))⟩,
    ⟨(some 36), (.bin .lss (.t 35) (.k (.int .i64 64))), (some (32, true))⟩,
    ⟨(some 37), (.pick (.t 32) (.t 36) (.k (.bool false))), none⟩,
    ⟨(some 2), (.mv (.t 37)), none⟩])
  .ret)), [(.tmp 2)], 38⟩
def callMayS (cal : FuncId → Bool) (φ : Oracle) (N : Nat) (cCallWithin : FuncId) (v0 : IV) (H : Heap) : Option (IV × Heap) :=
    ob (lbox H v0) fun r1 =>
    ob (loff r1.1 0) fun t2 =>
    ob (lload1 r1.2 t2) fun t3 =>
    ob (φ cCallWithin [t3, (.int .i64 1), (.int .i64 20)] r1.2) fun r4 =>
    ob (gq (isB r4.1 true) (loff r1.1 1)) fun t5 =>
    ob (gq (isB r4.1 true) (lload1 r4.2 t5)) fun t6 =>
    ob (ge (isB r4.1 true) r4.2 (φ cCallWithin [t6, (.int .i64 (-4)), (.int .i64 35)] r4.2)) fun r7 =>
    ob (lpick r4.1 r7.1 (.bool false)) fun t8 =>
    ob (gq (isB t8 true) (loff r1.1 2)) fun t9 =>
    ob (gq (isB t8 true) (lload1 r7.2 t9)) fun t10 =>
    ob (ge (isB t8 true) r7.2 (φ cCallWithin [t10, (.int .i64 0), (.int .i64 63)] r7.2)) fun r11 =>
    ob (lpick t8 r11.1 (.bool false)) fun t12 =>
    ob (gq (isB t12 true) (loff r1.1 3)) fun t13 =>
    ob (gq (isB t12 true) (lload1 r11.2 t13)) fun t14 =>
    ob (ge (isB t12 true) r11.2 (φ cCallWithin [t14, (.int .i64 (-256)), (.int .i64 65279)] r11.2)) fun r15 =>
    ob (lpick t12 r15.1 (.bool false)) fun t16 =>
    ob (gq (isB t16 true) (loff r1.1 4)) fun t17 =>
    ob (gq (isB t16 true) (lload1 r15.2 t17)) fun t18 =>
    ob (ge (isB t16 true) r15.2 (φ cCallWithin [t18, (.int .i64 (-256)), (.int .i64 65279)] r15.2)) fun r19 =>
    ob (lpick t16 r19.1 (.bool false)) fun t20 =>
    ob (gq (isB t20 true) (loff r1.1 5)) fun t21 =>
    ob (gq (isB t20 true) (lload1 r19.2 t21)) fun t22 =>
    ob (gq (isB t20 true) (llen r19.2 .str t22)) fun t23 =>
    ob (gq (isB t20 true) (lbin .lss t23 (.int .i64 64))) fun t24 =>
    ob (lpick t20 t24 (.bool false)) fun t25 =>
    ob (gq (isB t25 true) (loff r1.1 6)) fun t26 =>
    ob (gq (isB t25 true) (lload1 r19.2 t26)) fun t27 =>
    ob (gq (isB t25 true) (llen r19.2 .str t27)) fun t28 =>
    ob (gq (isB t25 true) (lbin .lss t28 (.int .i64 64))) fun t29 =>
    ob (lpick t25 t29 (.bool false)) fun t30 =>
    some (t30, r19.2)
theorem callMayEq (cal : FuncId → Bool) (φ : Oracle) (N : Nat) (cCallWithin : FuncId) (v0 : IV) (H : Heap) : lrunK cal φ N (callMay cCallWithin) [v0] H = callMayS cal φ N cCallWithin v0 H := by
  kernel_rfl

def callEncode (cCallMay : FuncId) : LFun := ⟨(.seq (.reg [
    ⟨(some 1), (.box (.t 0)), none⟩,
    ⟨(some 2), (.mv (.k .nilSlice)), none⟩,
    ⟨(some 3), (.mv (.k (.int .i64 0))), none⟩])
  (.seq (.seq (.reg [
    ⟨(some 7), (.ldn 7 (.t 1)), none⟩,
    ⟨(some 8), (.callF cCallMay [(.t 7)]), none⟩,
    ⟨(some 9), (.un .not (.t 8)), none⟩])
  (.cond (.t 9) (.seq (.reg [
    ⟨(some 2), (.mv (.k .nilSlice)), none⟩,
    ⟨(some 3), (.mv (.k (.int .i64 22))), none⟩])
  .ret)
  .skip))
  (.seq (.drw [
    ⟨(some 10), (.off (.t 1) 3), none⟩,
    ⟨(some 11), (.ld1 (.t 10)), none⟩,
    ⟨(some 12), (.bin .sub (.t 11) (.k (.int .i64 (-256)))), none⟩,
    ⟨(some 13), (.off (.t 1) 4), none⟩,
    ⟨(some 14), (.ld1 (.t 13)), none⟩,
    ⟨(some 15), (.bin .sub (.t 14) (.k (.int .i64 (-256)))), none⟩,
    ⟨(some 4), (.mv (.t 12)), none⟩,
    ⟨(some 5), (.mv (.t 15)), none⟩] [])
  (.seq (.reg [
    ⟨(some 16), (.off (.t 1) 0), none⟩,
    ⟨(some 17), (.ld1 (.t 16)), none⟩,
    ⟨(some 18), (.bin .sub (.t 17) (.k (.int .i64 1))), none⟩,
    ⟨(some 19), (.cvt .u8 (.t 18)), none⟩,
    ⟨(some 20), (.off (.t 1) 1), none⟩,
    ⟨(some 21), (.ld1 (.t 20)), none⟩,
    ⟨(some 22), (.bin .sub (.t 21) (.k (.int .i64 (-4)))), none⟩,
    ⟨(some 23), (.cvt .u8 (.t 22)), none⟩,
    ⟨(some 24), (.off (.t 1) 2), none⟩,
    ⟨(some 25), (.ld1 (.t 24)), none⟩,
    ⟨(some 26), (.cvt .u8 (.t 25)), none⟩,
    ⟨(some 27), (.mv (.t 4)), none⟩,
    ⟨(some 28), (.bin .shr (.t 27) (.k (.int .u64 8))), none⟩,
    ⟨(some 29), (.cvt .u8 (.t 28)), none⟩,
    ⟨(some 30), (.mv (.t 4)), none⟩,
    ⟨(some 31), (.cvt .u8 (.t 30)), none⟩,
    ⟨(some 32), (.mv (.t 5)), none⟩,
    ⟨(some 33), (.bin .shr (.t 32) (.k (.int .u64 8))), none⟩,
    ⟨(some 34), (.cvt .u8 (.t 33)), none⟩,
    ⟨(some 35), (.mv (.t 5)), none⟩,
    ⟨(some 36), (.cvt .u8 (.t 35)), none⟩,
    ⟨(some 37), (.off (.t 1) 5), none⟩,
    ⟨(some 38), (.ld1 (.t 37)), none⟩,
    ⟨(some 39), (.len .str (.t 38)), none⟩,
    ⟨(some 40), (.cvt .u8 (.t 39)), none⟩,
    ⟨(some 41), (.bldS 1 8 [(.int .u8 0)] [(0, (.t 19)), (1, (.t 23)), (2, (.t 26)), (3, (.t 29)), (4, (.t 31)), (5, (.t 34)), (6, (.t 36)), (7, (.t 40))]), none⟩,
    ⟨(some 6), (.mv (.t 41)), none⟩])
  (.seq (.reg [
    ⟨(some 42), (.mv (.t 6)), none⟩,
    ⟨(some 43), (.off (.t 1) 5), none⟩,
    ⟨(some 44), (.ld1 (.t 43)), none⟩,
    ⟨(some 45), (.app 1 1 (.t 42) (.t 44)), none⟩,
    ⟨(some 6), (.mv (.t 45)), none⟩])
  (.seq (.reg [
    ⟨(some 46), (.mv (.t 6)), none⟩,
    ⟨(some 47), (.off (.t 1) 6), none⟩,
    ⟨(some 48), (.ld1 (.t 47)), none⟩,
    ⟨(some 49), (.len .str (.t 48)), none⟩,
    ⟨(some 50), (.cvt .u8 (.t 49)), none⟩,
    ⟨(some 51), (.bldS 1 1 [(.int .u8 0)] [(0, (.t 50))]), none⟩,
    ⟨(some 52), (.app 1 1 (.t 46) (.t 51)), none⟩,
    ⟨(some 6), (.mv (.t 52)), none⟩])
  (.seq (.reg [
    ⟨(some 53), (.mv (.t 6)), none⟩,
    ⟨(some 54), (.off (.t 1) 6), none⟩,
    ⟨(some 55), (.ld1 (.t 54)), none⟩,
    ⟨(some 56), (.app 1 1 (.t 53) (.t 55)), none⟩,
    ⟨(some 2), (.mv (.t 56)), none⟩,
    ⟨(some 3), (.mv (.k (.int .i64 0))), none⟩])
  .ret))))))), [(.tmp 2), (.tmp 3)], 57⟩
def callEncodeS (cal : FuncId → Bool) (φ : Oracle) (N : Nat) (cCallMay : FuncId) (v0 : IV) (H : Heap) : Option (IV × Heap) :=
    ob (lbox H v0) fun r1 =>
    ob (lloadn r1.2 7 r1.1) fun t2 =>
    ob (φ cCallMay [t2] r1.2) fun r3 =>
    ob (iun .not r3.1) fun t4 =>
    cnd t4
    (some ((.tuple [.nilSlice, (.int .i64 22)]), r3.2))
    (ob (loff r1.1 3) fun t5 =>
    ob (lload1 r3.2 t5) fun t6 =>
    ob (lbin .sub t6 (.int .i64 (-256))) fun t7 =>
    ob (loff r1.1 4) fun t8 =>
    ob (lload1 r3.2 t8) fun t9 =>
    ob (lbin .sub t9 (.int .i64 (-256))) fun t10 =>
    ob (loff r1.1 0) fun t11 =>
    ob (lload1 r3.2 t11) fun t12 =>
    ob (lbin .sub t12 (.int .i64 1)) fun t13 =>
    ob (lcvt .u8 t13) fun t14 =>
    ob (loff r1.1 1) fun t15 =>
    ob (lload1 r3.2 t15) fun t16 =>
    ob (lbin .sub t16 (.int .i64 (-4))) fun t17 =>
    ob (lcvt .u8 t17) fun t18 =>
    ob (loff r1.1 2) fun t19 =>
    ob (lload1 r3.2 t19) fun t20 =>
    ob (lcvt .u8 t20) fun t21 =>
    ob (lbin .shr t7 (.int .u64 8)) fun t22 =>
    ob (lcvt .u8 t22) fun t23 =>
    ob (lcvt .u8 t7) fun t24 =>
    ob (lbin .shr t10 (.int .u64 8)) fun t25 =>
    ob (lcvt .u8 t25) fun t26 =>
    ob (lcvt .u8 t10) fun t27 =>
    ob (loff r1.1 5) fun t28 =>
    ob (lload1 r3.2 t28) fun t29 =>
    ob (llen r3.2 .str t29) fun t30 =>
    ob (lcvt .u8 t30) fun t31 =>
    ob (lbldS r3.2 1 8 [(.int .u8 0)] [(0, t14), (1, t18), (2, t21), (3, t23), (4, t24), (5, t26), (6, t27), (7, t31)]) fun r32 =>
    ob (loff r1.1 5) fun t33 =>
    ob (lload1 r32.2 t33) fun t34 =>
    ob (lapp r32.2 1 1 r32.1 t34) fun r35 =>
    ob (loff r1.1 6) fun t36 =>
    ob (lload1 r35.2 t36) fun t37 =>
    ob (llen r35.2 .str t37) fun t38 =>
    ob (lcvt .u8 t38) fun t39 =>
    ob (lbldS r35.2 1 1 [(.int .u8 0)] [(0, t39)]) fun r40 =>
    ob (lapp r40.2 1 1 r35.1 r40.1) fun r41 =>
    ob (loff r1.1 6) fun t42 =>
    ob (lload1 r41.2 t42) fun t43 =>
    ob (lapp r41.2 1 1 r41.1 t43) fun r44 =>
    some ((.tuple [r44.1, (.int .i64 0)]), r44.2))
theorem callEncodeEq (cal : FuncId → Bool) (φ : Oracle) (N : Nat) (cCallMay : FuncId) (v0 : IV) (H : Heap) : lrunK cal φ N (callEncode cCallMay) [v0] H = callEncodeS cal φ N cCallMay v0 H := by
  kernel_rfl

def callScriptC0 (cCallEncode : FuncId) : LC := .loop (.seq (.reg [
    ⟨(some 15), (.bin .lss (.t 14) (.t 13)), none⟩])
  (.seq (.cond (.t 15) .skip
  (.exit 0))
  (.seq (.block 1 (.seq (.reg [
    ⟨(some 16), (.ix 7 (.t 12) (.t 14)), none⟩,
    ⟨(some 17), (.ldn 7 (.t 16)), none⟩,
    ⟨(some 6), (.zbox (.agg [(.int .i64 0), (.int .i64 0), (.int .i64 0), (.int .i64 0), (.int .i64 0), (.str []), (.str [])])), none⟩,
    ⟨none, (.st 7 (.t 6) (.t 17)), none⟩])
  (.seq (.reg [
    ⟨(some 19), (.ldn 7 (.t 6)), none⟩,
    ⟨(some 20), (.callF cCallEncode [(.t 19)]), none⟩,
    ⟨(some 18), (.mv (.t 20)), none⟩,
    ⟨(some 21), (.ext (.t 18) 0), none⟩,
    ⟨(some 22), (.ext (.t 18) 1), none⟩,
    ⟨(some 7), (.mv (.t 21)), none⟩,
    ⟨(some 8), (.mv (.t 22)), none⟩])
  (.seq (.seq (.reg [
    ⟨(some 23), (.mv (.t 8)), none⟩,
    ⟨(some 24), (.bin .neq (.t 23) (.k (.int .i64 0))), none⟩])
  (.cond (.t 24) (.seq (.reg [
    ⟨(some 25), (.mv (.t 8)), none⟩,
    ⟨(some 2), (.mv (.k .nilSlice)), none⟩,
    ⟨(some 3), (.mv (.t 25)), none⟩])
  .ret)
  .skip))
  (.reg [
    ⟨(some 26), (.mv (.t 4)), none⟩,
    ⟨(some 27), (.mv (.t 7)), none⟩,
    ⟨(some 28), (.app 1 1 (.t 26) (.t 27)), none⟩,
    ⟨(some 4), (.mv (.t 28)), none⟩])))))
  (.reg [
    ⟨(some 29), (.bin .add (.t 14) (.k (.int .i64 1))), none⟩,
    ⟨(some 14), (.mv (.t 29)), none⟩]))))
def callScriptC1 (cCallEncode : FuncId) : LC := .block 0 (callScriptC0 cCallEncode)
def callScriptC2 (cCallEncode : FuncId) : LC := .seq (.reg [
    ⟨(some 12), (.mv (.t 0)), none⟩,
    ⟨(some 13), (.len .slice (.t 12)), none⟩,
    ⟨(some 14), (.mv (.k (.int .i64 0))), none⟩]) (callScriptC1 cCallEncode)
def callScriptC3 (cCallEncode : FuncId) : LC := .seq (callScriptC2 cCallEncode) (.seq (.reg [
    ⟨(some 30), (.mv (.t 4)), none⟩,
    ⟨(some 2), (.mv (.t 30)), none⟩,
    ⟨(some 3), (.mv (.k (.int .i64 0))), none⟩])
  .ret)
def callScriptC4 (cCallEncode : FuncId) : LC := .seq (.reg [
    ⟨(some 4), (.mv (.k .nilSlice)), none⟩]) (callScriptC3 cCallEncode)
def callScriptC5 (cCallEncode : FuncId) : LC := .seq (.seq (.reg [
    ⟨(some 9), (.mv (.t 0)), none⟩,
    ⟨(some 10), (.len .slice (.t 9)), none⟩,
    ⟨(some 11), (.bin .gtr (.t 10) (.k (.int .i64 200))), none⟩])
  (.cond (.t 11) (.seq (.reg [
    ⟨(some 2), (.mv (.k .nilSlice)), none⟩,
    ⟨(some 3), (.mv (.k (.int .i64 22))), none⟩])
  .ret)
  .skip)) (callScriptC4 cCallEncode)
def callScriptC6 (cCallEncode : FuncId) : LC := .seq (.reg [
    ⟨(some 2), (.mv (.k .nilSlice)), none⟩,
    ⟨(some 3), (.mv (.k (.int .i64 0))), none⟩]) (callScriptC5 cCallEncode)
def callScriptC0S (cal : FuncId → Bool) (φ : Oracle) (N : Nat) (cCallEncode : FuncId) (gE0 : IV → Heap → Option (IV × Heap)) : Nat → IV → IV → IV → IV → Heap → Option (IV × Heap)
  | 0, _, _, _, _, _ => none
  | n + 1, v4, v12, v13, v14, H =>
    ob (lbin .lss v14 v13) fun t1 =>
    cnd t1
    (ob (lix 7 v12 v14) fun t2 =>
    ob (lloadn H 7 t2) fun t3 =>
    ob (lzbox H (.agg [(.int .i64 0), (.int .i64 0), (.int .i64 0), (.int .i64 0), (.int .i64 0), (.str []), (.str [])])) fun r4 =>
    ob (lstV r4.2 7 r4.1 t3) fun r5 =>
    ob (lloadn r5.2 7 r4.1) fun t6 =>
    ob (φ cCallEncode [t6] r5.2) fun r7 =>
    ob (iextract r7.1 0) fun t8 =>
    ob (iextract r7.1 1) fun t9 =>
    ob (lbin .neq t9 (.int .i64 0)) fun t10 =>
    cnd t10
    (some ((.tuple [.nilSlice, t9]), r7.2))
    (ob (lapp r7.2 1 1 v4 t8) fun r11 =>
    ob (lbin .add v14 (.int .i64 1)) fun t12 =>
    callScriptC0S cal φ N cCallEncode gE0 n r11.1 v12 v13 t12 r11.2))
    (gE0 v4 H)
theorem callScriptC0Eq (cal : FuncId → Bool) (φ : Oracle) (N : Nat) (cCallEncode : FuncId) {k : KT (IV × Heap)} (gE0 : IV → Heap → Option (IV × Heap)) (hgE0 : ∀ σ H, k (.exit 0) σ H = gE0 (lk σ 4) H) (hR : ∀ σ H, k .ret σ H = resK [(.tmp 2), (.tmp 3)] [] σ H) : ∀ (n : Nat) (σ : Sg) (H : Heap), itK (lxK cal φ N (.seq (.reg [
    ⟨(some 15), (.bin .lss (.t 14) (.t 13)), none⟩])
  (.seq (.cond (.t 15) .skip
  (.exit 0))
  (.seq (.block 1 (.seq (.reg [
    ⟨(some 16), (.ix 7 (.t 12) (.t 14)), none⟩,
    ⟨(some 17), (.ldn 7 (.t 16)), none⟩,
    ⟨(some 6), (.zbox (.agg [(.int .i64 0), (.int .i64 0), (.int .i64 0), (.int .i64 0), (.int .i64 0), (.str []), (.str [])])), none⟩,
    ⟨none, (.st 7 (.t 6) (.t 17)), none⟩])
  (.seq (.reg [
    ⟨(some 19), (.ldn 7 (.t 6)), none⟩,
    ⟨(some 20), (.callF cCallEncode [(.t 19)]), none⟩,
    ⟨(some 18), (.mv (.t 20)), none⟩,
    ⟨(some 21), (.ext (.t 18) 0), none⟩,
    ⟨(some 22), (.ext (.t 18) 1), none⟩,
    ⟨(some 7), (.mv (.t 21)), none⟩,
    ⟨(some 8), (.mv (.t 22)), none⟩])
  (.seq (.seq (.reg [
    ⟨(some 23), (.mv (.t 8)), none⟩,
    ⟨(some 24), (.bin .neq (.t 23) (.k (.int .i64 0))), none⟩])
  (.cond (.t 24) (.seq (.reg [
    ⟨(some 25), (.mv (.t 8)), none⟩,
    ⟨(some 2), (.mv (.k .nilSlice)), none⟩,
    ⟨(some 3), (.mv (.t 25)), none⟩])
  .ret)
  .skip))
  (.reg [
    ⟨(some 26), (.mv (.t 4)), none⟩,
    ⟨(some 27), (.mv (.t 7)), none⟩,
    ⟨(some 28), (.app 1 1 (.t 26) (.t 27)), none⟩,
    ⟨(some 4), (.mv (.t 28)), none⟩])))))
  (.reg [
    ⟨(some 29), (.bin .add (.t 14) (.k (.int .i64 1))), none⟩,
    ⟨(some 14), (.mv (.t 29)), none⟩]))))) n σ H k = callScriptC0S cal φ N cCallEncode gE0 n (lk σ 4) (lk σ 12) (lk σ 13) (lk σ 14) H := by
  have hk : k = (kE 0 (fun σ H => gE0 (lk σ 4) H) (kR (resK [(.tmp 2), (.tmp 3)] []) k)) := (kE_mk hgE0 (kR_mk hR rfl))
  intro n
  induction n with
  | zero => intro σ H; rfl
  | succ n ih =>
    intro σ H
    rw [itK_succ, seqK_mk (g := fun σ H => callScriptC0S cal φ N cCallEncode gE0 n (lk σ 4) (lk σ 12) (lk σ 13) (lk σ 14) H) ih, hk]
    kernel_rfl
def callScriptC1S (cal : FuncId → Bool) (φ : Oracle) (N : Nat) (cCallEncode : FuncId) (gN : IV → Heap → Option (IV × Heap)) (v4 v12 v13 v14 : IV) (H : Heap) : Option (IV × Heap) :=
    callScriptC0S cal φ N cCallEncode (fun v4 H => gN v4 H) N v4 v12 v13 v14 H
theorem callScriptC1Eq (cal : FuncId → Bool) (φ : Oracle) (N : Nat) (cCallEncode : FuncId) {k : KT (IV × Heap)} (gN : IV → Heap → Option (IV × Heap)) (hgN : ∀ σ H, k .normal σ H = gN (lk σ 4) H) (hR : ∀ σ H, k .ret σ H = resK [(.tmp 2), (.tmp 3)] [] σ H) : ∀ (σ : Sg) (H : Heap), lxK cal φ N (callScriptC1 cCallEncode) σ H k = callScriptC1S cal φ N cCallEncode gN (lk σ 4) (lk σ 12) (lk σ 13) (lk σ 14) H := by
  have hk : k = (kN (fun σ H => gN (lk σ 4) H) (kR (resK [(.tmp 2), (.tmp 3)] []) k)) := (kN_mk hgN (kR_mk hR rfl))
  intro σ H
  rw [hk]
  show lxK cal φ N (callScriptC0 cCallEncode) σ H (blockK 0 (kN (fun σ H => gN (lk σ 4) H) (kR (resK [(.tmp 2), (.tmp 3)] []) k))) = _
  exact callScriptC0Eq cal φ N cCallEncode (k := (blockK 0 (kN (fun σ H => gN (lk σ 4) H) (kR (resK [(.tmp 2), (.tmp 3)] []) k)))) (fun v4 H => gN v4 H) (fun _ _ => rfl) (fun _ _ => rfl) N σ H
def callScriptC2S (cal : FuncId → Bool) (φ : Oracle) (N : Nat) (cCallEncode : FuncId) (gN : IV → Heap → Option (IV × Heap)) (v0 v4 : IV) (H : Heap) : Option (IV × Heap) :=
    ob (llen H .slice v0) fun t1 =>
    callScriptC1S cal φ N cCallEncode (fun v4 H => gN v4 H) v4 v0 t1 (.int .i64 0) H
theorem callScriptC2Eq (cal : FuncId → Bool) (φ : Oracle) (N : Nat) (cCallEncode : FuncId) {k : KT (IV × Heap)} (gN : IV → Heap → Option (IV × Heap)) (hgN : ∀ σ H, k .normal σ H = gN (lk σ 4) H) (hR : ∀ σ H, k .ret σ H = resK [(.tmp 2), (.tmp 3)] [] σ H) : ∀ (σ : Sg) (H : Heap), lxK cal φ N (callScriptC2 cCallEncode) σ H k = callScriptC2S cal φ N cCallEncode gN (lk σ 0) (lk σ 4) H := by
  have hk : k = (kN (fun σ H => gN (lk σ 4) H) (kR (resK [(.tmp 2), (.tmp 3)] []) k)) := (kN_mk hgN (kR_mk hR rfl))
  intro σ H
  rw [hk]
  show lxK cal φ N (.reg [
    ⟨(some 12), (.mv (.t 0)), none⟩,
    ⟨(some 13), (.len .slice (.t 12)), none⟩,
    ⟨(some 14), (.mv (.k (.int .i64 0))), none⟩]) σ H (seqK (lxK cal φ N (callScriptC1 cCallEncode)) (kN (fun σ H => gN (lk σ 4) H) (kR (resK [(.tmp 2), (.tmp 3)] []) k))) = _
  rw [seqK_mk (g := fun σ H => callScriptC1S cal φ N cCallEncode (fun v4 H => gN v4 H) (lk σ 4) (lk σ 12) (lk σ 13) (lk σ 14) H) (callScriptC1Eq cal φ N cCallEncode (k := (kN (fun σ H => gN (lk σ 4) H) (kR (resK [(.tmp 2), (.tmp 3)] []) k))) (fun v4 H => gN v4 H) (fun _ _ => rfl) (fun _ _ => rfl))]
  kernel_rfl
def callScriptC3S (cal : FuncId → Bool) (φ : Oracle) (N : Nat) (cCallEncode : FuncId) (v0 v4 : IV) (H : Heap) : Option (IV × Heap) :=
    callScriptC2S cal φ N cCallEncode (fun v4 H => some ((.tuple [v4, (.int .i64 0)]), H)) v0 v4 H
theorem callScriptC3Eq (cal : FuncId → Bool) (φ : Oracle) (N : Nat) (cCallEncode : FuncId) {k : KT (IV × Heap)} (hR : ∀ σ H, k .ret σ H = resK [(.tmp 2), (.tmp 3)] [] σ H) : ∀ (σ : Sg) (H : Heap), lxK cal φ N (callScriptC3 cCallEncode) σ H k = callScriptC3S cal φ N cCallEncode (lk σ 0) (lk σ 4) H := by
  have hk : k = (kR (resK [(.tmp 2), (.tmp 3)] []) k) := (kR_mk hR rfl)
  intro σ H
  rw [hk]
  show lxK cal φ N (callScriptC2 cCallEncode) σ H (seqK (lxK cal φ N (.seq (.reg [
    ⟨(some 30), (.mv (.t 4)), none⟩,
    ⟨(some 2), (.mv (.t 30)), none⟩,
    ⟨(some 3), (.mv (.k (.int .i64 0))), none⟩])
  .ret)) (kR (resK [(.tmp 2), (.tmp 3)] []) k)) = _
  exact callScriptC2Eq cal φ N cCallEncode (k := (seqK (lxK cal φ N (.seq (.reg [
    ⟨(some 30), (.mv (.t 4)), none⟩,
    ⟨(some 2), (.mv (.t 30)), none⟩,
    ⟨(some 3), (.mv (.k (.int .i64 0))), none⟩])
  .ret)) (kR (resK [(.tmp 2), (.tmp 3)] []) k))) (fun v4 H => some ((.tuple [v4, (.int .i64 0)]), H)) (fun _ _ => rfl) (fun _ _ => rfl) σ H
def callScriptC4S (cal : FuncId → Bool) (φ : Oracle) (N : Nat) (cCallEncode : FuncId) (v0 : IV) (H : Heap) : Option (IV × Heap) :=
    callScriptC3S cal φ N cCallEncode v0 .nilSlice H
theorem callScriptC4Eq (cal : FuncId → Bool) (φ : Oracle) (N : Nat) (cCallEncode : FuncId) {k : KT (IV × Heap)} (hR : ∀ σ H, k .ret σ H = resK [(.tmp 2), (.tmp 3)] [] σ H) : ∀ (σ : Sg) (H : Heap), lxK cal φ N (callScriptC4 cCallEncode) σ H k = callScriptC4S cal φ N cCallEncode (lk σ 0) H := by
  have hk : k = (kR (resK [(.tmp 2), (.tmp 3)] []) k) := (kR_mk hR rfl)
  intro σ H
  rw [hk]
  show lxK cal φ N (.reg [
    ⟨(some 4), (.mv (.k .nilSlice)), none⟩]) σ H (seqK (lxK cal φ N (callScriptC3 cCallEncode)) (kR (resK [(.tmp 2), (.tmp 3)] []) k)) = _
  rw [seqK_mk (g := fun σ H => callScriptC3S cal φ N cCallEncode (lk σ 0) (lk σ 4) H) (callScriptC3Eq cal φ N cCallEncode (k := (kR (resK [(.tmp 2), (.tmp 3)] []) k)) (fun _ _ => rfl))]
  kernel_rfl
def callScriptC5S (cal : FuncId → Bool) (φ : Oracle) (N : Nat) (cCallEncode : FuncId) (v0 : IV) (H : Heap) : Option (IV × Heap) :=
    ob (llen H .slice v0) fun t1 =>
    ob (lbin .gtr t1 (.int .i64 200)) fun t2 =>
    cnd t2
    (some ((.tuple [.nilSlice, (.int .i64 22)]), H))
    (callScriptC4S cal φ N cCallEncode v0 H)
theorem callScriptC5Eq (cal : FuncId → Bool) (φ : Oracle) (N : Nat) (cCallEncode : FuncId) {k : KT (IV × Heap)} (hR : ∀ σ H, k .ret σ H = resK [(.tmp 2), (.tmp 3)] [] σ H) : ∀ (σ : Sg) (H : Heap), lxK cal φ N (callScriptC5 cCallEncode) σ H k = callScriptC5S cal φ N cCallEncode (lk σ 0) H := by
  have hk : k = (kR (resK [(.tmp 2), (.tmp 3)] []) k) := (kR_mk hR rfl)
  intro σ H
  rw [hk]
  show lxK cal φ N (.seq (.reg [
    ⟨(some 9), (.mv (.t 0)), none⟩,
    ⟨(some 10), (.len .slice (.t 9)), none⟩,
    ⟨(some 11), (.bin .gtr (.t 10) (.k (.int .i64 200))), none⟩])
  (.cond (.t 11) (.seq (.reg [
    ⟨(some 2), (.mv (.k .nilSlice)), none⟩,
    ⟨(some 3), (.mv (.k (.int .i64 22))), none⟩])
  .ret)
  .skip)) σ H (seqK (lxK cal φ N (callScriptC4 cCallEncode)) (kR (resK [(.tmp 2), (.tmp 3)] []) k)) = _
  rw [seqK_mk (g := fun σ H => callScriptC4S cal φ N cCallEncode (lk σ 0) H) (callScriptC4Eq cal φ N cCallEncode (k := (kR (resK [(.tmp 2), (.tmp 3)] []) k)) (fun _ _ => rfl))]
  kernel_rfl
def callScriptC6S (cal : FuncId → Bool) (φ : Oracle) (N : Nat) (cCallEncode : FuncId) (v0 : IV) (H : Heap) : Option (IV × Heap) :=
    callScriptC5S cal φ N cCallEncode v0 H
theorem callScriptC6Eq (cal : FuncId → Bool) (φ : Oracle) (N : Nat) (cCallEncode : FuncId) {k : KT (IV × Heap)} (hR : ∀ σ H, k .ret σ H = resK [(.tmp 2), (.tmp 3)] [] σ H) : ∀ (σ : Sg) (H : Heap), lxK cal φ N (callScriptC6 cCallEncode) σ H k = callScriptC6S cal φ N cCallEncode (lk σ 0) H := by
  have hk : k = (kR (resK [(.tmp 2), (.tmp 3)] []) k) := (kR_mk hR rfl)
  intro σ H
  rw [hk]
  show lxK cal φ N (.reg [
    ⟨(some 2), (.mv (.k .nilSlice)), none⟩,
    ⟨(some 3), (.mv (.k (.int .i64 0))), none⟩]) σ H (seqK (lxK cal φ N (callScriptC5 cCallEncode)) (kR (resK [(.tmp 2), (.tmp 3)] []) k)) = _
  rw [seqK_mk (g := fun σ H => callScriptC5S cal φ N cCallEncode (lk σ 0) H) (callScriptC5Eq cal φ N cCallEncode (k := (kR (resK [(.tmp 2), (.tmp 3)] []) k)) (fun _ _ => rfl))]
  kernel_rfl
def callScript (cCallEncode : FuncId) : LFun := ⟨(callScriptC6 cCallEncode), [(.tmp 2), (.tmp 3)], 31⟩
def callScriptS (cal : FuncId → Bool) (φ : Oracle) (N : Nat) (cCallEncode : FuncId) (v0 : IV) (H : Heap) : Option (IV × Heap) :=
    callScriptC6S cal φ N cCallEncode v0 H
theorem callScriptEq (cal : FuncId → Bool) (φ : Oracle) (N : Nat) (cCallEncode : FuncId) (v0 : IV) (H : Heap) : lrunK cal φ N (callScript cCallEncode) [v0] H = callScriptS cal φ N cCallEncode v0 H := by
  show lxK cal φ N (callScriptC6 cCallEncode) (initFrom 0 [v0]) H (endK [(.tmp 2), (.tmp 3)]) = _
  exact callScriptC6Eq cal φ N cCallEncode (k := (endK [(.tmp 2), (.tmp 3)])) (fun _ _ => rfl) (initFrom 0 [v0]) H

def veneerlaw08SameC0 : LC := .loop (.seq (.reg [
    ⟨(some 14), (.bin .lss (.t 13) (.t 12)), none⟩])
  (.seq (.cond (.t 14) .skip
  (.exit 0))
  (.seq (.block 1 (.seq (.reg [
    ⟨(some 15), (.mv (.t 13)), none⟩,
    ⟨(some 5), (.mv (.t 15)), none⟩])
  (.seq (.drw [
    ⟨(some 16), (.mv (.t 0)), none⟩,
    ⟨(some 17), (.mv (.t 5)), none⟩,
    ⟨(some 18), (.ix 7 (.t 16) (.t 17)), none⟩,
    ⟨(some 19), (.ldn 7 (.t 18)), none⟩,
    ⟨(some 20), (.mv (.t 1)), none⟩,
    ⟨(some 21), (.mv (.t 5)), none⟩,
    ⟨(some 22), (.ix 7 (.t 20) (.t 21)), none⟩,
    ⟨(some 23), (.ldn 7 (.t 22)), none⟩,
    ⟨(some 24), (.eqv true (.struct [(0, .int), (1, .int), (2, .int), (3, .int), (4, .int), (5, .str), (6, .str)]) (.t 19) (.t 23)), none⟩] [])
  (.cond (.t 24) (.seq (.reg [
    ⟨(some 4), (.mv (.k (.bool false))), none⟩])
  .ret)
  .skip))))
  (.reg [
    ⟨(some 25), (.bin .add (.t 13) (.k (.int .i64 1))), none⟩,
    ⟨(some 13), (.mv (.t 25)), none⟩]))))
def veneerlaw08SameC1 : LC := .block 0 veneerlaw08SameC0
def veneerlaw08SameC2 : LC := .seq (.reg [
    ⟨(some 11), (.mv (.t 0)), none⟩,
    ⟨(some 12), (.len .slice (.t 11)), none⟩,
    ⟨(some 13), (.mv (.k (.int .i64 0))), none⟩]) veneerlaw08SameC1
def veneerlaw08SameC3 : LC := .seq veneerlaw08SameC2 (.seq (.reg [
    ⟨(some 4), (.mv (.k (.bool true))), none⟩])
  .ret)
def veneerlaw08SameC4 : LC := .seq (.seq (.reg [
    ⟨(some 6), (.mv (.t 0)), none⟩,
    ⟨(some 7), (.len .slice (.t 6)), none⟩,
    ⟨(some 8), (.mv (.t 1)), none⟩,
    ⟨(some 9), (.len .slice (.t 8)), none⟩,
    ⟨(some 10), (.bin .neq (.t 7) (.t 9)), none⟩])
  (.cond (.t 10) (.seq (.reg [
    ⟨(some 4), (.mv (.k (.bool false))), none⟩])
  .ret)
  .skip)) veneerlaw08SameC3
def veneerlaw08SameC5 : LC := .seq (.reg [
    ⟨(some 4), (.mv (.k (.bool false))), none⟩]) veneerlaw08SameC4
def veneerlaw08SameC0S (cal : FuncId → Bool) (φ : Oracle) (N : Nat) (gE0 : Heap → Option (IV × Heap)) : Nat → IV → IV → IV → IV → Heap → Option (IV × Heap)
  | 0, _, _, _, _, _ => none
  | n + 1, v0, v1, v12, v13, H =>
    ob (lbin .lss v13 v12) fun t1 =>
    cnd t1
    (ob (lix 7 v0 v13) fun t2 =>
    ob (lloadn H 7 t2) fun t3 =>
    ob (lix 7 v1 v13) fun t4 =>
    ob (lloadn H 7 t4) fun t5 =>
    ob (leqv true (leq (.struct [(0, .int), (1, .int), (2, .int), (3, .int), (4, .int), (5, .str), (6, .str)]) t3 t5)) fun t6 =>
    cnd t6
    (some ((.bool false), H))
    (ob (lbin .add v13 (.int .i64 1)) fun t7 =>
    veneerlaw08SameC0S cal φ N gE0 n v0 v1 v12 t7 H))
    (gE0 H)
theorem veneerlaw08SameC0Eq (cal : FuncId → Bool) (φ : Oracle) (N : Nat) {k : KT (IV × Heap)} (gE0 : Heap → Option (IV × Heap)) (hgE0 : ∀ σ H, k (.exit 0) σ H = gE0 H) (hR : ∀ σ H, k .ret σ H = resK [(.tmp 4)] [] σ H) : ∀ (n : Nat) (σ : Sg) (H : Heap), itK (lxK cal φ N (.seq (.reg [
    ⟨(some 14), (.bin .lss (.t 13) (.t 12)), none⟩])
  (.seq (.cond (.t 14) .skip
  (.exit 0))
  (.seq (.block 1 (.seq (.reg [
    ⟨(some 15), (.mv (.t 13)), none⟩,
    ⟨(some 5), (.mv (.t 15)), none⟩])
  (.seq (.drw [
    ⟨(some 16), (.mv (.t 0)), none⟩,
    ⟨(some 17), (.mv (.t 5)), none⟩,
    ⟨(some 18), (.ix 7 (.t 16) (.t 17)), none⟩,
    ⟨(some 19), (.ldn 7 (.t 18)), none⟩,
    ⟨(some 20), (.mv (.t 1)), none⟩,
    ⟨(some 21), (.mv (.t 5)), none⟩,
    ⟨(some 22), (.ix 7 (.t 20) (.t 21)), none⟩,
    ⟨(some 23), (.ldn 7 (.t 22)), none⟩,
    ⟨(some 24), (.eqv true (.struct [(0, .int), (1, .int), (2, .int), (3, .int), (4, .int), (5, .str), (6, .str)]) (.t 19) (.t 23)), none⟩] [])
  (.cond (.t 24) (.seq (.reg [
    ⟨(some 4), (.mv (.k (.bool false))), none⟩])
  .ret)
  .skip))))
  (.reg [
    ⟨(some 25), (.bin .add (.t 13) (.k (.int .i64 1))), none⟩,
    ⟨(some 13), (.mv (.t 25)), none⟩]))))) n σ H k = veneerlaw08SameC0S cal φ N gE0 n (lk σ 0) (lk σ 1) (lk σ 12) (lk σ 13) H := by
  have hk : k = (kE 0 (fun σ H => gE0 H) (kR (resK [(.tmp 4)] []) k)) := (kE_mk hgE0 (kR_mk hR rfl))
  intro n
  induction n with
  | zero => intro σ H; rfl
  | succ n ih =>
    intro σ H
    rw [itK_succ, seqK_mk (g := fun σ H => veneerlaw08SameC0S cal φ N gE0 n (lk σ 0) (lk σ 1) (lk σ 12) (lk σ 13) H) ih, hk]
    kernel_rfl
def veneerlaw08SameC1S (cal : FuncId → Bool) (φ : Oracle) (N : Nat) (gN : Heap → Option (IV × Heap)) (v0 v1 v12 v13 : IV) (H : Heap) : Option (IV × Heap) :=
    veneerlaw08SameC0S cal φ N (fun H => gN H) N v0 v1 v12 v13 H
theorem veneerlaw08SameC1Eq (cal : FuncId → Bool) (φ : Oracle) (N : Nat) {k : KT (IV × Heap)} (gN : Heap → Option (IV × Heap)) (hgN : ∀ σ H, k .normal σ H = gN H) (hR : ∀ σ H, k .ret σ H = resK [(.tmp 4)] [] σ H) : ∀ (σ : Sg) (H : Heap), lxK cal φ N veneerlaw08SameC1 σ H k = veneerlaw08SameC1S cal φ N gN (lk σ 0) (lk σ 1) (lk σ 12) (lk σ 13) H := by
  have hk : k = (kN (fun σ H => gN H) (kR (resK [(.tmp 4)] []) k)) := (kN_mk hgN (kR_mk hR rfl))
  intro σ H
  rw [hk]
  show lxK cal φ N veneerlaw08SameC0 σ H (blockK 0 (kN (fun σ H => gN H) (kR (resK [(.tmp 4)] []) k))) = _
  exact veneerlaw08SameC0Eq cal φ N (k := (blockK 0 (kN (fun σ H => gN H) (kR (resK [(.tmp 4)] []) k)))) (fun H => gN H) (fun _ _ => rfl) (fun _ _ => rfl) N σ H
def veneerlaw08SameC2S (cal : FuncId → Bool) (φ : Oracle) (N : Nat) (gN : Heap → Option (IV × Heap)) (v0 v1 : IV) (H : Heap) : Option (IV × Heap) :=
    ob (llen H .slice v0) fun t1 =>
    veneerlaw08SameC1S cal φ N (fun H => gN H) v0 v1 t1 (.int .i64 0) H
theorem veneerlaw08SameC2Eq (cal : FuncId → Bool) (φ : Oracle) (N : Nat) {k : KT (IV × Heap)} (gN : Heap → Option (IV × Heap)) (hgN : ∀ σ H, k .normal σ H = gN H) (hR : ∀ σ H, k .ret σ H = resK [(.tmp 4)] [] σ H) : ∀ (σ : Sg) (H : Heap), lxK cal φ N veneerlaw08SameC2 σ H k = veneerlaw08SameC2S cal φ N gN (lk σ 0) (lk σ 1) H := by
  have hk : k = (kN (fun σ H => gN H) (kR (resK [(.tmp 4)] []) k)) := (kN_mk hgN (kR_mk hR rfl))
  intro σ H
  rw [hk]
  show lxK cal φ N (.reg [
    ⟨(some 11), (.mv (.t 0)), none⟩,
    ⟨(some 12), (.len .slice (.t 11)), none⟩,
    ⟨(some 13), (.mv (.k (.int .i64 0))), none⟩]) σ H (seqK (lxK cal φ N veneerlaw08SameC1) (kN (fun σ H => gN H) (kR (resK [(.tmp 4)] []) k))) = _
  rw [seqK_mk (g := fun σ H => veneerlaw08SameC1S cal φ N (fun H => gN H) (lk σ 0) (lk σ 1) (lk σ 12) (lk σ 13) H) (veneerlaw08SameC1Eq cal φ N (k := (kN (fun σ H => gN H) (kR (resK [(.tmp 4)] []) k))) (fun H => gN H) (fun _ _ => rfl) (fun _ _ => rfl))]
  kernel_rfl
def veneerlaw08SameC3S (cal : FuncId → Bool) (φ : Oracle) (N : Nat) (v0 v1 : IV) (H : Heap) : Option (IV × Heap) :=
    veneerlaw08SameC2S cal φ N (fun H => some ((.bool true), H)) v0 v1 H
theorem veneerlaw08SameC3Eq (cal : FuncId → Bool) (φ : Oracle) (N : Nat) {k : KT (IV × Heap)} (hR : ∀ σ H, k .ret σ H = resK [(.tmp 4)] [] σ H) : ∀ (σ : Sg) (H : Heap), lxK cal φ N veneerlaw08SameC3 σ H k = veneerlaw08SameC3S cal φ N (lk σ 0) (lk σ 1) H := by
  have hk : k = (kR (resK [(.tmp 4)] []) k) := (kR_mk hR rfl)
  intro σ H
  rw [hk]
  show lxK cal φ N veneerlaw08SameC2 σ H (seqK (lxK cal φ N (.seq (.reg [
    ⟨(some 4), (.mv (.k (.bool true))), none⟩])
  .ret)) (kR (resK [(.tmp 4)] []) k)) = _
  exact veneerlaw08SameC2Eq cal φ N (k := (seqK (lxK cal φ N (.seq (.reg [
    ⟨(some 4), (.mv (.k (.bool true))), none⟩])
  .ret)) (kR (resK [(.tmp 4)] []) k))) (fun H => some ((.bool true), H)) (fun _ _ => rfl) (fun _ _ => rfl) σ H
def veneerlaw08SameC4S (cal : FuncId → Bool) (φ : Oracle) (N : Nat) (v0 v1 : IV) (H : Heap) : Option (IV × Heap) :=
    ob (llen H .slice v0) fun t1 =>
    ob (llen H .slice v1) fun t2 =>
    ob (lbin .neq t1 t2) fun t3 =>
    cnd t3
    (some ((.bool false), H))
    (veneerlaw08SameC3S cal φ N v0 v1 H)
theorem veneerlaw08SameC4Eq (cal : FuncId → Bool) (φ : Oracle) (N : Nat) {k : KT (IV × Heap)} (hR : ∀ σ H, k .ret σ H = resK [(.tmp 4)] [] σ H) : ∀ (σ : Sg) (H : Heap), lxK cal φ N veneerlaw08SameC4 σ H k = veneerlaw08SameC4S cal φ N (lk σ 0) (lk σ 1) H := by
  have hk : k = (kR (resK [(.tmp 4)] []) k) := (kR_mk hR rfl)
  intro σ H
  rw [hk]
  show lxK cal φ N (.seq (.reg [
    ⟨(some 6), (.mv (.t 0)), none⟩,
    ⟨(some 7), (.len .slice (.t 6)), none⟩,
    ⟨(some 8), (.mv (.t 1)), none⟩,
    ⟨(some 9), (.len .slice (.t 8)), none⟩,
    ⟨(some 10), (.bin .neq (.t 7) (.t 9)), none⟩])
  (.cond (.t 10) (.seq (.reg [
    ⟨(some 4), (.mv (.k (.bool false))), none⟩])
  .ret)
  .skip)) σ H (seqK (lxK cal φ N veneerlaw08SameC3) (kR (resK [(.tmp 4)] []) k)) = _
  rw [seqK_mk (g := fun σ H => veneerlaw08SameC3S cal φ N (lk σ 0) (lk σ 1) H) (veneerlaw08SameC3Eq cal φ N (k := (kR (resK [(.tmp 4)] []) k)) (fun _ _ => rfl))]
  kernel_rfl
def veneerlaw08SameC5S (cal : FuncId → Bool) (φ : Oracle) (N : Nat) (v0 v1 : IV) (H : Heap) : Option (IV × Heap) :=
    veneerlaw08SameC4S cal φ N v0 v1 H
theorem veneerlaw08SameC5Eq (cal : FuncId → Bool) (φ : Oracle) (N : Nat) {k : KT (IV × Heap)} (hR : ∀ σ H, k .ret σ H = resK [(.tmp 4)] [] σ H) : ∀ (σ : Sg) (H : Heap), lxK cal φ N veneerlaw08SameC5 σ H k = veneerlaw08SameC5S cal φ N (lk σ 0) (lk σ 1) H := by
  have hk : k = (kR (resK [(.tmp 4)] []) k) := (kR_mk hR rfl)
  intro σ H
  rw [hk]
  show lxK cal φ N (.reg [
    ⟨(some 4), (.mv (.k (.bool false))), none⟩]) σ H (seqK (lxK cal φ N veneerlaw08SameC4) (kR (resK [(.tmp 4)] []) k)) = _
  rw [seqK_mk (g := fun σ H => veneerlaw08SameC4S cal φ N (lk σ 0) (lk σ 1) H) (veneerlaw08SameC4Eq cal φ N (k := (kR (resK [(.tmp 4)] []) k)) (fun _ _ => rfl))]
  kernel_rfl
def veneerlaw08Same : LFun := ⟨veneerlaw08SameC5, [(.tmp 4)], 26⟩
def veneerlaw08SameS (cal : FuncId → Bool) (φ : Oracle) (N : Nat) (v0 v1 : IV) (H : Heap) : Option (IV × Heap) :=
    veneerlaw08SameC5S cal φ N v0 v1 H
theorem veneerlaw08SameEq (cal : FuncId → Bool) (φ : Oracle) (N : Nat) (v0 v1 : IV) (H : Heap) : lrunK cal φ N (veneerlaw08Same) [v0, v1] H = veneerlaw08SameS cal φ N v0 v1 H := by
  show lxK cal φ N veneerlaw08SameC5 (initFrom 0 [v0, v1]) H (endK [(.tmp 4)]) = _
  exact veneerlaw08SameC5Eq cal φ N (k := (endK [(.tmp 4)])) (fun _ _ => rfl) (initFrom 0 [v0, v1]) H

def callDecodeC0 (cCallDecode1 cCallDecode2 cCallDecode3 : FuncId) : LC := .loop (.seq (.seq (.reg [
    ⟨(some 11), (.ld1 (.t 1)), none⟩,
    ⟨(some 12), (.len .slice (.t 11)), none⟩,
    ⟨(some 13), (.bin .gtr (.t 12) (.k (.int .i64 0))), none⟩,
    ⟨(some 14), (.mv (.t 13)), none⟩,
    ⟨(some 15), (.mv (.t 6)), (some (14, true))⟩,
    ⟨(some 16), (.len .slice (.t 15)), (some (14, true))⟩,
    ⟨(some 17), (.bin .lss (.t 16) (.k (.int .i64 200))), (some (14, true))⟩,
    ⟨(some 18), (.pick (.t 14) (.t 17) (.k (.bool false))), none⟩])
  (.cond (.t 18) .skip
  (.exit 0)))
  (.block 1 (.seq (.reg [
    ⟨(some 7), (.zbox (.agg [(.int .i64 0), (.int .i64 0), (.int .i64 0), (.int .i64 0), (.int .i64 0), (.str []), (.str [])])), none⟩])
  (.seq (.reg [
    ⟨(some 19), (.ld1 (.t 3)), none⟩,
    ⟨(some 20), (.callV (.t 19) []), none⟩,
    ⟨(some 21), (.bin .rem (.t 20) (.k (.int .i64 20))), none⟩,
    ⟨(some 22), (.bin .add (.t 21) (.k (.int .i64 1))), none⟩,
    ⟨(some 23), (.off (.t 7) 0), none⟩,
    ⟨none, (.st 1 (.t 23) (.t 22)), none⟩])
  (.seq (.reg [
    ⟨(some 24), (.ld1 (.t 3)), none⟩,
    ⟨(some 25), (.callV (.t 24) []), none⟩,
    ⟨(some 26), (.bin .rem (.t 25) (.k (.int .i64 40))), none⟩,
    ⟨(some 27), (.bin .add (.t 26) (.k (.int .i64 (-4)))), none⟩,
    ⟨(some 28), (.off (.t 7) 1), none⟩,
    ⟨none, (.st 1 (.t 28) (.t 27)), none⟩])
  (.seq (.reg [
    ⟨(some 29), (.ld1 (.t 3)), none⟩,
    ⟨(some 30), (.callV (.t 29) []), none⟩,
    ⟨(some 31), (.bin .rem (.t 30) (.k (.int .i64 64))), none⟩,
    ⟨(some 32), (.off (.t 7) 2), none⟩,
    ⟨none, (.st 1 (.t 32) (.t 31)), none⟩])
  (.seq (.reg [
    ⟨(some 33), (.mv (.t 4)), none⟩,
    ⟨(some 34), (.callV (.t 33) []), none⟩,
    ⟨(some 35), (.off (.t 7) 3), none⟩,
    ⟨none, (.st 1 (.t 35) (.t 34)), none⟩])
  (.seq (.reg [
    ⟨(some 36), (.mv (.t 4)), none⟩,
    ⟨(some 37), (.callV (.t 36) []), none⟩,
    ⟨(some 38), (.off (.t 7) 4), none⟩,
    ⟨none, (.st 1 (.t 38) (.t 37)), none⟩])
  (.seq (.reg [
    ⟨(some 39), (.mv (.t 5)), none⟩,
    ⟨(some 40), (.callV (.t 39) []), none⟩,
    ⟨(some 41), (.off (.t 7) 5), none⟩,
    ⟨none, (.st 1 (.t 41) (.t 40)), none⟩])
  (.seq (.reg [
    ⟨(some 42), (.mv (.t 5)), none⟩,
    ⟨(some 43), (.callV (.t 42) []), none⟩,
    ⟨(some 44), (.off (.t 7) 6), none⟩,
    ⟨none, (.st 1 (.t 44) (.t 43)), none⟩])
  (.reg [
    ⟨(some 45), (.mv (.t 6)), none⟩,
    ⟨(some 46), (.ldn 7 (.t 7)), none⟩,
    ⟨(some 47), (.bldS 7 1 [(.int .i64 0), (.int .i64 0), (.int .i64 0), (.int .i64 0), (.int .i64 0), (.str []), (.str [])] [(0, (.t 46))]), none⟩,
    ⟨(some 48), (.app 7 72 (.t 45) (.t 47)), none⟩,
    ⟨(some 6), (.mv (.t 48)), none⟩])))))))))))
def callDecodeC1 (cCallDecode1 cCallDecode2 cCallDecode3 : FuncId) : LC := .block 0 (callDecodeC0 cCallDecode1 cCallDecode2 cCallDecode3)
def callDecodeC2 (cCallDecode1 cCallDecode2 cCallDecode3 : FuncId) : LC := .seq (callDecodeC1 cCallDecode1 cCallDecode2 cCallDecode3) (.seq (.reg [
    ⟨(some 49), (.mv (.t 6)), none⟩,
    ⟨(some 2), (.mv (.t 49)), none⟩])
  .ret)
def callDecodeC3 (cCallDecode1 cCallDecode2 cCallDecode3 : FuncId) : LC := .seq (.reg [
    ⟨(some 6), (.mv (.k .nilSlice)), none⟩]) (callDecodeC2 cCallDecode1 cCallDecode2 cCallDecode3)
def callDecodeC4 (cCallDecode1 cCallDecode2 cCallDecode3 : FuncId) : LC := .seq (.reg [
    ⟨(some 10), (.mkF (.func cCallDecode3) [] [(.t 3)]), none⟩,
    ⟨(some 5), (.mv (.t 10)), none⟩]) (callDecodeC3 cCallDecode1 cCallDecode2 cCallDecode3)
def callDecodeC5 (cCallDecode1 cCallDecode2 cCallDecode3 : FuncId) : LC := .seq (.reg [
    ⟨(some 9), (.mkF (.func cCallDecode2) [] [(.t 3)]), none⟩,
    ⟨(some 4), (.mv (.t 9)), none⟩]) (callDecodeC4 cCallDecode1 cCallDecode2 cCallDecode3)
def callDecodeC6 (cCallDecode1 cCallDecode2 cCallDecode3 : FuncId) : LC := .seq (.reg [
    ⟨(some 8), (.mkF (.func cCallDecode1) [] [(.t 1)]), none⟩,
    ⟨(some 3), (.zbox .nilFunc), none⟩,
    ⟨none, (.st 1 (.t 3) (.t 8)), none⟩]) (callDecodeC5 cCallDecode1 cCallDecode2 cCallDecode3)
def callDecodeC7 (cCallDecode1 cCallDecode2 cCallDecode3 : FuncId) : LC := .seq (.reg [
    ⟨(some 1), (.box (.t 0)), none⟩,
    ⟨(some 2), (.mv (.k .nilSlice)), none⟩]) (callDecodeC6 cCallDecode1 cCallDecode2 cCallDecode3)
def callDecodeC0S (cal : FuncId → Bool) (φ : Oracle) (N : Nat) (cCallDecode1 cCallDecode2 cCallDecode3 : FuncId) (gE0 : IV → Heap → Option (IV × Heap)) : Nat → IV → IV → IV → IV → IV → Heap → Option (IV × Heap)
  | 0, _, _, _, _, _, _ => none
  | n + 1, v1, v3, v4, v5, v6, H =>
    ob (lload1 H v1) fun t1 =>
    ob (llen H .slice t1) fun t2 =>
    ob (lbin .gtr t2 (.int .i64 0)) fun t3 =>
    ob (gq (isB t3 true) (some v6)) fun t4 =>
    ob (gq (isB t3 true) (llen H .slice t4)) fun t5 =>
    ob (gq (isB t3 true) (lbin .lss t5 (.int .i64 200))) fun t6 =>
    ob (lpick t3 t6 (.bool false)) fun t7 =>
    cnd t7
    (ob (lzbox H (.agg [(.int .i64 0), (.int .i64 0), (.int .i64 0), (.int .i64 0), (.int .i64 0), (.str []), (.str [])])) fun r8 =>
    ob (lload1 r8.2 v3) fun t9 =>
    ob (lcallV cal φ r8.2 t9 []) fun r10 =>
    ob (lbin .rem r10.1 (.int .i64 20)) fun t11 =>
    ob (lbin .add t11 (.int .i64 1)) fun t12 =>
    ob (loff r8.1 0) fun t13 =>
    ob (lstV r10.2 1 t13 t12) fun r14 =>
    ob (lload1 r14.2 v3) fun t15 =>
    ob (lcallV cal φ r14.2 t15 []) fun r16 =>
    ob (lbin .rem r16.1 (.int .i64 40)) fun t17 =>
    ob (lbin .add t17 (.int .i64 (-4))) fun t18 =>
    ob (loff r8.1 1) fun t19 =>
    ob (lstV r16.2 1 t19 t18) fun r20 =>
    ob (lload1 r20.2 v3) fun t21 =>
    ob (lcallV cal φ r20.2 t21 []) fun r22 =>
    ob (lbin .rem r22.1 (.int .i64 64)) fun t23 =>
    ob (loff r8.1 2) fun t24 =>
    ob (lstV r22.2 1 t24 t23) fun r25 =>
    ob (lcallV cal φ r25.2 v4 []) fun r26 =>
    ob (loff r8.1 3) fun t27 =>
    ob (lstV r26.2 1 t27 r26.1) fun r28 =>
    ob (lcallV cal φ r28.2 v4 []) fun r29 =>
    ob (loff r8.1 4) fun t30 =>
    ob (lstV r29.2 1 t30 r29.1) fun r31 =>
    ob (lcallV cal φ r31.2 v5 []) fun r32 =>
    ob (loff r8.1 5) fun t33 =>
    ob (lstV r32.2 1 t33 r32.1) fun r34 =>
    ob (lcallV cal φ r34.2 v5 []) fun r35 =>
    ob (loff r8.1 6) fun t36 =>
    ob (lstV r35.2 1 t36 r35.1) fun r37 =>
    ob (lloadn r37.2 7 r8.1) fun t38 =>
    ob (lbldS r37.2 7 1 [(.int .i64 0), (.int .i64 0), (.int .i64 0), (.int .i64 0), (.int .i64 0), (.str []), (.str [])] [(0, t38)]) fun r39 =>
    ob (lapp r39.2 7 72 v6 r39.1) fun r40 =>
    callDecodeC0S cal φ N cCallDecode1 cCallDecode2 cCallDecode3 gE0 n v1 v3 v4 v5 r40.1 r40.2)
    (gE0 v6 H)
theorem callDecodeC0Eq (cal : FuncId → Bool) (φ : Oracle) (N : Nat) (cCallDecode1 cCallDecode2 cCallDecode3 : FuncId) {k : KT (IV × Heap)} (gE0 : IV → Heap → Option (IV × Heap)) (hgE0 : ∀ σ H, k (.exit 0) σ H = gE0 (lk σ 6) H) : ∀ (n : Nat) (σ : Sg) (H : Heap), itK (lxK cal φ N (.seq (.seq (.reg [
    ⟨(some 11), (.ld1 (.t 1)), none⟩,
    ⟨(some 12), (.len .slice (.t 11)), none⟩,
    ⟨(some 13), (.bin .gtr (.t 12) (.k (.int .i64 0))), none⟩,
    ⟨(some 14), (.mv (.t 13)), none⟩,
    ⟨(some 15), (.mv (.t 6)), (some (14, true))⟩,
    ⟨(some 16), (.len .slice (.t 15)), (some (14, true))⟩,
    ⟨(some 17), (.bin .lss (.t 16) (.k (.int .i64 200))), (some (14, true))⟩,
    ⟨(some 18), (.pick (.t 14) (.t 17) (.k (.bool false))), none⟩])
  (.cond (.t 18) .skip
  (.exit 0)))
  (.block 1 (.seq (.reg [
    ⟨(some 7), (.zbox (.agg [(.int .i64 0), (.int .i64 0), (.int .i64 0), (.int .i64 0), (.int .i64 0), (.str []), (.str [])])), none⟩])
  (.seq (.reg [
    ⟨(some 19), (.ld1 (.t 3)), none⟩,
    ⟨(some 20), (.callV (.t 19) []), none⟩,
    ⟨(some 21), (.bin .rem (.t 20) (.k (.int .i64 20))), none⟩,
    ⟨(some 22), (.bin .add (.t 21) (.k (.int .i64 1))), none⟩,
    ⟨(some 23), (.off (.t 7) 0), none⟩,
    ⟨none, (.st 1 (.t 23) (.t 22)), none⟩])
  (.seq (.reg [
    ⟨(some 24), (.ld1 (.t 3)), none⟩,
    ⟨(some 25), (.callV (.t 24) []), none⟩,
    ⟨(some 26), (.bin .rem (.t 25) (.k (.int .i64 40))), none⟩,
    ⟨(some 27), (.bin .add (.t 26) (.k (.int .i64 (-4)))), none⟩,
    ⟨(some 28), (.off (.t 7) 1), none⟩,
    ⟨none, (.st 1 (.t 28) (.t 27)), none⟩])
  (.seq (.reg [
    ⟨(some 29), (.ld1 (.t 3)), none⟩,
    ⟨(some 30), (.callV (.t 29) []), none⟩,
    ⟨(some 31), (.bin .rem (.t 30) (.k (.int .i64 64))), none⟩,
    ⟨(some 32), (.off (.t 7) 2), none⟩,
    ⟨none, (.st 1 (.t 32) (.t 31)), none⟩])
  (.seq (.reg [
    ⟨(some 33), (.mv (.t 4)), none⟩,
    ⟨(some 34), (.callV (.t 33) []), none⟩,
    ⟨(some 35), (.off (.t 7) 3), none⟩,
    ⟨none, (.st 1 (.t 35) (.t 34)), none⟩])
  (.seq (.reg [
    ⟨(some 36), (.mv (.t 4)), none⟩,
    ⟨(some 37), (.callV (.t 36) []), none⟩,
    ⟨(some 38), (.off (.t 7) 4), none⟩,
    ⟨none, (.st 1 (.t 38) (.t 37)), none⟩])
  (.seq (.reg [
    ⟨(some 39), (.mv (.t 5)), none⟩,
    ⟨(some 40), (.callV (.t 39) []), none⟩,
    ⟨(some 41), (.off (.t 7) 5), none⟩,
    ⟨none, (.st 1 (.t 41) (.t 40)), none⟩])
  (.seq (.reg [
    ⟨(some 42), (.mv (.t 5)), none⟩,
    ⟨(some 43), (.callV (.t 42) []), none⟩,
    ⟨(some 44), (.off (.t 7) 6), none⟩,
    ⟨none, (.st 1 (.t 44) (.t 43)), none⟩])
  (.reg [
    ⟨(some 45), (.mv (.t 6)), none⟩,
    ⟨(some 46), (.ldn 7 (.t 7)), none⟩,
    ⟨(some 47), (.bldS 7 1 [(.int .i64 0), (.int .i64 0), (.int .i64 0), (.int .i64 0), (.int .i64 0), (.str []), (.str [])] [(0, (.t 46))]), none⟩,
    ⟨(some 48), (.app 7 72 (.t 45) (.t 47)), none⟩,
    ⟨(some 6), (.mv (.t 48)), none⟩])))))))))))) n σ H k = callDecodeC0S cal φ N cCallDecode1 cCallDecode2 cCallDecode3 gE0 n (lk σ 1) (lk σ 3) (lk σ 4) (lk σ 5) (lk σ 6) H := by
  have hk : k = (kE 0 (fun σ H => gE0 (lk σ 6) H) k) := (kE_mk hgE0 rfl)
  intro n
  induction n with
  | zero => intro σ H; rfl
  | succ n ih =>
    intro σ H
    rw [itK_succ, seqK_mk (g := fun σ H => callDecodeC0S cal φ N cCallDecode1 cCallDecode2 cCallDecode3 gE0 n (lk σ 1) (lk σ 3) (lk σ 4) (lk σ 5) (lk σ 6) H) ih, hk]
    kernel_rfl
def callDecodeC1S (cal : FuncId → Bool) (φ : Oracle) (N : Nat) (cCallDecode1 cCallDecode2 cCallDecode3 : FuncId) (gN : IV → Heap → Option (IV × Heap)) (v1 v3 v4 v5 v6 : IV) (H : Heap) : Option (IV × Heap) :=
    callDecodeC0S cal φ N cCallDecode1 cCallDecode2 cCallDecode3 (fun v6 H => gN v6 H) N v1 v3 v4 v5 v6 H
theorem callDecodeC1Eq (cal : FuncId → Bool) (φ : Oracle) (N : Nat) (cCallDecode1 cCallDecode2 cCallDecode3 : FuncId) {k : KT (IV × Heap)} (gN : IV → Heap → Option (IV × Heap)) (hgN : ∀ σ H, k .normal σ H = gN (lk σ 6) H) : ∀ (σ : Sg) (H : Heap), lxK cal φ N (callDecodeC1 cCallDecode1 cCallDecode2 cCallDecode3) σ H k = callDecodeC1S cal φ N cCallDecode1 cCallDecode2 cCallDecode3 gN (lk σ 1) (lk σ 3) (lk σ 4) (lk σ 5) (lk σ 6) H := by
  have hk : k = (kN (fun σ H => gN (lk σ 6) H) k) := (kN_mk hgN rfl)
  intro σ H
  rw [hk]
  show lxK cal φ N (callDecodeC0 cCallDecode1 cCallDecode2 cCallDecode3) σ H (blockK 0 (kN (fun σ H => gN (lk σ 6) H) k)) = _
  exact callDecodeC0Eq cal φ N cCallDecode1 cCallDecode2 cCallDecode3 (k := (blockK 0 (kN (fun σ H => gN (lk σ 6) H) k))) (fun v6 H => gN v6 H) (fun _ _ => rfl) N σ H
def callDecodeC2S (cal : FuncId → Bool) (φ : Oracle) (N : Nat) (cCallDecode1 cCallDecode2 cCallDecode3 : FuncId) (v1 v3 v4 v5 v6 : IV) (H : Heap) : Option (IV × Heap) :=
    callDecodeC1S cal φ N cCallDecode1 cCallDecode2 cCallDecode3 (fun v6 H => some (v6, H)) v1 v3 v4 v5 v6 H
theorem callDecodeC2Eq (cal : FuncId → Bool) (φ : Oracle) (N : Nat) (cCallDecode1 cCallDecode2 cCallDecode3 : FuncId) {k : KT (IV × Heap)} (hR : ∀ σ H, k .ret σ H = resK [(.tmp 2)] [] σ H) : ∀ (σ : Sg) (H : Heap), lxK cal φ N (callDecodeC2 cCallDecode1 cCallDecode2 cCallDecode3) σ H k = callDecodeC2S cal φ N cCallDecode1 cCallDecode2 cCallDecode3 (lk σ 1) (lk σ 3) (lk σ 4) (lk σ 5) (lk σ 6) H := by
  have hk : k = (kR (resK [(.tmp 2)] []) k) := (kR_mk hR rfl)
  intro σ H
  rw [hk]
  show lxK cal φ N (callDecodeC1 cCallDecode1 cCallDecode2 cCallDecode3) σ H (seqK (lxK cal φ N (.seq (.reg [
    ⟨(some 49), (.mv (.t 6)), none⟩,
    ⟨(some 2), (.mv (.t 49)), none⟩])
  .ret)) (kR (resK [(.tmp 2)] []) k)) = _
  exact callDecodeC1Eq cal φ N cCallDecode1 cCallDecode2 cCallDecode3 (k := (seqK (lxK cal φ N (.seq (.reg [
    ⟨(some 49), (.mv (.t 6)), none⟩,
    ⟨(some 2), (.mv (.t 49)), none⟩])
  .ret)) (kR (resK [(.tmp 2)] []) k))) (fun v6 H => some (v6, H)) (fun _ _ => rfl) σ H
def callDecodeC3S (cal : FuncId → Bool) (φ : Oracle) (N : Nat) (cCallDecode1 cCallDecode2 cCallDecode3 : FuncId) (v1 v3 v4 v5 : IV) (H : Heap) : Option (IV × Heap) :=
    callDecodeC2S cal φ N cCallDecode1 cCallDecode2 cCallDecode3 v1 v3 v4 v5 .nilSlice H
theorem callDecodeC3Eq (cal : FuncId → Bool) (φ : Oracle) (N : Nat) (cCallDecode1 cCallDecode2 cCallDecode3 : FuncId) {k : KT (IV × Heap)} (hR : ∀ σ H, k .ret σ H = resK [(.tmp 2)] [] σ H) : ∀ (σ : Sg) (H : Heap), lxK cal φ N (callDecodeC3 cCallDecode1 cCallDecode2 cCallDecode3) σ H k = callDecodeC3S cal φ N cCallDecode1 cCallDecode2 cCallDecode3 (lk σ 1) (lk σ 3) (lk σ 4) (lk σ 5) H := by
  have hk : k = (kR (resK [(.tmp 2)] []) k) := (kR_mk hR rfl)
  intro σ H
  rw [hk]
  show lxK cal φ N (.reg [
    ⟨(some 6), (.mv (.k .nilSlice)), none⟩]) σ H (seqK (lxK cal φ N (callDecodeC2 cCallDecode1 cCallDecode2 cCallDecode3)) (kR (resK [(.tmp 2)] []) k)) = _
  rw [seqK_mk (g := fun σ H => callDecodeC2S cal φ N cCallDecode1 cCallDecode2 cCallDecode3 (lk σ 1) (lk σ 3) (lk σ 4) (lk σ 5) (lk σ 6) H) (callDecodeC2Eq cal φ N cCallDecode1 cCallDecode2 cCallDecode3 (k := (kR (resK [(.tmp 2)] []) k)) (fun _ _ => rfl))]
  kernel_rfl
def callDecodeC4S (cal : FuncId → Bool) (φ : Oracle) (N : Nat) (cCallDecode1 cCallDecode2 cCallDecode3 : FuncId) (v1 v3 v4 : IV) (H : Heap) : Option (IV × Heap) :=
    ob (some (.func (.func cCallDecode3) [] [v3])) fun t1 =>
    callDecodeC3S cal φ N cCallDecode1 cCallDecode2 cCallDecode3 v1 v3 v4 t1 H
theorem callDecodeC4Eq (cal : FuncId → Bool) (φ : Oracle) (N : Nat) (cCallDecode1 cCallDecode2 cCallDecode3 : FuncId) {k : KT (IV × Heap)} (hR : ∀ σ H, k .ret σ H = resK [(.tmp 2)] [] σ H) : ∀ (σ : Sg) (H : Heap), lxK cal φ N (callDecodeC4 cCallDecode1 cCallDecode2 cCallDecode3) σ H k = callDecodeC4S cal φ N cCallDecode1 cCallDecode2 cCallDecode3 (lk σ 1) (lk σ 3) (lk σ 4) H := by
  have hk : k = (kR (resK [(.tmp 2)] []) k) := (kR_mk hR rfl)
  intro σ H
  rw [hk]
  show lxK cal φ N (.reg [
    ⟨(some 10), (.mkF (.func cCallDecode3) [] [(.t 3)]), none⟩,
    ⟨(some 5), (.mv (.t 10)), none⟩]) σ H (seqK (lxK cal φ N (callDecodeC3 cCallDecode1 cCallDecode2 cCallDecode3)) (kR (resK [(.tmp 2)] []) k)) = _
  rw [seqK_mk (g := fun σ H => callDecodeC3S cal φ N cCallDecode1 cCallDecode2 cCallDecode3 (lk σ 1) (lk σ 3) (lk σ 4) (lk σ 5) H) (callDecodeC3Eq cal φ N cCallDecode1 cCallDecode2 cCallDecode3 (k := (kR (resK [(.tmp 2)] []) k)) (fun _ _ => rfl))]
  kernel_rfl
def callDecodeC5S (cal : FuncId → Bool) (φ : Oracle) (N : Nat) (cCallDecode1 cCallDecode2 cCallDecode3 : FuncId) (v1 v3 : IV) (H : Heap) : Option (IV × Heap) :=
    ob (some (.func (.func cCallDecode2) [] [v3])) fun t1 =>
    callDecodeC4S cal φ N cCallDecode1 cCallDecode2 cCallDecode3 v1 v3 t1 H
theorem callDecodeC5Eq (cal : FuncId → Bool) (φ : Oracle) (N : Nat) (cCallDecode1 cCallDecode2 cCallDecode3 : FuncId) {k : KT (IV × Heap)} (hR : ∀ σ H, k .ret σ H = resK [(.tmp 2)] [] σ H) : ∀ (σ : Sg) (H : Heap), lxK cal φ N (callDecodeC5 cCallDecode1 cCallDecode2 cCallDecode3) σ H k = callDecodeC5S cal φ N cCallDecode1 cCallDecode2 cCallDecode3 (lk σ 1) (lk σ 3) H := by
  have hk : k = (kR (resK [(.tmp 2)] []) k) := (kR_mk hR rfl)
  intro σ H
  rw [hk]
  show lxK cal φ N (.reg [
    ⟨(some 9), (.mkF (.func cCallDecode2) [] [(.t 3)]), none⟩,
    ⟨(some 4), (.mv (.t 9)), none⟩]) σ H (seqK (lxK cal φ N (callDecodeC4 cCallDecode1 cCallDecode2 cCallDecode3)) (kR (resK [(.tmp 2)] []) k)) = _
  rw [seqK_mk (g := fun σ H => callDecodeC4S cal φ N cCallDecode1 cCallDecode2 cCallDecode3 (lk σ 1) (lk σ 3) (lk σ 4) H) (callDecodeC4Eq cal φ N cCallDecode1 cCallDecode2 cCallDecode3 (k := (kR (resK [(.tmp 2)] []) k)) (fun _ _ => rfl))]
  kernel_rfl
def callDecodeC6S (cal : FuncId → Bool) (φ : Oracle) (N : Nat) (cCallDecode1 cCallDecode2 cCallDecode3 : FuncId) (v1 : IV) (H : Heap) : Option (IV × Heap) :=
    ob (some (.func (.func cCallDecode1) [] [v1])) fun t1 =>
    ob (lzbox H .nilFunc) fun r2 =>
    ob (lstV r2.2 1 r2.1 t1) fun r3 =>
    callDecodeC5S cal φ N cCallDecode1 cCallDecode2 cCallDecode3 v1 r2.1 r3.2
theorem callDecodeC6Eq (cal : FuncId → Bool) (φ : Oracle) (N : Nat) (cCallDecode1 cCallDecode2 cCallDecode3 : FuncId) {k : KT (IV × Heap)} (hR : ∀ σ H, k .ret σ H = resK [(.tmp 2)] [] σ H) : ∀ (σ : Sg) (H : Heap), lxK cal φ N (callDecodeC6 cCallDecode1 cCallDecode2 cCallDecode3) σ H k = callDecodeC6S cal φ N cCallDecode1 cCallDecode2 cCallDecode3 (lk σ 1) H := by
  have hk : k = (kR (resK [(.tmp 2)] []) k) := (kR_mk hR rfl)
  intro σ H
  rw [hk]
  show lxK cal φ N (.reg [
    ⟨(some 8), (.mkF (.func cCallDecode1) [] [(.t 1)]), none⟩,
    ⟨(some 3), (.zbox .nilFunc), none⟩,
    ⟨none, (.st 1 (.t 3) (.t 8)), none⟩]) σ H (seqK (lxK cal φ N (callDecodeC5 cCallDecode1 cCallDecode2 cCallDecode3)) (kR (resK [(.tmp 2)] []) k)) = _
  rw [seqK_mk (g := fun σ H => callDecodeC5S cal φ N cCallDecode1 cCallDecode2 cCallDecode3 (lk σ 1) (lk σ 3) H) (callDecodeC5Eq cal φ N cCallDecode1 cCallDecode2 cCallDecode3 (k := (kR (resK [(.tmp 2)] []) k)) (fun _ _ => rfl))]
  kernel_rfl
def callDecodeC7S (cal : FuncId → Bool) (φ : Oracle) (N : Nat) (cCallDecode1 cCallDecode2 cCallDecode3 : FuncId) (v0 : IV) (H : Heap) : Option (IV × Heap) :=
    ob (lbox H v0) fun r1 =>
    callDecodeC6S cal φ N cCallDecode1 cCallDecode2 cCallDecode3 r1.1 r1.2
theorem callDecodeC7Eq (cal : FuncId → Bool) (φ : Oracle) (N : Nat) (cCallDecode1 cCallDecode2 cCallDecode3 : FuncId) {k : KT (IV × Heap)} (hR : ∀ σ H, k .ret σ H = resK [(.tmp 2)] [] σ H) : ∀ (σ : Sg) (H : Heap), lxK cal φ N (callDecodeC7 cCallDecode1 cCallDecode2 cCallDecode3) σ H k = callDecodeC7S cal φ N cCallDecode1 cCallDecode2 cCallDecode3 (lk σ 0) H := by
  have hk : k = (kR (resK [(.tmp 2)] []) k) := (kR_mk hR rfl)
  intro σ H
  rw [hk]
  show lxK cal φ N (.reg [
    ⟨(some 1), (.box (.t 0)), none⟩,
    ⟨(some 2), (.mv (.k .nilSlice)), none⟩]) σ H (seqK (lxK cal φ N (callDecodeC6 cCallDecode1 cCallDecode2 cCallDecode3)) (kR (resK [(.tmp 2)] []) k)) = _
  rw [seqK_mk (g := fun σ H => callDecodeC6S cal φ N cCallDecode1 cCallDecode2 cCallDecode3 (lk σ 1) H) (callDecodeC6Eq cal φ N cCallDecode1 cCallDecode2 cCallDecode3 (k := (kR (resK [(.tmp 2)] []) k)) (fun _ _ => rfl))]
  kernel_rfl
def callDecode (cCallDecode1 cCallDecode2 cCallDecode3 : FuncId) : LFun := ⟨(callDecodeC7 cCallDecode1 cCallDecode2 cCallDecode3), [(.tmp 2)], 50⟩
def callDecodeS (cal : FuncId → Bool) (φ : Oracle) (N : Nat) (cCallDecode1 cCallDecode2 cCallDecode3 : FuncId) (v0 : IV) (H : Heap) : Option (IV × Heap) :=
    callDecodeC7S cal φ N cCallDecode1 cCallDecode2 cCallDecode3 v0 H
theorem callDecodeEq (cal : FuncId → Bool) (φ : Oracle) (N : Nat) (cCallDecode1 cCallDecode2 cCallDecode3 : FuncId) (v0 : IV) (H : Heap) : lrunK cal φ N (callDecode cCallDecode1 cCallDecode2 cCallDecode3) [v0] H = callDecodeS cal φ N cCallDecode1 cCallDecode2 cCallDecode3 v0 H := by
  show lxK cal φ N (callDecodeC7 cCallDecode1 cCallDecode2 cCallDecode3) (initFrom 0 [v0]) H (endK [(.tmp 2)]) = _
  exact callDecodeC7Eq cal φ N cCallDecode1 cCallDecode2 cCallDecode3 (k := (endK [(.tmp 2)])) (fun _ _ => rfl) (initFrom 0 [v0]) H

def callDecode1 : LFun := ⟨(.seq (.reg [
    ⟨(some 1), (.mv (.k (.int .i64 0))), none⟩])
  (.seq (.seq (.reg [
    ⟨(some 3), (.ld1 (.t 0)), none⟩,
    ⟨(some 4), (.len .slice (.t 3)), none⟩,
    ⟨(some 5), (.bin .eql (.t 4) (.k (.int .i64 0))), none⟩])
  (.cond (.t 5) (.seq (.reg [
    ⟨(some 1), (.mv (.k (.int .i64 0))), none⟩])
  .ret)
  .skip))
  (.seq (.reg [
    ⟨(some 6), (.ld1 (.t 0)), none⟩,
    ⟨(some 7), (.ix 1 (.t 6) (.k (.int .i64 0))), none⟩,
    ⟨(some 8), (.ld1 (.t 7)), none⟩,
    ⟨(some 2), (.mv (.t 8)), none⟩])
  (.seq (.reg [
    ⟨(some 9), (.ld1 (.t 0)), none⟩,
    ⟨(some 10), (.slc (.slice 1) (.t 9) (some (.k (.int .i64 1))) none none), none⟩,
    ⟨none, (.st 1 (.t 0) (.t 10)), none⟩])
  (.seq (.reg [
    ⟨(some 11), (.mv (.t 2)), none⟩,
    ⟨(some 12), (.cvt .i64 (.t 11)), none⟩,
    ⟨(some 1), (.mv (.t 12)), none⟩])
  .ret))))), [(.tmp 1)], 13⟩
def callDecode1S (cal : FuncId → Bool) (φ : Oracle) (N : Nat) (v0 : IV) (H : Heap) : Option (IV × Heap) :=
    ob (lload1 H v0) fun t1 =>
    ob (llen H .slice t1) fun t2 =>
    ob (lbin .eql t2 (.int .i64 0)) fun t3 =>
    cnd t3
    (some ((.int .i64 0), H))
    (ob (lload1 H v0) fun t4 =>
    ob (lix 1 t4 (.int .i64 0)) fun t5 =>
    ob (lload1 H t5) fun t6 =>
    ob (lload1 H v0) fun t7 =>
    ob (lslice H (.slice 1) t7 (some (.int .i64 1)) none none) fun t8 =>
    ob (lstV H 1 v0 t8) fun r9 =>
    ob (lcvt .i64 t6) fun t10 =>
    some (t10, r9.2))
theorem callDecode1Eq (cal : FuncId → Bool) (φ : Oracle) (N : Nat) (v0 : IV) (H : Heap) : lrunK cal φ N (callDecode1) [v0] H = callDecode1S cal φ N v0 H := by
  kernel_rfl

def callDecode2 : LFun := ⟨(.seq (.reg [
    ⟨(some 1), (.mv (.k (.int .i64 0))), none⟩])
  (.seq (.reg [
    ⟨(some 3), (.ld1 (.t 0)), none⟩,
    ⟨(some 4), (.callV (.t 3) []), none⟩,
    ⟨(some 2), (.mv (.t 4)), none⟩])
  (.seq (.reg [
    ⟨(some 5), (.mv (.t 2)), none⟩,
    ⟨(some 6), (.bin .shl (.t 5) (.k (.int .u64 8))), none⟩,
    ⟨(some 7), (.ld1 (.t 0)), none⟩,
    ⟨(some 8), (.callV (.t 7) []), none⟩,
    ⟨(some 9), (.bin .add (.t 6) (.t 8)), none⟩,
    ⟨(some 10), (.bin .add (.t 9) (.k (.int .i64 (-256)))), none⟩,
    ⟨(some 1), (.mv (.t 10)), none⟩])
  .ret))), [(.tmp 1)], 11⟩
def callDecode2S (cal : FuncId → Bool) (φ : Oracle) (N : Nat) (v0 : IV) (H : Heap) : Option (IV × Heap) :=
    ob (lload1 H v0) fun t1 =>
    ob (lcallV cal φ H t1 []) fun r2 =>
    ob (lbin .shl r2.1 (.int .u64 8)) fun t3 =>
    ob (lload1 r2.2 v0) fun t4 =>
    ob (lcallV cal φ r2.2 t4 []) fun r5 =>
    ob (lbin .add t3 r5.1) fun t6 =>
    ob (lbin .add t6 (.int .i64 (-256))) fun t7 =>
    some (t7, r5.2)
theorem callDecode2Eq (cal : FuncId → Bool) (φ : Oracle) (N : Nat) (v0 : IV) (H : Heap) : lrunK cal φ N (callDecode2) [v0] H = callDecode2S cal φ N v0 H := by
  kernel_rfl

def callDecode3C0 : LC := .loop (.seq (.seq (.reg [
    ⟨(some 7), (.mv (.t 3)), none⟩,
    ⟨(some 8), (.bin .gtr (.t 7) (.k (.int .i64 0))), none⟩])
  (.cond (.t 8) .skip
  (.exit 0)))
  (.seq (.block 1 (.reg [
    ⟨(some 11), (.mv (.t 2)), none⟩,
    ⟨(some 12), (.ld1 (.t 0)), none⟩,
    ⟨(some 13), (.callV (.t 12) []), none⟩,
    ⟨(some 14), (.cvt .u8 (.t 13)), none⟩,
    ⟨(some 15), (.bldS 1 1 [(.int .u8 0)] [(0, (.t 14))]), none⟩,
    ⟨(some 16), (.app 1 1 (.t 11) (.t 15)), none⟩,
    ⟨(some 2), (.mv (.t 16)), none⟩]))
  (.reg [
    ⟨(some 9), (.mv (.t 3)), none⟩,
    ⟨(some 10), (.bin .sub (.t 9) (.k (.int .i64 1))), none⟩,
    ⟨(some 3), (.mv (.t 10)), none⟩])))
def callDecode3C1 : LC := .block 0 callDecode3C0
def callDecode3C2 : LC := .seq (.reg [
    ⟨(some 4), (.ld1 (.t 0)), none⟩,
    ⟨(some 5), (.callV (.t 4) []), none⟩,
    ⟨(some 6), (.bin .rem (.t 5) (.k (.int .i64 64))), none⟩,
    ⟨(some 3), (.mv (.t 6)), none⟩]) callDecode3C1
def callDecode3C3 : LC := .seq callDecode3C2 (.seq (.reg [
    ⟨(some 17), (.mv (.t 2)), none⟩,
    ⟨(some 18), (.b2s (.t 17)), none⟩,
    ⟨(some 1), (.mv (.t 18)), none⟩])
  .ret)
def callDecode3C4 : LC := .seq (.reg [
    ⟨(some 2), (.mv (.k .nilSlice)), none⟩]) callDecode3C3
def callDecode3C5 : LC := .seq (.reg [
    ⟨(some 1), (.mv (.k (.str []))), none⟩]) callDecode3C4
def callDecode3C0S (cal : FuncId → Bool) (φ : Oracle) (N : Nat) (gE0 : IV → Heap → Option (IV × Heap)) : Nat → IV → IV → IV → Heap → Option (IV × Heap)
  | 0, _, _, _, _ => none
  | n + 1, v0, v2, v3, H =>
    ob (lbin .gtr v3 (.int .i64 0)) fun t1 =>
    cnd t1
    (ob (lload1 H v0) fun t2 =>
    ob (lcallV cal φ H t2 []) fun r3 =>
    ob (lcvt .u8 r3.1) fun t4 =>
    ob (lbldS r3.2 1 1 [(.int .u8 0)] [(0, t4)]) fun r5 =>
    ob (lapp r5.2 1 1 v2 r5.1) fun r6 =>
    ob (lbin .sub v3 (.int .i64 1)) fun t7 =>
    callDecode3C0S cal φ N gE0 n v0 r6.1 t7 r6.2)
    (gE0 v2 H)
theorem callDecode3C0Eq (cal : FuncId → Bool) (φ : Oracle) (N : Nat) {k : KT (IV × Heap)} (gE0 : IV → Heap → Option (IV × Heap)) (hgE0 : ∀ σ H, k (.exit 0) σ H = gE0 (lk σ 2) H) : ∀ (n : Nat) (σ : Sg) (H : Heap), itK (lxK cal φ N (.seq (.seq (.reg [
    ⟨(some 7), (.mv (.t 3)), none⟩,
    ⟨(some 8), (.bin .gtr (.t 7) (.k (.int .i64 0))), none⟩])
  (.cond (.t 8) .skip
  (.exit 0)))
  (.seq (.block 1 (.reg [
    ⟨(some 11), (.mv (.t 2)), none⟩,
    ⟨(some 12), (.ld1 (.t 0)), none⟩,
    ⟨(some 13), (.callV (.t 12) []), none⟩,
    ⟨(some 14), (.cvt .u8 (.t 13)), none⟩,
    ⟨(some 15), (.bldS 1 1 [(.int .u8 0)] [(0, (.t 14))]), none⟩,
    ⟨(some 16), (.app 1 1 (.t 11) (.t 15)), none⟩,
    ⟨(some 2), (.mv (.t 16)), none⟩]))
  (.reg [
    ⟨(some 9), (.mv (.t 3)), none⟩,
    ⟨(some 10), (.bin .sub (.t 9) (.k (.int .i64 1))), none⟩,
    ⟨(some 3), (.mv (.t 10)), none⟩])))) n σ H k = callDecode3C0S cal φ N gE0 n (lk σ 0) (lk σ 2) (lk σ 3) H := by
  have hk : k = (kE 0 (fun σ H => gE0 (lk σ 2) H) k) := (kE_mk hgE0 rfl)
  intro n
  induction n with
  | zero => intro σ H; rfl
  | succ n ih =>
    intro σ H
    rw [itK_succ, seqK_mk (g := fun σ H => callDecode3C0S cal φ N gE0 n (lk σ 0) (lk σ 2) (lk σ 3) H) ih, hk]
    kernel_rfl
def callDecode3C1S (cal : FuncId → Bool) (φ : Oracle) (N : Nat) (gN : IV → Heap → Option (IV × Heap)) (v0 v2 v3 : IV) (H : Heap) : Option (IV × Heap) :=
    callDecode3C0S cal φ N (fun v2 H => gN v2 H) N v0 v2 v3 H
theorem callDecode3C1Eq (cal : FuncId → Bool) (φ : Oracle) (N : Nat) {k : KT (IV × Heap)} (gN : IV → Heap → Option (IV × Heap)) (hgN : ∀ σ H, k .normal σ H = gN (lk σ 2) H) : ∀ (σ : Sg) (H : Heap), lxK cal φ N callDecode3C1 σ H k = callDecode3C1S cal φ N gN (lk σ 0) (lk σ 2) (lk σ 3) H := by
  have hk : k = (kN (fun σ H => gN (lk σ 2) H) k) := (kN_mk hgN rfl)
  intro σ H
  rw [hk]
  show lxK cal φ N callDecode3C0 σ H (blockK 0 (kN (fun σ H => gN (lk σ 2) H) k)) = _
  exact callDecode3C0Eq cal φ N (k := (blockK 0 (kN (fun σ H => gN (lk σ 2) H) k))) (fun v2 H => gN v2 H) (fun _ _ => rfl) N σ H
def callDecode3C2S (cal : FuncId → Bool) (φ : Oracle) (N : Nat) (gN : IV → Heap → Option (IV × Heap)) (v0 v2 : IV) (H : Heap) : Option (IV × Heap) :=
    ob (lload1 H v0) fun t1 =>
    ob (lcallV cal φ H t1 []) fun r2 =>
    ob (lbin .rem r2.1 (.int .i64 64)) fun t3 =>
    callDecode3C1S cal φ N (fun v2 H => gN v2 H) v0 v2 t3 r2.2
theorem callDecode3C2Eq (cal : FuncId → Bool) (φ : Oracle) (N : Nat) {k : KT (IV × Heap)} (gN : IV → Heap → Option (IV × Heap)) (hgN : ∀ σ H, k .normal σ H = gN (lk σ 2) H) : ∀ (σ : Sg) (H : Heap), lxK cal φ N callDecode3C2 σ H k = callDecode3C2S cal φ N gN (lk σ 0) (lk σ 2) H := by
  have hk : k = (kN (fun σ H => gN (lk σ 2) H) k) := (kN_mk hgN rfl)
  intro σ H
  rw [hk]
  show lxK cal φ N (.reg [
    ⟨(some 4), (.ld1 (.t 0)), none⟩,
    ⟨(some 5), (.callV (.t 4) []), none⟩,
    ⟨(some 6), (.bin .rem (.t 5) (.k (.int .i64 64))), none⟩,
    ⟨(some 3), (.mv (.t 6)), none⟩]) σ H (seqK (lxK cal φ N callDecode3C1) (kN (fun σ H => gN (lk σ 2) H) k)) = _
  rw [seqK_mk (g := fun σ H => callDecode3C1S cal φ N (fun v2 H => gN v2 H) (lk σ 0) (lk σ 2) (lk σ 3) H) (callDecode3C1Eq cal φ N (k := (kN (fun σ H => gN (lk σ 2) H) k)) (fun v2 H => gN v2 H) (fun _ _ => rfl))]
  kernel_rfl
def callDecode3C3S (cal : FuncId → Bool) (φ : Oracle) (N : Nat) (v0 v2 : IV) (H : Heap) : Option (IV × Heap) :=
    callDecode3C2S cal φ N (fun v2 H => ob (lb2s H v2) fun t1 =>
    some (t1, H)) v0 v2 H
theorem callDecode3C3Eq (cal : FuncId → Bool) (φ : Oracle) (N : Nat) {k : KT (IV × Heap)} (hR : ∀ σ H, k .ret σ H = resK [(.tmp 1)] [] σ H) : ∀ (σ : Sg) (H : Heap), lxK cal φ N callDecode3C3 σ H k = callDecode3C3S cal φ N (lk σ 0) (lk σ 2) H := by
  have hk : k = (kR (resK [(.tmp 1)] []) k) := (kR_mk hR rfl)
  intro σ H
  rw [hk]
  show lxK cal φ N callDecode3C2 σ H (seqK (lxK cal φ N (.seq (.reg [
    ⟨(some 17), (.mv (.t 2)), none⟩,
    ⟨(some 18), (.b2s (.t 17)), none⟩,
    ⟨(some 1), (.mv (.t 18)), none⟩])
  .ret)) (kR (resK [(.tmp 1)] []) k)) = _
  exact callDecode3C2Eq cal φ N (k := (seqK (lxK cal φ N (.seq (.reg [
    ⟨(some 17), (.mv (.t 2)), none⟩,
    ⟨(some 18), (.b2s (.t 17)), none⟩,
    ⟨(some 1), (.mv (.t 18)), none⟩])
  .ret)) (kR (resK [(.tmp 1)] []) k))) (fun v2 H => ob (lb2s H v2) fun t1 =>
some (t1, H)) (fun _ _ => rfl) σ H
def callDecode3C4S (cal : FuncId → Bool) (φ : Oracle) (N : Nat) (v0 : IV) (H : Heap) : Option (IV × Heap) :=
    callDecode3C3S cal φ N v0 .nilSlice H
theorem callDecode3C4Eq (cal : FuncId → Bool) (φ : Oracle) (N : Nat) {k : KT (IV × Heap)} (hR : ∀ σ H, k .ret σ H = resK [(.tmp 1)] [] σ H) : ∀ (σ : Sg) (H : Heap), lxK cal φ N callDecode3C4 σ H k = callDecode3C4S cal φ N (lk σ 0) H := by
  have hk : k = (kR (resK [(.tmp 1)] []) k) := (kR_mk hR rfl)
  intro σ H
  rw [hk]
  show lxK cal φ N (.reg [
    ⟨(some 2), (.mv (.k .nilSlice)), none⟩]) σ H (seqK (lxK cal φ N callDecode3C3) (kR (resK [(.tmp 1)] []) k)) = _
  rw [seqK_mk (g := fun σ H => callDecode3C3S cal φ N (lk σ 0) (lk σ 2) H) (callDecode3C3Eq cal φ N (k := (kR (resK [(.tmp 1)] []) k)) (fun _ _ => rfl))]
  kernel_rfl
def callDecode3C5S (cal : FuncId → Bool) (φ : Oracle) (N : Nat) (v0 : IV) (H : Heap) : Option (IV × Heap) :=
    callDecode3C4S cal φ N v0 H
theorem callDecode3C5Eq (cal : FuncId → Bool) (φ : Oracle) (N : Nat) {k : KT (IV × Heap)} (hR : ∀ σ H, k .ret σ H = resK [(.tmp 1)] [] σ H) : ∀ (σ : Sg) (H : Heap), lxK cal φ N callDecode3C5 σ H k = callDecode3C5S cal φ N (lk σ 0) H := by
  have hk : k = (kR (resK [(.tmp 1)] []) k) := (kR_mk hR rfl)
  intro σ H
  rw [hk]
  show lxK cal φ N (.reg [
    ⟨(some 1), (.mv (.k (.str []))), none⟩]) σ H (seqK (lxK cal φ N callDecode3C4) (kR (resK [(.tmp 1)] []) k)) = _
  rw [seqK_mk (g := fun σ H => callDecode3C4S cal φ N (lk σ 0) H) (callDecode3C4Eq cal φ N (k := (kR (resK [(.tmp 1)] []) k)) (fun _ _ => rfl))]
  kernel_rfl
def callDecode3 : LFun := ⟨callDecode3C5, [(.tmp 1)], 19⟩
def callDecode3S (cal : FuncId → Bool) (φ : Oracle) (N : Nat) (v0 : IV) (H : Heap) : Option (IV × Heap) :=
    callDecode3C5S cal φ N v0 H
theorem callDecode3Eq (cal : FuncId → Bool) (φ : Oracle) (N : Nat) (v0 : IV) (H : Heap) : lrunK cal φ N (callDecode3) [v0] H = callDecode3S cal φ N v0 H := by
  show lxK cal φ N callDecode3C5 (initFrom 0 [v0]) H (endK [(.tmp 1)]) = _
  exact callDecode3C5Eq cal φ N (k := (endK [(.tmp 1)])) (fun _ _ => rfl) (initFrom 0 [v0]) H

def veneerref08At : LFun := ⟨(.seq (.reg [
    ⟨(some 4), (.mv (.k (.int .i64 0))), none⟩])
  (.seq (.seq (.reg [
    ⟨(some 5), (.mv (.t 1)), none⟩,
    ⟨(some 6), (.mv (.t 0)), none⟩,
    ⟨(some 7), (.len .slice (.t 6)), none⟩,
    ⟨(some 8), (.bin .lss (.t 5) (.t 7)), none⟩])
  (.cond (.t 8) (.seq (.reg [
    ⟨(some 9), (.mv (.t 0)), none⟩,
    ⟨(some 10), (.mv (.t 1)), none⟩,
    ⟨(some 11), (.ix 1 (.t 9) (.t 10)), none⟩,
    ⟨(some 12), (.ld1 (.t 11)), none⟩,
    ⟨(some 13), (.cvt .i64 (.t 12)), none⟩,
    ⟨(some 4), (.mv (.t 13)), none⟩])
  .ret)
  .skip))
  (.seq (.reg [
    ⟨(some 4), (.mv (.k (.int .i64 0))), none⟩])
  .ret))), [(.tmp 4)], 14⟩
def veneerref08AtS (cal : FuncId → Bool) (φ : Oracle) (N : Nat) (v0 v1 : IV) (H : Heap) : Option (IV × Heap) :=
    ob (llen H .slice v0) fun t1 =>
    ob (lbin .lss v1 t1) fun t2 =>
    cnd t2
    (ob (lix 1 v0 v1) fun t3 =>
    ob (lload1 H t3) fun t4 =>
    ob (lcvt .i64 t4) fun t5 =>
    some (t5, H))
    (some ((.int .i64 0), H))
theorem veneerref08AtEq (cal : FuncId → Bool) (φ : Oracle) (N : Nat) (v0 v1 : IV) (H : Heap) : lrunK cal φ N (veneerref08At) [v0, v1] H = veneerref08AtS cal φ N v0 v1 H := by
  kernel_rfl

def veneerref08TextC0 (cVeneerref08At : FuncId) : LC := .loop (.seq (.seq (.reg [
    ⟨(some 10), (.mv (.t 8)), none⟩,
    ⟨(some 11), (.mv (.t 2)), none⟩,
    ⟨(some 12), (.bin .lss (.t 10) (.t 11)), none⟩])
  (.cond (.t 12) .skip
  (.exit 0)))
  (.seq (.block 1 (.reg [
    ⟨(some 15), (.mv (.t 7)), none⟩,
    ⟨(some 16), (.mv (.t 0)), none⟩,
    ⟨(some 17), (.mv (.t 1)), none⟩,
    ⟨(some 18), (.mv (.t 8)), none⟩,
    ⟨(some 19), (.bin .add (.t 17) (.t 18)), none⟩,
    ⟨(some 20), (.callF cVeneerref08At [(.t 16), (.t 19)]), none⟩,
    ⟨(some 21), (.cvt .u8 (.t 20)), none⟩,
    ⟨(some 22), (.bldS 1 1 [(.int .u8 0)] [(0, (.t 21))]), none⟩,
    ⟨(some 23), (.app 1 1 (.t 15) (.t 22)), none⟩,
    ⟨(some 7), (.mv (.t 23)), none⟩]))
  (.reg [
    ⟨(some 13), (.mv (.t 8)), none⟩,
    ⟨(some 14), (.bin .add (.t 13) (.k (.int .i64 1))), none⟩,
    ⟨(some 8), (.mv (.t 14)), none⟩])))
def veneerref08TextC1 (cVeneerref08At : FuncId) : LC := .block 0 (veneerref08TextC0 cVeneerref08At)
def veneerref08TextC2 (cVeneerref08At : FuncId) : LC := .seq (.reg [
    ⟨(some 8), (.mv (.k (.int .i64 0))), none⟩]) (veneerref08TextC1 cVeneerref08At)
def veneerref08TextC3 (cVeneerref08At : FuncId) : LC := .seq (veneerref08TextC2 cVeneerref08At) (.seq (.reg [
    ⟨(some 24), (.mv (.t 7)), none⟩,
    ⟨(some 25), (.b2s (.t 24)), none⟩,
    ⟨(some 6), (.mv (.t 25)), none⟩])
  .ret)
def veneerref08TextC4 (cVeneerref08At : FuncId) : LC := .seq (.reg [
    ⟨(some 9), (.bldS 1 0 [(.int .u8 0)] []), none⟩,
    ⟨(some 7), (.mv (.t 9)), none⟩]) (veneerref08TextC3 cVeneerref08At)
def veneerref08TextC5 (cVeneerref08At : FuncId) : LC := .seq (.reg [
    ⟨(some 6), (.mv (.k (.str []))), none⟩]) (veneerref08TextC4 cVeneerref08At)
def veneerref08TextC0S (cal : FuncId → Bool) (φ : Oracle) (N : Nat) (cVeneerref08At : FuncId) (gE0 : IV → Heap → Option (IV × Heap)) : Nat → IV → IV → IV → IV → IV → Heap → Option (IV × Heap)
  | 0, _, _, _, _, _, _ => none
  | n + 1, v0, v1, v2, v7, v8, H =>
    ob (lbin .lss v8 v2) fun t1 =>
    cnd t1
    (ob (lbin .add v1 v8) fun t2 =>
    ob (φ cVeneerref08At [v0, t2] H) fun r3 =>
    ob (lcvt .u8 r3.1) fun t4 =>
    ob (lbldS r3.2 1 1 [(.int .u8 0)] [(0, t4)]) fun r5 =>
    ob (lapp r5.2 1 1 v7 r5.1) fun r6 =>
    ob (lbin .add v8 (.int .i64 1)) fun t7 =>
    veneerref08TextC0S cal φ N cVeneerref08At gE0 n v0 v1 v2 r6.1 t7 r6.2)
    (gE0 v7 H)
theorem veneerref08TextC0Eq (cal : FuncId → Bool) (φ : Oracle) (N : Nat) (cVeneerref08At : FuncId) {k : KT (IV × Heap)} (gE0 : IV → Heap → Option (IV × Heap)) (hgE0 : ∀ σ H, k (.exit 0) σ H = gE0 (lk σ 7) H) : ∀ (n : Nat) (σ : Sg) (H : Heap), itK (lxK cal φ N (.seq (.seq (.reg [
    ⟨(some 10), (.mv (.t 8)), none⟩,
    ⟨(some 11), (.mv (.t 2)), none⟩,
    ⟨(some 12), (.bin .lss (.t 10) (.t 11)), none⟩])
  (.cond (.t 12) .skip
  (.exit 0)))
  (.seq (.block 1 (.reg [
    ⟨(some 15), (.mv (.t 7)), none⟩,
    ⟨(some 16), (.mv (.t 0)), none⟩,
    ⟨(some 17), (.mv (.t 1)), none⟩,
    ⟨(some 18), (.mv (.t 8)), none⟩,
    ⟨(some 19), (.bin .add (.t 17) (.t 18)), none⟩,
    ⟨(some 20), (.callF cVeneerref08At [(.t 16), (.t 19)]), none⟩,
    ⟨(some 21), (.cvt .u8 (.t 20)), none⟩,
    ⟨(some 22), (.bldS 1 1 [(.int .u8 0)] [(0, (.t 21))]), none⟩,
    ⟨(some 23), (.app 1 1 (.t 15) (.t 22)), none⟩,
    ⟨(some 7), (.mv (.t 23)), none⟩]))
  (.reg [
    ⟨(some 13), (.mv (.t 8)), none⟩,
    ⟨(some 14), (.bin .add (.t 13) (.k (.int .i64 1))), none⟩,
    ⟨(some 8), (.mv (.t 14)), none⟩])))) n σ H k = veneerref08TextC0S cal φ N cVeneerref08At gE0 n (lk σ 0) (lk σ 1) (lk σ 2) (lk σ 7) (lk σ 8) H := by
  have hk : k = (kE 0 (fun σ H => gE0 (lk σ 7) H) k) := (kE_mk hgE0 rfl)
  intro n
  induction n with
  | zero => intro σ H; rfl
  | succ n ih =>
    intro σ H
    rw [itK_succ, seqK_mk (g := fun σ H => veneerref08TextC0S cal φ N cVeneerref08At gE0 n (lk σ 0) (lk σ 1) (lk σ 2) (lk σ 7) (lk σ 8) H) ih, hk]
    kernel_rfl
def veneerref08TextC1S (cal : FuncId → Bool) (φ : Oracle) (N : Nat) (cVeneerref08At : FuncId) (gN : IV → Heap → Option (IV × Heap)) (v0 v1 v2 v7 v8 : IV) (H : Heap) : Option (IV × Heap) :=
    veneerref08TextC0S cal φ N cVeneerref08At (fun v7 H => gN v7 H) N v0 v1 v2 v7 v8 H
theorem veneerref08TextC1Eq (cal : FuncId → Bool) (φ : Oracle) (N : Nat) (cVeneerref08At : FuncId) {k : KT (IV × Heap)} (gN : IV → Heap → Option (IV × Heap)) (hgN : ∀ σ H, k .normal σ H = gN (lk σ 7) H) : ∀ (σ : Sg) (H : Heap), lxK cal φ N (veneerref08TextC1 cVeneerref08At) σ H k = veneerref08TextC1S cal φ N cVeneerref08At gN (lk σ 0) (lk σ 1) (lk σ 2) (lk σ 7) (lk σ 8) H := by
  have hk : k = (kN (fun σ H => gN (lk σ 7) H) k) := (kN_mk hgN rfl)
  intro σ H
  rw [hk]
  show lxK cal φ N (veneerref08TextC0 cVeneerref08At) σ H (blockK 0 (kN (fun σ H => gN (lk σ 7) H) k)) = _
  exact veneerref08TextC0Eq cal φ N cVeneerref08At (k := (blockK 0 (kN (fun σ H => gN (lk σ 7) H) k))) (fun v7 H => gN v7 H) (fun _ _ => rfl) N σ H
def veneerref08TextC2S (cal : FuncId → Bool) (φ : Oracle) (N : Nat) (cVeneerref08At : FuncId) (gN : IV → Heap → Option (IV × Heap)) (v0 v1 v2 v7 : IV) (H : Heap) : Option (IV × Heap) :=
    veneerref08TextC1S cal φ N cVeneerref08At (fun v7 H => gN v7 H) v0 v1 v2 v7 (.int .i64 0) H
theorem veneerref08TextC2Eq (cal : FuncId → Bool) (φ : Oracle) (N : Nat) (cVeneerref08At : FuncId) {k : KT (IV × Heap)} (gN : IV → Heap → Option (IV × Heap)) (hgN : ∀ σ H, k .normal σ H = gN (lk σ 7) H) : ∀ (σ : Sg) (H : Heap), lxK cal φ N (veneerref08TextC2 cVeneerref08At) σ H k = veneerref08TextC2S cal φ N cVeneerref08At gN (lk σ 0) (lk σ 1) (lk σ 2) (lk σ 7) H := by
  have hk : k = (kN (fun σ H => gN (lk σ 7) H) k) := (kN_mk hgN rfl)
  intro σ H
  rw [hk]
  show lxK cal φ N (.reg [
    ⟨(some 8), (.mv (.k (.int .i64 0))), none⟩]) σ H (seqK (lxK cal φ N (veneerref08TextC1 cVeneerref08At)) (kN (fun σ H => gN (lk σ 7) H) k)) = _
  rw [seqK_mk (g := fun σ H => veneerref08TextC1S cal φ N cVeneerref08At (fun v7 H => gN v7 H) (lk σ 0) (lk σ 1) (lk σ 2) (lk σ 7) (lk σ 8) H) (veneerref08TextC1Eq cal φ N cVeneerref08At (k := (kN (fun σ H => gN (lk σ 7) H) k)) (fun v7 H => gN v7 H) (fun _ _ => rfl))]
  kernel_rfl
def veneerref08TextC3S (cal : FuncId → Bool) (φ : Oracle) (N : Nat) (cVeneerref08At : FuncId) (v0 v1 v2 v7 : IV) (H : Heap) : Option (IV × Heap) :=
    veneerref08TextC2S cal φ N cVeneerref08At (fun v7 H => ob (lb2s H v7) fun t1 =>
    some (t1, H)) v0 v1 v2 v7 H
theorem veneerref08TextC3Eq (cal : FuncId → Bool) (φ : Oracle) (N : Nat) (cVeneerref08At : FuncId) {k : KT (IV × Heap)} (hR : ∀ σ H, k .ret σ H = resK [(.tmp 6)] [] σ H) : ∀ (σ : Sg) (H : Heap), lxK cal φ N (veneerref08TextC3 cVeneerref08At) σ H k = veneerref08TextC3S cal φ N cVeneerref08At (lk σ 0) (lk σ 1) (lk σ 2) (lk σ 7) H := by
  have hk : k = (kR (resK [(.tmp 6)] []) k) := (kR_mk hR rfl)
  intro σ H
  rw [hk]
  show lxK cal φ N (veneerref08TextC2 cVeneerref08At) σ H (seqK (lxK cal φ N (.seq (.reg [
    ⟨(some 24), (.mv (.t 7)), none⟩,
    ⟨(some 25), (.b2s (.t 24)), none⟩,
    ⟨(some 6), (.mv (.t 25)), none⟩])
  .ret)) (kR (resK [(.tmp 6)] []) k)) = _
  exact veneerref08TextC2Eq cal φ N cVeneerref08At (k := (seqK (lxK cal φ N (.seq (.reg [
    ⟨(some 24), (.mv (.t 7)), none⟩,
    ⟨(some 25), (.b2s (.t 24)), none⟩,
    ⟨(some 6), (.mv (.t 25)), none⟩])
  .ret)) (kR (resK [(.tmp 6)] []) k))) (fun v7 H => ob (lb2s H v7) fun t1 =>
some (t1, H)) (fun _ _ => rfl) σ H
def veneerref08TextC4S (cal : FuncId → Bool) (φ : Oracle) (N : Nat) (cVeneerref08At : FuncId) (v0 v1 v2 : IV) (H : Heap) : Option (IV × Heap) :=
    ob (lbldS H 1 0 [(.int .u8 0)] []) fun r1 =>
    veneerref08TextC3S cal φ N cVeneerref08At v0 v1 v2 r1.1 r1.2
theorem veneerref08TextC4Eq (cal : FuncId → Bool) (φ : Oracle) (N : Nat) (cVeneerref08At : FuncId) {k : KT (IV × Heap)} (hR : ∀ σ H, k .ret σ H = resK [(.tmp 6)] [] σ H) : ∀ (σ : Sg) (H : Heap), lxK cal φ N (veneerref08TextC4 cVeneerref08At) σ H k = veneerref08TextC4S cal φ N cVeneerref08At (lk σ 0) (lk σ 1) (lk σ 2) H := by
  have hk : k = (kR (resK [(.tmp 6)] []) k) := (kR_mk hR rfl)
  intro σ H
  rw [hk]
  show lxK cal φ N (.reg [
    ⟨(some 9), (.bldS 1 0 [(.int .u8 0)] []), none⟩,
    ⟨(some 7), (.mv (.t 9)), none⟩]) σ H (seqK (lxK cal φ N (veneerref08TextC3 cVeneerref08At)) (kR (resK [(.tmp 6)] []) k)) = _
  rw [seqK_mk (g := fun σ H => veneerref08TextC3S cal φ N cVeneerref08At (lk σ 0) (lk σ 1) (lk σ 2) (lk σ 7) H) (veneerref08TextC3Eq cal φ N cVeneerref08At (k := (kR (resK [(.tmp 6)] []) k)) (fun _ _ => rfl))]
  kernel_rfl
def veneerref08TextC5S (cal : FuncId → Bool) (φ : Oracle) (N : Nat) (cVeneerref08At : FuncId) (v0 v1 v2 : IV) (H : Heap) : Option (IV × Heap) :=
    veneerref08TextC4S cal φ N cVeneerref08At v0 v1 v2 H
theorem veneerref08TextC5Eq (cal : FuncId → Bool) (φ : Oracle) (N : Nat) (cVeneerref08At : FuncId) {k : KT (IV × Heap)} (hR : ∀ σ H, k .ret σ H = resK [(.tmp 6)] [] σ H) : ∀ (σ : Sg) (H : Heap), lxK cal φ N (veneerref08TextC5 cVeneerref08At) σ H k = veneerref08TextC5S cal φ N cVeneerref08At (lk σ 0) (lk σ 1) (lk σ 2) H := by
  have hk : k = (kR (resK [(.tmp 6)] []) k) := (kR_mk hR rfl)
  intro σ H
  rw [hk]
  show lxK cal φ N (.reg [
    ⟨(some 6), (.mv (.k (.str []))), none⟩]) σ H (seqK (lxK cal φ N (veneerref08TextC4 cVeneerref08At)) (kR (resK [(.tmp 6)] []) k)) = _
  rw [seqK_mk (g := fun σ H => veneerref08TextC4S cal φ N cVeneerref08At (lk σ 0) (lk σ 1) (lk σ 2) H) (veneerref08TextC4Eq cal φ N cVeneerref08At (k := (kR (resK [(.tmp 6)] []) k)) (fun _ _ => rfl))]
  kernel_rfl
def veneerref08Text (cVeneerref08At : FuncId) : LFun := ⟨(veneerref08TextC5 cVeneerref08At), [(.tmp 6)], 26⟩
def veneerref08TextS (cal : FuncId → Bool) (φ : Oracle) (N : Nat) (cVeneerref08At : FuncId) (v0 v1 v2 : IV) (H : Heap) : Option (IV × Heap) :=
    veneerref08TextC5S cal φ N cVeneerref08At v0 v1 v2 H
theorem veneerref08TextEq (cal : FuncId → Bool) (φ : Oracle) (N : Nat) (cVeneerref08At : FuncId) (v0 v1 v2 : IV) (H : Heap) : lrunK cal φ N (veneerref08Text cVeneerref08At) [v0, v1, v2] H = veneerref08TextS cal φ N cVeneerref08At v0 v1 v2 H := by
  show lxK cal φ N (veneerref08TextC5 cVeneerref08At) (initFrom 0 [v0, v1, v2]) H (endK [(.tmp 6)]) = _
  exact veneerref08TextC5Eq cal φ N cVeneerref08At (k := (endK [(.tmp 6)])) (fun _ _ => rfl) (initFrom 0 [v0, v1, v2]) H

def veneerref08Two : LFun := ⟨(.seq (.reg [
    ⟨(some 2), (.mv (.k .nilSlice)), none⟩])
  (.seq (.reg [
    ⟨(some 3), (.mv (.t 0)), none⟩,
    ⟨(some 4), (.bin .add (.t 3) (.k (.int .i64 256))), none⟩,
    ⟨(some 5), (.bin .quo (.t 4) (.k (.int .i64 256))), none⟩,
    ⟨(some 6), (.cvt .u8 (.t 5)), none⟩,
    ⟨(some 7), (.mv (.t 0)), none⟩,
    ⟨(some 8), (.bin .add (.t 7) (.k (.int .i64 256))), none⟩,
    ⟨(some 9), (.bin .rem (.t 8) (.k (.int .i64 256))), none⟩,
    ⟨(some 10), (.cvt .u8 (.t 9)), none⟩,
    ⟨(some 11), (.bldS 1 2 [(.int .u8 0)] [(0, (.t 6)), (1, (.t 10))]), none⟩,
    ⟨(some 2), (.mv (.t 11)), none⟩])
  .ret)), [(.tmp 2)], 12⟩
def veneerref08TwoS (cal : FuncId → Bool) (φ : Oracle) (N : Nat) (v0 : IV) (H : Heap) : Option (IV × Heap) :=
    ob (lbin .add v0 (.int .i64 256)) fun t1 =>
    ob (lbin .quo t1 (.int .i64 256)) fun t2 =>
    ob (lcvt .u8 t2) fun t3 =>
    ob (lbin .add v0 (.int .i64 256)) fun t4 =>
    ob (lbin .rem t4 (.int .i64 256)) fun t5 =>
    ob (lcvt .u8 t5) fun t6 =>
    ob (lbldS H 1 2 [(.int .u8 0)] [(0, t3), (1, t6)]) fun r7 =>
    some (r7.1, r7.2)
theorem veneerref08TwoEq (cal : FuncId → Bool) (φ : Oracle) (N : Nat) (v0 : IV) (H : Heap) : lrunK cal φ N (veneerref08Two) [v0] H = veneerref08TwoS cal φ N v0 H := by
  kernel_rfl

def veneerref08May : LFun := ⟨(.seq (.reg [
    ⟨(some 1), (.box (.t 0)), none⟩,
    ⟨(some 2), (.mv (.k (.bool false))), none⟩])
  (.seq (.seq (.reg [
    ⟨(some 3), (.off (.t 1) 0), none⟩,
    ⟨(some 4), (.ld1 (.t 3)), none⟩,
    ⟨(some 5), (.bin .lss (.t 4) (.k (.int .i64 1))), none⟩,
    ⟨(some 6), (.mv (.t 5)), none⟩,
    ⟨(some 7), (.off (.t 1) 0), (some (6, false))⟩,
    ⟨(some 8), (.ld1 (.t 7)), (some (6, false))⟩,
    ⟨(some 9), (.bin .gtr (.t 8) (.k (.int .i64 20))), (some (6, false))⟩,
    ⟨(some 10), (.pick (.t 6) (.k (.bool true)) (.t 9)), none⟩,
    ⟨(some 11), (.mv (.t 10)), none⟩,
    ⟨(some 12), (.off (.t 1) 1), (some (11, false))⟩,
    ⟨(some 13), (.ld1 (.t 12)), (some (11, false))⟩,
    ⟨(some 14), (.bin .lss (.t 13) (.k (.int .i64 (-4)))), (some (11, false))⟩,
    ⟨(some 15), (.pick (.t 11) (.k (.bool true)) (.t 14)), none⟩,
    ⟨(some 16), (.mv (.t 15)), none⟩,
    ⟨(some 17), (.off (.t 1) 1), (some (16, false))⟩,
    ⟨(some 18), (.ld1 (.t 17)), (some (16, false))⟩,
    ⟨(some 19), (.bin .gtr (.t 18) (.k (.int .i64 35))), (some (16, false))⟩,
    ⟨(some 20), (.pick (.t 16) (.k (.bool true)) (.t 19)), none⟩,
    ⟨(some 21), (.mv (.t 20)), none⟩,
    ⟨(some 22), (.off (.t 1) 2), (some (21, false))⟩,
    ⟨(some 23), (.ld1 (.t 22)), (some (21, false))⟩,
    ⟨(some 24), (.bin .lss (.t 23) (.k (.int .i64 0))), (some (21, false))⟩,
    ⟨(some 25), (.pick (.t 21) (.k (.bool true)) (.t 24)), none⟩,
    ⟨(some 26), (.mv (.t 25)), none⟩,
    ⟨(some 27), (.off (.t 1) 2), (some (26, false))⟩,
    ⟨(some 28), (.ld1 (.t 27)), (some (26, false))⟩,
    ⟨(some 29), (.bin .gtr (.t 28) (.k (.int .i64 63))), (some (26, false))⟩,
    ⟨(some 30), (.pick (.t 26) (.k (.bool true)) (.t 29)), none⟩])
  (.cond (.t 30) (.seq (.reg [
    ⟨(some 2), (.mv (.k (.bool false))), none⟩])
  .ret)
  .skip))
  (.seq (.reg [
    ⟨(some 31), (.off (.t 1) 3), none⟩,
    ⟨(some 32), (.ld1 (.t 31)), none⟩,
    ⟨(some 33), (.bin .geq (.t 32) (.k (.int .i64 (-256)))), none⟩,
    ⟨(some 34), (.mv (.t 33)), none⟩,
    ⟨(some 35), (.off (.t 1) 3), (some (34, true))⟩,
    ⟨(some 36), (.ld1 (.t 35)), (some (34, true))⟩,
    ⟨(some 37), (.bin .leq (.t 36) (.k (.int .i64 65279))), (some (34, true))⟩,
    ⟨(some 38), (.pick (.t 34) (.t 37) (.k (.bool false))), none⟩,
    ⟨(some 39), (.mv (.t 38)), none⟩,
    ⟨(some 40), (.off (.t 1) 4), (some (39, true))⟩,
    ⟨(some 41), (.ld1 (.t 40)), (some (39, true))⟩,
    ⟨(some 42), (.bin .geq (.t 41) (.k (.int .i64 (-256)))), (some (39, true))⟩,
    ⟨(some 43), (.pick (.t 39) (.t 42) (.k (.bool false))), none⟩,
    ⟨(some 44), (.mv (.t 43)), none⟩,
    ⟨(some 45), (.off (.t 1) 4), (some (44, true))⟩,
    ⟨(some 46), (.ld1 (.t 45)), (some (44, true))⟩,
    ⟨(some 47), (.bin .leq (.t 46) (.k (.int .i64 65279))), (some (44, true))⟩,
    ⟨(some 48), (.pick (.t 44) (.t 47) (.k (.bool false))), none⟩,
    ⟨(some 49), (.mv (.t 48)), none⟩,
    ⟨(some 50), (.off (.t 1) 5), (some (49, true))⟩,
    ⟨(some 51), (.ld1 (.t 50)), (some (49, true))⟩,
    ⟨(some 52), (.len .str (.t 51)), (some (49, true))⟩,
    ⟨(some 53), (.bin .leq (.t 52) (.k (.int .i64 63))), (some (49, true))⟩,
    ⟨(some 54), (.pick (.t 49) (.t 53) (.k (.bool false))), none⟩,
    ⟨(some 55), (.mv (.t 54)), none⟩,
    ⟨(some 56), (.off (.t 1) 6), (some (55, true))⟩,
    ⟨(some 57), (.ld1 (.t 56)), (some (55, true))⟩,
    ⟨(some 58), (.len .str (.t 57)), (some (55, true))⟩,
    ⟨(some 59), (.bin .leq (.t 58) (.k (.int .i64 63))), (some (55, true))⟩,
    ⟨(some 60), (.pick (.t 55) (.t 59) (.k (.bool false))), none⟩,
    ⟨(some 2), (.mv (.t 60)), none⟩])
  .ret))), [(.tmp 2)], 61⟩
def veneerref08MayS (cal : FuncId → Bool) (φ : Oracle) (N : Nat) (v0 : IV) (H : Heap) : Option (IV × Heap) :=
    ob (lbox H v0) fun r1 =>
    ob (loff r1.1 0) fun t2 =>
    ob (lload1 r1.2 t2) fun t3 =>
    ob (lbin .lss t3 (.int .i64 1)) fun t4 =>
    ob (gq (isB t4 false) (loff r1.1 0)) fun t5 =>
    ob (gq (isB t4 false) (lload1 r1.2 t5)) fun t6 =>
    ob (gq (isB t4 false) (lbin .gtr t6 (.int .i64 20))) fun t7 =>
    ob (lpick t4 (.bool true) t7) fun t8 =>
    ob (gq (isB t8 false) (loff r1.1 1)) fun t9 =>
    ob (gq (isB t8 false) (lload1 r1.2 t9)) fun t10 =>
    ob (gq (isB t8 false) (lbin .lss t10 (.int .i64 (-4)))) fun t11 =>
    ob (lpick t8 (.bool true) t11) fun t12 =>
    ob (gq (isB t12 false) (loff r1.1 1)) fun t13 =>
    ob (gq (isB t12 false) (lload1 r1.2 t13)) fun t14 =>
    ob (gq (isB t12 false) (lbin .gtr t14 (.int .i64 35))) fun t15 =>
    ob (lpick t12 (.bool true) t15) fun t16 =>
    ob (gq (isB t16 false) (loff r1.1 2)) fun t17 =>
    ob (gq (isB t16 false) (lload1 r1.2 t17)) fun t18 =>
    ob (gq (isB t16 false) (lbin .lss t18 (.int .i64 0))) fun t19 =>
    ob (lpick t16 (.bool true) t19) fun t20 =>
    ob (gq (isB t20 false) (loff r1.1 2)) fun t21 =>
    ob (gq (isB t20 false) (lload1 r1.2 t21)) fun t22 =>
    ob (gq (isB t20 false) (lbin .gtr t22 (.int .i64 63))) fun t23 =>
    ob (lpick t20 (.bool true) t23) fun t24 =>
    cnd t24
    (some ((.bool false), r1.2))
    (ob (loff r1.1 3) fun t25 =>
    ob (lload1 r1.2 t25) fun t26 =>
    ob (lbin .geq t26 (.int .i64 (-256))) fun t27 =>
    ob (gq (isB t27 true) (loff r1.1 3)) fun t28 =>
    ob (gq (isB t27 true) (lload1 r1.2 t28)) fun t29 =>
    ob (gq (isB t27 true) (lbin .leq t29 (.int .i64 65279))) fun t30 =>
    ob (lpick t27 t30 (.bool false)) fun t31 =>
    ob (gq (isB t31 true) (loff r1.1 4)) fun t32 =>
    ob (gq (isB t31 true) (lload1 r1.2 t32)) fun t33 =>
    ob (gq (isB t31 true) (lbin .geq t33 (.int .i64 (-256)))) fun t34 =>
    ob (lpick t31 t34 (.bool false)) fun t35 =>
    ob (gq (isB t35 true) (loff r1.1 4)) fun t36 =>
    ob (gq (isB t35 true) (lload1 r1.2 t36)) fun t37 =>
    ob (gq (isB t35 true) (lbin .leq t37 (.int .i64 65279))) fun t38 =>
    ob (lpick t35 t38 (.bool false)) fun t39 =>
    ob (gq (isB t39 true) (loff r1.1 5)) fun t40 =>
    ob (gq (isB t39 true) (lload1 r1.2 t40)) fun t41 =>
    ob (gq (isB t39 true) (llen r1.2 .str t41)) fun t42 =>
    ob (gq (isB t39 true) (lbin .leq t42 (.int .i64 63))) fun t43 =>
    ob (lpick t39 t43 (.bool false)) fun t44 =>
    ob (gq (isB t44 true) (loff r1.1 6)) fun t45 =>
    ob (gq (isB t44 true) (lload1 r1.2 t45)) fun t46 =>
    ob (gq (isB t44 true) (llen r1.2 .str t46)) fun t47 =>
    ob (gq (isB t44 true) (lbin .leq t47 (.int .i64 63))) fun t48 =>
    ob (lpick t44 t48 (.bool false)) fun t49 =>
    some (t49, r1.2))
theorem veneerref08MayEq (cal : FuncId → Bool) (φ : Oracle) (N : Nat) (v0 : IV) (H : Heap) : lrunK cal φ N (veneerref08May) [v0] H = veneerref08MayS cal φ N v0 H := by
  kernel_rfl

def veneerref08Encode (cVeneerref08May cVeneerref08Two : FuncId) : LFun := ⟨(.seq (.reg [
    ⟨(some 1), (.box (.t 0)), none⟩,
    ⟨(some 2), (.mv (.k .nilSlice)), none⟩,
    ⟨(some 3), (.mv (.k (.int .i64 0))), none⟩])
  (.seq (.seq (.reg [
    ⟨(some 5), (.ldn 7 (.t 1)), none⟩,
    ⟨(some 6), (.callF cVeneerref08May [(.t 5)]), none⟩,
    ⟨(some 7), (.un .not (.t 6)), none⟩])
  (.cond (.t 7) (.seq (.reg [
    ⟨(some 2), (.mv (.k .nilSlice)), none⟩,
    ⟨(some 3), (.mv (.k (.int .i64 22))), none⟩])
  .ret)
  .skip))
  (.seq (.reg [
    ⟨(some 8), (.off (.t 1) 0), none⟩,
    ⟨(some 9), (.ld1 (.t 8)), none⟩,
    ⟨(some 10), (.bin .sub (.t 9) (.k (.int .i64 1))), none⟩,
    ⟨(some 11), (.cvt .u8 (.t 10)), none⟩,
    ⟨(some 12), (.off (.t 1) 1), none⟩,
    ⟨(some 13), (.ld1 (.t 12)), none⟩,
    ⟨(some 14), (.bin .add (.t 13) (.k (.int .i64 4))), none⟩,
    ⟨(some 15), (.cvt .u8 (.t 14)), none⟩,
    ⟨(some 16), (.off (.t 1) 2), none⟩,
    ⟨(some 17), (.ld1 (.t 16)), none⟩,
    ⟨(some 18), (.cvt .u8 (.t 17)), none⟩,
    ⟨(some 19), (.bldS 1 3 [(.int .u8 0)] [(0, (.t 11)), (1, (.t 15)), (2, (.t 18))]), none⟩,
    ⟨(some 4), (.mv (.t 19)), none⟩])
  (.seq (.reg [
    ⟨(some 20), (.mv (.t 4)), none⟩,
    ⟨(some 21), (.off (.t 1) 3), none⟩,
    ⟨(some 22), (.ld1 (.t 21)), none⟩,
    ⟨(some 23), (.callF cVeneerref08Two [(.t 22)]), none⟩,
    ⟨(some 24), (.app 1 1 (.t 20) (.t 23)), none⟩,
    ⟨(some 4), (.mv (.t 24)), none⟩])
  (.seq (.reg [
    ⟨(some 25), (.mv (.t 4)), none⟩,
    ⟨(some 26), (.off (.t 1) 4), none⟩,
    ⟨(some 27), (.ld1 (.t 26)), none⟩,
    ⟨(some 28), (.callF cVeneerref08Two [(.t 27)]), none⟩,
    ⟨(some 29), (.app 1 1 (.t 25) (.t 28)), none⟩,
    ⟨(some 4), (.mv (.t 29)), none⟩])
  (.seq (.reg [
    ⟨(some 30), (.mv (.t 4)), none⟩,
    ⟨(some 31), (.off (.t 1) 5), none⟩,
    ⟨(some 32), (.ld1 (.t 31)), none⟩,
    ⟨(some 33), (.len .str (.t 32)), none⟩,
    ⟨(some 34), (.cvt .u8 (.t 33)), none⟩,
    ⟨(some 35), (.bldS 1 1 [(.int .u8 0)] [(0, (.t 34))]), none⟩,
    ⟨(some 36), (.app 1 1 (.t 30) (.t 35)), none⟩,
    ⟨(some 4), (.mv (.t 36)), none⟩])
  (.seq (.reg [
    ⟨(some 37), (.mv (.t 4)), none⟩,
    ⟨(some 38), (.off (.t 1) 5), none⟩,
    ⟨(some 39), (.ld1 (.t 38)), none⟩,
    ⟨(some 40), (.app 1 1 (.t 37) (.t 39)), none⟩,
    ⟨(some 4), (.mv (.t 40)), none⟩])
  (.seq (.reg [
    ⟨(some 41), (.mv (.t 4)), none⟩,
    ⟨(some 42), (.off (.t 1) 6), none⟩,
    ⟨(some 43), (.ld1 (.t 42)), none⟩,
    ⟨(some 44), (.len .str (.t 43)), none⟩,
    ⟨(some 45), (.cvt .u8 (.t 44)), none⟩,
    ⟨(some 46), (.bldS 1 1 [(.int .u8 0)] [(0, (.t 45))]), none⟩,
    ⟨(some 47), (.app 1 1 (.t 41) (.t 46)), none⟩,
    ⟨(some 4), (.mv (.t 47)), none⟩])
  (.seq (.reg [
    ⟨(some 48), (.mv (.t 4)), none⟩,
    ⟨(some 49), (.off (.t 1) 6), none⟩,
    ⟨(some 50), (.ld1 (.t 49)), none⟩,
    ⟨(some 51), (.app 1 1 (.t 48) (.t 50)), none⟩,
    ⟨(some 2), (.mv (.t 51)), none⟩,
    ⟨(some 3), (.mv (.k (.int .i64 0))), none⟩])
  .ret))))))))), [(.tmp 2), (.tmp 3)], 52⟩
def veneerref08EncodeS (cal : FuncId → Bool) (φ : Oracle) (N : Nat) (cVeneerref08May cVeneerref08Two : FuncId) (v0 : IV) (H : Heap) : Option (IV × Heap) :=
    ob (lbox H v0) fun r1 =>
    ob (lloadn r1.2 7 r1.1) fun t2 =>
    ob (φ cVeneerref08May [t2] r1.2) fun r3 =>
    ob (iun .not r3.1) fun t4 =>
    cnd t4
    (some ((.tuple [.nilSlice, (.int .i64 22)]), r3.2))
    (ob (loff r1.1 0) fun t5 =>
    ob (lload1 r3.2 t5) fun t6 =>
    ob (lbin .sub t6 (.int .i64 1)) fun t7 =>
    ob (lcvt .u8 t7) fun t8 =>
    ob (loff r1.1 1) fun t9 =>
    ob (lload1 r3.2 t9) fun t10 =>
    ob (lbin .add t10 (.int .i64 4)) fun t11 =>
    ob (lcvt .u8 t11) fun t12 =>
    ob (loff r1.1 2) fun t13 =>
    ob (lload1 r3.2 t13) fun t14 =>
    ob (lcvt .u8 t14) fun t15 =>
    ob (lbldS r3.2 1 3 [(.int .u8 0)] [(0, t8), (1, t12), (2, t15)]) fun r16 =>
    ob (loff r1.1 3) fun t17 =>
    ob (lload1 r16.2 t17) fun t18 =>
    ob (φ cVeneerref08Two [t18] r16.2) fun r19 =>
    ob (lapp r19.2 1 1 r16.1 r19.1) fun r20 =>
    ob (loff r1.1 4) fun t21 =>
    ob (lload1 r20.2 t21) fun t22 =>
    ob (φ cVeneerref08Two [t22] r20.2) fun r23 =>
    ob (lapp r23.2 1 1 r20.1 r23.1) fun r24 =>
    ob (loff r1.1 5) fun t25 =>
    ob (lload1 r24.2 t25) fun t26 =>
    ob (llen r24.2 .str t26) fun t27 =>
    ob (lcvt .u8 t27) fun t28 =>
    ob (lbldS r24.2 1 1 [(.int .u8 0)] [(0, t28)]) fun r29 =>
    ob (lapp r29.2 1 1 r24.1 r29.1) fun r30 =>
    ob (loff r1.1 5) fun t31 =>
    ob (lload1 r30.2 t31) fun t32 =>
    ob (lapp r30.2 1 1 r30.1 t32) fun r33 =>
    ob (loff r1.1 6) fun t34 =>
    ob (lload1 r33.2 t34) fun t35 =>
    ob (llen r33.2 .str t35) fun t36 =>
    ob (lcvt .u8 t36) fun t37 =>
    ob (lbldS r33.2 1 1 [(.int .u8 0)] [(0, t37)]) fun r38 =>
    ob (lapp r38.2 1 1 r33.1 r38.1) fun r39 =>
    ob (loff r1.1 6) fun t40 =>
    ob (lload1 r39.2 t40) fun t41 =>
    ob (lapp r39.2 1 1 r39.1 t41) fun r42 =>
    some ((.tuple [r42.1, (.int .i64 0)]), r42.2))
theorem veneerref08EncodeEq (cal : FuncId → Bool) (φ : Oracle) (N : Nat) (cVeneerref08May cVeneerref08Two : FuncId) (v0 : IV) (H : Heap) : lrunK cal φ N (veneerref08Encode cVeneerref08May cVeneerref08Two) [v0] H = veneerref08EncodeS cal φ N cVeneerref08May cVeneerref08Two v0 H := by
  kernel_rfl

def veneerref08DecodeC0 (cVeneerref08At cVeneerref08Text : FuncId) : LC := .loop (.seq (.seq (.reg [
    ⟨(some 9), (.mv (.t 4)), none⟩,
    ⟨(some 10), (.mv (.t 0)), none⟩,
    ⟨(some 11), (.len .slice (.t 10)), none⟩,
    ⟨(some 12), (.bin .lss (.t 9) (.t 11)), none⟩,
    ⟨(some 13), (.mv (.t 12)), none⟩,
    ⟨(some 14), (.mv (.t 3)), (some (13, true))⟩,
    ⟨(some 15), (.len .slice (.t 14)), (some (13, true))⟩,
    ⟨(some 16), (.bin .lss (.t 15) (.k (.int .i64 200))), (some (13, true))⟩,
    ⟨(some 17), (.pick (.t 13) (.t 16) (.k (.bool false))), none⟩])
  (.cond (.t 17) .skip
  (.exit 0)))
  (.block 1 (.seq (.reg [
    ⟨(some 18), (.mv (.t 0)), none⟩,
    ⟨(some 19), (.mv (.t 4)), none⟩,
    ⟨(some 20), (.callF cVeneerref08At [(.t 18), (.t 19)]), none⟩,
    ⟨(some 21), (.bin .rem (.t 20) (.k (.int .i64 20))), none⟩,
    ⟨(some 22), (.bin .add (.t 21) (.k (.int .i64 1))), none⟩,
    ⟨(some 23), (.mv (.t 0)), none⟩,
    ⟨(some 24), (.mv (.t 4)), none⟩,
    ⟨(some 25), (.bin .add (.t 24) (.k (.int .i64 1))), none⟩,
    ⟨(some 26), (.callF cVeneerref08At [(.t 23), (.t 25)]), none⟩,
    ⟨(some 27), (.bin .rem (.t 26) (.k (.int .i64 40))), none⟩,
    ⟨(some 28), (.bin .sub (.t 27) (.k (.int .i64 4))), none⟩,
    ⟨(some 29), (.mv (.t 0)), none⟩,
    ⟨(some 30), (.mv (.t 4)), none⟩,
    ⟨(some 31), (.bin .add (.t 30) (.k (.int .i64 2))), none⟩,
    ⟨(some 32), (.callF cVeneerref08At [(.t 29), (.t 31)]), none⟩,
    ⟨(some 33), (.bin .rem (.t 32) (.k (.int .i64 64))), none⟩,
    ⟨(some 34), (.bld [(.int .i64 0), (.int .i64 0), (.int .i64 0), (.int .i64 0), (.int .i64 0), (.str []), (.str [])] [(0, (1, (.t 22))), (1, (1, (.t 28))), (2, (1, (.t 33)))]), none⟩,
    ⟨(some 5), (.zbox (.agg [(.int .i64 0), (.int .i64 0), (.int .i64 0), (.int .i64 0), (.int .i64 0), (.str []), (.str [])])), none⟩,
    ⟨none, (.st 7 (.t 5) (.t 34)), none⟩])
  (.seq (.reg [
    ⟨(some 35), (.mv (.t 0)), none⟩,
    ⟨(some 36), (.mv (.t 4)), none⟩,
    ⟨(some 37), (.bin .add (.t 36) (.k (.int .i64 3))), none⟩,
    ⟨(some 38), (.callF cVeneerref08At [(.t 35), (.t 37)]), none⟩,
    ⟨(some 39), (.bin .mul (.t 38) (.k (.int .i64 256))), none⟩,
    ⟨(some 40), (.mv (.t 0)), none⟩,
    ⟨(some 41), (.mv (.t 4)), none⟩,
    ⟨(some 42), (.bin .add (.t 41) (.k (.int .i64 4))), none⟩,
    ⟨(some 43), (.callF cVeneerref08At [(.t 40), (.t 42)]), none⟩,
    ⟨(some 44), (.bin .add (.t 39) (.t 43)), none⟩,
    ⟨(some 45), (.bin .sub (.t 44) (.k (.int .i64 256))), none⟩,
    ⟨(some 46), (.off (.t 5) 3), none⟩,
    ⟨none, (.st 1 (.t 46) (.t 45)), none⟩])
  (.seq (.reg [
    ⟨(some 47), (.mv (.t 0)), none⟩,
    ⟨(some 48), (.mv (.t 4)), none⟩,
    ⟨(some 49), (.bin .add (.t 48) (.k (.int .i64 5))), none⟩,
    ⟨(some 50), (.callF cVeneerref08At [(.t 47), (.t 49)]), none⟩,
    ⟨(some 51), (.bin .mul (.t 50) (.k (.int .i64 256))), none⟩,
    ⟨(some 52), (.mv (.t 0)), none⟩,
    ⟨(some 53), (.mv (.t 4)), none⟩,
    ⟨(some 54), (.bin .add (.t 53) (.k (.int .i64 6))), none⟩,
    ⟨(some 55), (.callF cVeneerref08At [(.t 52), (.t 54)]), none⟩,
    ⟨(some 56), (.bin .add (.t 51) (.t 55)), none⟩,
    ⟨(some 57), (.bin .sub (.t 56) (.k (.int .i64 256))), none⟩,
    ⟨(some 58), (.off (.t 5) 4), none⟩,
    ⟨none, (.st 1 (.t 58) (.t 57)), none⟩])
  (.seq (.reg [
    ⟨(some 59), (.mv (.t 0)), none⟩,
    ⟨(some 60), (.mv (.t 4)), none⟩,
    ⟨(some 61), (.bin .add (.t 60) (.k (.int .i64 7))), none⟩,
    ⟨(some 62), (.callF cVeneerref08At [(.t 59), (.t 61)]), none⟩,
    ⟨(some 63), (.bin .rem (.t 62) (.k (.int .i64 64))), none⟩,
    ⟨(some 6), (.mv (.t 63)), none⟩])
  (.seq (.reg [
    ⟨(some 64), (.mv (.t 0)), none⟩,
    ⟨(some 65), (.mv (.t 4)), none⟩,
    ⟨(some 66), (.bin .add (.t 65) (.k (.int .i64 8))), none⟩,
    ⟨(some 67), (.mv (.t 6)), none⟩,
    ⟨(some 68), (.callF cVeneerref08Text [(.t 64), (.t 66), (.t 67)]), none⟩,
    ⟨(some 69), (.off (.t 5) 5), none⟩,
    ⟨none, (.st 1 (.t 69) (.t 68)), none⟩])
  (.seq (.reg [
    ⟨(some 70), (.mv (.t 4)), none⟩,
    ⟨(some 71), (.mv (.t 6)), none⟩,
    ⟨(some 72), (.bin .add (.k (.int .i64 8)) (.t 71)), none⟩,
    ⟨(some 73), (.bin .add (.t 70) (.t 72)), none⟩,
    ⟨(some 4), (.mv (.t 73)), none⟩])
  (.seq (.reg [
    ⟨(some 74), (.mv (.t 0)), none⟩,
    ⟨(some 75), (.mv (.t 4)), none⟩,
    ⟨(some 76), (.callF cVeneerref08At [(.t 74), (.t 75)]), none⟩,
    ⟨(some 77), (.bin .rem (.t 76) (.k (.int .i64 64))), none⟩,
    ⟨(some 7), (.mv (.t 77)), none⟩])
  (.seq (.reg [
    ⟨(some 78), (.mv (.t 0)), none⟩,
    ⟨(some 79), (.mv (.t 4)), none⟩,
    ⟨(some 80), (.bin .add (.t 79) (.k (.int .i64 1))), none⟩,
    ⟨(some 81), (.mv (.t 7)), none⟩,
    ⟨(some 82), (.callF cVeneerref08Text [(.t 78), (.t 80), (.t 81)]), none⟩,
    ⟨(some 83), (.off (.t 5) 6), none⟩,
    ⟨none, (.st 1 (.t 83) (.t 82)), none⟩])
  (.seq (.reg [
    ⟨(some 84), (.mv (.t 4)), none⟩,
    ⟨(some 85), (.mv (.t 7)), none⟩,
    ⟨(some 86), (.bin .add (.k (.int .i64 1)) (.t 85)), none⟩,
    ⟨(some 87), (.bin .add (.t 84) (.t 86)), none⟩,
    ⟨(some 4), (.mv (.t 87)), none⟩])
  (.reg [
    ⟨(some 88), (.mv (.t 3)), none⟩,
    ⟨(some 89), (.ldn 7 (.t 5)), none⟩,
    ⟨(some 90), (.bldS 7 1 [(.int .i64 0), (.int .i64 0), (.int .i64 0), (.int .i64 0), (.int .i64 0), (.str []), (.str [])] [(0, (.t 89))]), none⟩,
    ⟨(some 91), (.app 7 72 (.t 88) (.t 90)), none⟩,
    ⟨(some 3), (.mv (.t 91)), none⟩]))))))))))))
def veneerref08DecodeC1 (cVeneerref08At cVeneerref08Text : FuncId) : LC := .block 0 (veneerref08DecodeC0 cVeneerref08At cVeneerref08Text)
def veneerref08DecodeC2 (cVeneerref08At cVeneerref08Text : FuncId) : LC := .seq (.reg [
    ⟨(some 4), (.mv (.k (.int .i64 0))), none⟩]) (veneerref08DecodeC1 cVeneerref08At cVeneerref08Text)
def veneerref08DecodeC3 (cVeneerref08At cVeneerref08Text : FuncId) : LC := .seq (veneerref08DecodeC2 cVeneerref08At cVeneerref08Text) (.seq (.reg [
    ⟨(some 92), (.mv (.t 3)), none⟩,
    ⟨(some 2), (.mv (.t 92)), none⟩])
  .ret)
def veneerref08DecodeC4 (cVeneerref08At cVeneerref08Text : FuncId) : LC := .seq (.reg [
    ⟨(some 8), (.bldS 7 0 [(.int .i64 0), (.int .i64 0), (.int .i64 0), (.int .i64 0), (.int .i64 0), (.str []), (.str [])] []), none⟩,
    ⟨(some 3), (.mv (.t 8)), none⟩]) (veneerref08DecodeC3 cVeneerref08At cVeneerref08Text)
def veneerref08DecodeC5 (cVeneerref08At cVeneerref08Text : FuncId) : LC := .seq (.reg [
    ⟨(some 2), (.mv (.k .nilSlice)), none⟩]) (veneerref08DecodeC4 cVeneerref08At cVeneerref08Text)
def veneerref08DecodeC0S (cal : FuncId → Bool) (φ : Oracle) (N : Nat) (cVeneerref08At cVeneerref08Text : FuncId) (gE0 : IV → Heap → Option (IV × Heap)) : Nat → IV → IV → IV → Heap → Option (IV × Heap)
  | 0, _, _, _, _ => none
  | n + 1, v0, v3, v4, H =>
    ob (llen H .slice v0) fun t1 =>
    ob (lbin .lss v4 t1) fun t2 =>
    ob (gq (isB t2 true) (some v3)) fun t3 =>
    ob (gq (isB t2 true) (llen H .slice t3)) fun t4 =>
    ob (gq (isB t2 true) (lbin .lss t4 (.int .i64 200))) fun t5 =>
    ob (lpick t2 t5 (.bool false)) fun t6 =>
    cnd t6
    (ob (φ cVeneerref08At [v0, v4] H) fun r7 =>
    ob (lbin .rem r7.1 (.int .i64 20)) fun t8 =>
    ob (lbin .add t8 (.int .i64 1)) fun t9 =>
    ob (lbin .add v4 (.int .i64 1)) fun t10 =>
    ob (φ cVeneerref08At [v0, t10] r7.2) fun r11 =>
    ob (lbin .rem r11.1 (.int .i64 40)) fun t12 =>
    ob (lbin .sub t12 (.int .i64 4)) fun t13 =>
    ob (lbin .add v4 (.int .i64 2)) fun t14 =>
    ob (φ cVeneerref08At [v0, t14] r11.2) fun r15 =>
    ob (lbin .rem r15.1 (.int .i64 64)) fun t16 =>
    ob (lbld [(.int .i64 0), (.int .i64 0), (.int .i64 0), (.int .i64 0), (.int .i64 0), (.str []), (.str [])] [(0, 1, t9), (1, 1, t13), (2, 1, t16)]) fun t17 =>
    ob (lzbox r15.2 (.agg [(.int .i64 0), (.int .i64 0), (.int .i64 0), (.int .i64 0), (.int .i64 0), (.str []), (.str [])])) fun r18 =>
    ob (lstV r18.2 7 r18.1 t17) fun r19 =>
    ob (lbin .add v4 (.int .i64 3)) fun t20 =>
    ob (φ cVeneerref08At [v0, t20] r19.2) fun r21 =>
    ob (lbin .mul r21.1 (.int .i64 256)) fun t22 =>
    ob (lbin .add v4 (.int .i64 4)) fun t23 =>
    ob (φ cVeneerref08At [v0, t23] r21.2) fun r24 =>
    ob (lbin .add t22 r24.1) fun t25 =>
    ob (lbin .sub t25 (.int .i64 256)) fun t26 =>
    ob (loff r18.1 3) fun t27 =>
    ob (lstV r24.2 1 t27 t26) fun r28 =>
    ob (lbin .add v4 (.int .i64 5)) fun t29 =>
    ob (φ cVeneerref08At [v0, t29] r28.2) fun r30 =>
    ob (lbin .mul r30.1 (.int .i64 256)) fun t31 =>
    ob (lbin .add v4 (.int .i64 6)) fun t32 =>
    ob (φ cVeneerref08At [v0, t32] r30.2) fun r33 =>
    ob (lbin .add t31 r33.1) fun t34 =>
    ob (lbin .sub t34 (.int .i64 256)) fun t35 =>
    ob (loff r18.1 4) fun t36 =>
    ob (lstV r33.2 1 t36 t35) fun r37 =>
    ob (lbin .add v4 (.int .i64 7)) fun t38 =>
    ob (φ cVeneerref08At [v0, t38] r37.2) fun r39 =>
    ob (lbin .rem r39.1 (.int .i64 64)) fun t40 =>
    ob (lbin .add v4 (.int .i64 8)) fun t41 =>
    ob (φ cVeneerref08Text [v0, t41, t40] r39.2) fun r42 =>
    ob (loff r18.1 5) fun t43 =>
    ob (lstV r42.2 1 t43 r42.1) fun r44 =>
    ob (lbin .add (.int .i64 8) t40) fun t45 =>
    ob (lbin .add v4 t45) fun t46 =>
    ob (φ cVeneerref08At [v0, t46] r44.2) fun r47 =>
    ob (lbin .rem r47.1 (.int .i64 64)) fun t48 =>
    ob (lbin .add t46 (.int .i64 1)) fun t49 =>
    ob (φ cVeneerref08Text [v0, t49, t48] r47.2) fun r50 =>
    ob (loff r18.1 6) fun t51 =>
    ob (lstV r50.2 1 t51 r50.1) fun r52 =>
    ob (lbin .add (.int .i64 1) t48) fun t53 =>
    ob (lbin .add t46 t53) fun t54 =>
    ob (lloadn r52.2 7 r18.1) fun t55 =>
    ob (lbldS r52.2 7 1 [(.int .i64 0), (.int .i64 0), (.int .i64 0), (.int .i64 0), (.int .i64 0), (.str []), (.str [])] [(0, t55)]) fun r56 =>
    ob (lapp r56.2 7 72 v3 r56.1) fun r57 =>
    veneerref08DecodeC0S cal φ N cVeneerref08At cVeneerref08Text gE0 n v0 r57.1 t54 r57.2)
    (gE0 v3 H)
theorem veneerref08DecodeC0Eq (cal : FuncId → Bool) (φ : Oracle) (N : Nat) (cVeneerref08At cVeneerref08Text : FuncId) {k : KT (IV × Heap)} (gE0 : IV → Heap → Option (IV × Heap)) (hgE0 : ∀ σ H, k (.exit 0) σ H = gE0 (lk σ 3) H) : ∀ (n : Nat) (σ : Sg) (H : Heap), itK (lxK cal φ N (.seq (.seq (.reg [
    ⟨(some 9), (.mv (.t 4)), none⟩,
    ⟨(some 10), (.mv (.t 0)), none⟩,
    ⟨(some 11), (.len .slice (.t 10)), none⟩,
    ⟨(some 12), (.bin .lss (.t 9) (.t 11)), none⟩,
    ⟨(some 13), (.mv (.t 12)), none⟩,
    ⟨(some 14), (.mv (.t 3)), (some (13, true))⟩,
    ⟨(some 15), (.len .slice (.t 14)), (some (13, true))⟩,
    ⟨(some 16), (.bin .lss (.t 15) (.k (.int .i64 200))), (some (13, true))⟩,
    ⟨(some 17), (.pick (.t 13) (.t 16) (.k (.bool false))), none⟩])
  (.cond (.t 17) .skip
  (.exit 0)))
  (.block 1 (.seq (.reg [
    ⟨(some 18), (.mv (.t 0)), none⟩,
    ⟨(some 19), (.mv (.t 4)), none⟩,
    ⟨(some 20), (.callF cVeneerref08At [(.t 18), (.t 19)]), none⟩,
    ⟨(some 21), (.bin .rem (.t 20) (.k (.int .i64 20))), none⟩,
    ⟨(some 22), (.bin .add (.t 21) (.k (.int .i64 1))), none⟩,
    ⟨(some 23), (.mv (.t 0)), none⟩,
    ⟨(some 24), (.mv (.t 4)), none⟩,
    ⟨(some 25), (.bin .add (.t 24) (.k (.int .i64 1))), none⟩,
    ⟨(some 26), (.callF cVeneerref08At [(.t 23), (.t 25)]), none⟩,
    ⟨(some 27), (.bin .rem (.t 26) (.k (.int .i64 40))), none⟩,
    ⟨(some 28), (.bin .sub (.t 27) (.k (.int .i64 4))), none⟩,
    ⟨(some 29), (.mv (.t 0)), none⟩,
    ⟨(some 30), (.mv (.t 4)), none⟩,
    ⟨(some 31), (.bin .add (.t 30) (.k (.int .i64 2))), none⟩,
    ⟨(some 32), (.callF cVeneerref08At [(.t 29), (.t 31)]), none⟩,
    ⟨(some 33), (.bin .rem (.t 32) (.k (.int .i64 64))), none⟩,
    ⟨(some 34), (.bld [(.int .i64 0), (.int .i64 0), (.int .i64 0), (.int .i64 0), (.int .i64 0), (.str []), (.str [])] [(0, (1, (.t 22))), (1, (1, (.t 28))), (2, (1, (.t 33)))]), none⟩,
    ⟨(some 5), (.zbox (.agg [(.int .i64 0), (.int .i64 0), (.int .i64 0), (.int .i64 0), (.int .i64 0), (.str []), (.str [])])), none⟩,
    ⟨none, (.st 7 (.t 5) (.t 34)), none⟩])
  (.seq (.reg [
    ⟨(some 35), (.mv (.t 0)), none⟩,
    ⟨(some 36), (.mv (.t 4)), none⟩,
    ⟨(some 37), (.bin .add (.t 36) (.k (.int .i64 3))), none⟩,
    ⟨(some 38), (.callF cVeneerref08At [(.t 35), (.t 37)]), none⟩,
    ⟨(some 39), (.bin .mul (.t 38) (.k (.int .i64 256))), none⟩,
    ⟨(some 40), (.mv (.t 0)), none⟩,
    ⟨(some 41), (.mv (.t 4)), none⟩,
    ⟨(some 42), (.bin .add (.t 41) (.k (.int .i64 4))), none⟩,
    ⟨(some 43), (.callF cVeneerref08At [(.t 40), (.t 42)]), none⟩,
    ⟨(some 44), (.bin .add (.t 39) (.t 43)), none⟩,
    ⟨(some 45), (.bin .sub (.t 44) (.k (.int .i64 256))), none⟩,
    ⟨(some 46), (.off (.t 5) 3), none⟩,
    ⟨none, (.st 1 (.t 46) (.t 45)), none⟩])
  (.seq (.reg [
    ⟨(some 47), (.mv (.t 0)), none⟩,
    ⟨(some 48), (.mv (.t 4)), none⟩,
    ⟨(some 49), (.bin .add (.t 48) (.k (.int .i64 5))), none⟩,
    ⟨(some 50), (.callF cVeneerref08At [(.t 47), (.t 49)]), none⟩,
    ⟨(some 51), (.bin .mul (.t 50) (.k (.int .i64 256))), none⟩,
    ⟨(some 52), (.mv (.t 0)), none⟩,
    ⟨(some 53), (.mv (.t 4)), none⟩,
    ⟨(some 54), (.bin .add (.t 53) (.k (.int .i64 6))), none⟩,
    ⟨(some 55), (.callF cVeneerref08At [(.t 52), (.t 54)]), none⟩,
    ⟨(some 56), (.bin .add (.t 51) (.t 55)), none⟩,
    ⟨(some 57), (.bin .sub (.t 56) (.k (.int .i64 256))), none⟩,
    ⟨(some 58), (.off (.t 5) 4), none⟩,
    ⟨none, (.st 1 (.t 58) (.t 57)), none⟩])
  (.seq (.reg [
    ⟨(some 59), (.mv (.t 0)), none⟩,
    ⟨(some 60), (.mv (.t 4)), none⟩,
    ⟨(some 61), (.bin .add (.t 60) (.k (.int .i64 7))), none⟩,
    ⟨(some 62), (.callF cVeneerref08At [(.t 59), (.t 61)]), none⟩,
    ⟨(some 63), (.bin .rem (.t 62) (.k (.int .i64 64))), none⟩,
    ⟨(some 6), (.mv (.t 63)), none⟩])
  (.seq (.reg [
    ⟨(some 64), (.mv (.t 0)), none⟩,
    ⟨(some 65), (.mv (.t 4)), none⟩,
    ⟨(some 66), (.bin .add (.t 65) (.k (.int .i64 8))), none⟩,
    ⟨(some 67), (.mv (.t 6)), none⟩,
    ⟨(some 68), (.callF cVeneerref08Text [(.t 64), (.t 66), (.t 67)]), none⟩,
    ⟨(some 69), (.off (.t 5) 5), none⟩,
    ⟨none, (.st 1 (.t 69) (.t 68)), none⟩])
  (.seq (.reg [
    ⟨(some 70), (.mv (.t 4)), none⟩,
    ⟨(some 71), (.mv (.t 6)), none⟩,
    ⟨(some 72), (.bin .add (.k (.int .i64 8)) (.t 71)), none⟩,
    ⟨(some 73), (.bin .add (.t 70) (.t 72)), none⟩,
    ⟨(some 4), (.mv (.t 73)), none⟩])
  (.seq (.reg [
    ⟨(some 74), (.mv (.t 0)), none⟩,
    ⟨(some 75), (.mv (.t 4)), none⟩,
    ⟨(some 76), (.callF cVeneerref08At [(.t 74), (.t 75)]), none⟩,
    ⟨(some 77), (.bin .rem (.t 76) (.k (.int .i64 64))), none⟩,
    ⟨(some 7), (.mv (.t 77)), none⟩])
  (.seq (.reg [
    ⟨(some 78), (.mv (.t 0)), none⟩,
    ⟨(some 79), (.mv (.t 4)), none⟩,
    ⟨(some 80), (.bin .add (.t 79) (.k (.int .i64 1))), none⟩,
    ⟨(some 81), (.mv (.t 7)), none⟩,
    ⟨(some 82), (.callF cVeneerref08Text [(.t 78), (.t 80), (.t 81)]), none⟩,
    ⟨(some 83), (.off (.t 5) 6), none⟩,
    ⟨none, (.st 1 (.t 83) (.t 82)), none⟩])
  (.seq (.reg [
    ⟨(some 84), (.mv (.t 4)), none⟩,
    ⟨(some 85), (.mv (.t 7)), none⟩,
    ⟨(some 86), (.bin .add (.k (.int .i64 1)) (.t 85)), none⟩,
    ⟨(some 87), (.bin .add (.t 84) (.t 86)), none⟩,
    ⟨(some 4), (.mv (.t 87)), none⟩])
  (.reg [
    ⟨(some 88), (.mv (.t 3)), none⟩,
    ⟨(some 89), (.ldn 7 (.t 5)), none⟩,
    ⟨(some 90), (.bldS 7 1 [(.int .i64 0), (.int .i64 0), (.int .i64 0), (.int .i64 0), (.int .i64 0), (.str []), (.str [])] [(0, (.t 89))]), none⟩,
    ⟨(some 91), (.app 7 72 (.t 88) (.t 90)), none⟩,
    ⟨(some 3), (.mv (.t 91)), none⟩]))))))))))))) n σ H k = veneerref08DecodeC0S cal φ N cVeneerref08At cVeneerref08Text gE0 n (lk σ 0) (lk σ 3) (lk σ 4) H := by
  have hk : k = (kE 0 (fun σ H => gE0 (lk σ 3) H) k) := (kE_mk hgE0 rfl)
  intro n
  induction n with
  | zero => intro σ H; rfl
  | succ n ih =>
    intro σ H
    rw [itK_succ, seqK_mk (g := fun σ H => veneerref08DecodeC0S cal φ N cVeneerref08At cVeneerref08Text gE0 n (lk σ 0) (lk σ 3) (lk σ 4) H) ih, hk]
    kernel_rfl
def veneerref08DecodeC1S (cal : FuncId → Bool) (φ : Oracle) (N : Nat) (cVeneerref08At cVeneerref08Text : FuncId) (gN : IV → Heap → Option (IV × Heap)) (v0 v3 v4 : IV) (H : Heap) : Option (IV × Heap) :=
    veneerref08DecodeC0S cal φ N cVeneerref08At cVeneerref08Text (fun v3 H => gN v3 H) N v0 v3 v4 H
theorem veneerref08DecodeC1Eq (cal : FuncId → Bool) (φ : Oracle) (N : Nat) (cVeneerref08At cVeneerref08Text : FuncId) {k : KT (IV × Heap)} (gN : IV → Heap → Option (IV × Heap)) (hgN : ∀ σ H, k .normal σ H = gN (lk σ 3) H) : ∀ (σ : Sg) (H : Heap), lxK cal φ N (veneerref08DecodeC1 cVeneerref08At cVeneerref08Text) σ H k = veneerref08DecodeC1S cal φ N cVeneerref08At cVeneerref08Text gN (lk σ 0) (lk σ 3) (lk σ 4) H := by
  have hk : k = (kN (fun σ H => gN (lk σ 3) H) k) := (kN_mk hgN rfl)
  intro σ H
  rw [hk]
  show lxK cal φ N (veneerref08DecodeC0 cVeneerref08At cVeneerref08Text) σ H (blockK 0 (kN (fun σ H => gN (lk σ 3) H) k)) = _
  exact veneerref08DecodeC0Eq cal φ N cVeneerref08At cVeneerref08Text (k := (blockK 0 (kN (fun σ H => gN (lk σ 3) H) k))) (fun v3 H => gN v3 H) (fun _ _ => rfl) N σ H
def veneerref08DecodeC2S (cal : FuncId → Bool) (φ : Oracle) (N : Nat) (cVeneerref08At cVeneerref08Text : FuncId) (gN : IV → Heap → Option (IV × Heap)) (v0 v3 : IV) (H : Heap) : Option (IV × Heap) :=
    veneerref08DecodeC1S cal φ N cVeneerref08At cVeneerref08Text (fun v3 H => gN v3 H) v0 v3 (.int .i64 0) H
theorem veneerref08DecodeC2Eq (cal : FuncId → Bool) (φ : Oracle) (N : Nat) (cVeneerref08At cVeneerref08Text : FuncId) {k : KT (IV × Heap)} (gN : IV → Heap → Option (IV × Heap)) (hgN : ∀ σ H, k .normal σ H = gN (lk σ 3) H) : ∀ (σ : Sg) (H : Heap), lxK cal φ N (veneerref08DecodeC2 cVeneerref08At cVeneerref08Text) σ H k = veneerref08DecodeC2S cal φ N cVeneerref08At cVeneerref08Text gN (lk σ 0) (lk σ 3) H := by
  have hk : k = (kN (fun σ H => gN (lk σ 3) H) k) := (kN_mk hgN rfl)
  intro σ H
  rw [hk]
  show lxK cal φ N (.reg [
    ⟨(some 4), (.mv (.k (.int .i64 0))), none⟩]) σ H (seqK (lxK cal φ N (veneerref08DecodeC1 cVeneerref08At cVeneerref08Text)) (kN (fun σ H => gN (lk σ 3) H) k)) = _
  rw [seqK_mk (g := fun σ H => veneerref08DecodeC1S cal φ N cVeneerref08At cVeneerref08Text (fun v3 H => gN v3 H) (lk σ 0) (lk σ 3) (lk σ 4) H) (veneerref08DecodeC1Eq cal φ N cVeneerref08At cVeneerref08Text (k := (kN (fun σ H => gN (lk σ 3) H) k)) (fun v3 H => gN v3 H) (fun _ _ => rfl))]
  kernel_rfl
def veneerref08DecodeC3S (cal : FuncId → Bool) (φ : Oracle) (N : Nat) (cVeneerref08At cVeneerref08Text : FuncId) (v0 v3 : IV) (H : Heap) : Option (IV × Heap) :=
    veneerref08DecodeC2S cal φ N cVeneerref08At cVeneerref08Text (fun v3 H => some (v3, H)) v0 v3 H
theorem veneerref08DecodeC3Eq (cal : FuncId → Bool) (φ : Oracle) (N : Nat) (cVeneerref08At cVeneerref08Text : FuncId) {k : KT (IV × Heap)} (hR : ∀ σ H, k .ret σ H = resK [(.tmp 2)] [] σ H) : ∀ (σ : Sg) (H : Heap), lxK cal φ N (veneerref08DecodeC3 cVeneerref08At cVeneerref08Text) σ H k = veneerref08DecodeC3S cal φ N cVeneerref08At cVeneerref08Text (lk σ 0) (lk σ 3) H := by
  have hk : k = (kR (resK [(.tmp 2)] []) k) := (kR_mk hR rfl)
  intro σ H
  rw [hk]
  show lxK cal φ N (veneerref08DecodeC2 cVeneerref08At cVeneerref08Text) σ H (seqK (lxK cal φ N (.seq (.reg [
    ⟨(some 92), (.mv (.t 3)), none⟩,
    ⟨(some 2), (.mv (.t 92)), none⟩])
  .ret)) (kR (resK [(.tmp 2)] []) k)) = _
  exact veneerref08DecodeC2Eq cal φ N cVeneerref08At cVeneerref08Text (k := (seqK (lxK cal φ N (.seq (.reg [
    ⟨(some 92), (.mv (.t 3)), none⟩,
    ⟨(some 2), (.mv (.t 92)), none⟩])
  .ret)) (kR (resK [(.tmp 2)] []) k))) (fun v3 H => some (v3, H)) (fun _ _ => rfl) σ H
def veneerref08DecodeC4S (cal : FuncId → Bool) (φ : Oracle) (N : Nat) (cVeneerref08At cVeneerref08Text : FuncId) (v0 : IV) (H : Heap) : Option (IV × Heap) :=
    ob (lbldS H 7 0 [(.int .i64 0), (.int .i64 0), (.int .i64 0), (.int .i64 0), (.int .i64 0), (.str []), (.str [])] []) fun r1 =>
    veneerref08DecodeC3S cal φ N cVeneerref08At cVeneerref08Text v0 r1.1 r1.2
theorem veneerref08DecodeC4Eq (cal : FuncId → Bool) (φ : Oracle) (N : Nat) (cVeneerref08At cVeneerref08Text : FuncId) {k : KT (IV × Heap)} (hR : ∀ σ H, k .ret σ H = resK [(.tmp 2)] [] σ H) : ∀ (σ : Sg) (H : Heap), lxK cal φ N (veneerref08DecodeC4 cVeneerref08At cVeneerref08Text) σ H k = veneerref08DecodeC4S cal φ N cVeneerref08At cVeneerref08Text (lk σ 0) H := by
  have hk : k = (kR (resK [(.tmp 2)] []) k) := (kR_mk hR rfl)
  intro σ H
  rw [hk]
  show lxK cal φ N (.reg [
    ⟨(some 8), (.bldS 7 0 [(.int .i64 0), (.int .i64 0), (.int .i64 0), (.int .i64 0), (.int .i64 0), (.str []), (.str [])] []), none⟩,
    ⟨(some 3), (.mv (.t 8)), none⟩]) σ H (seqK (lxK cal φ N (veneerref08DecodeC3 cVeneerref08At cVeneerref08Text)) (kR (resK [(.tmp 2)] []) k)) = _
  rw [seqK_mk (g := fun σ H => veneerref08DecodeC3S cal φ N cVeneerref08At cVeneerref08Text (lk σ 0) (lk σ 3) H) (veneerref08DecodeC3Eq cal φ N cVeneerref08At cVeneerref08Text (k := (kR (resK [(.tmp 2)] []) k)) (fun _ _ => rfl))]
  kernel_rfl
def veneerref08DecodeC5S (cal : FuncId → Bool) (φ : Oracle) (N : Nat) (cVeneerref08At cVeneerref08Text : FuncId) (v0 : IV) (H : Heap) : Option (IV × Heap) :=
    veneerref08DecodeC4S cal φ N cVeneerref08At cVeneerref08Text v0 H
theorem veneerref08DecodeC5Eq (cal : FuncId → Bool) (φ : Oracle) (N : Nat) (cVeneerref08At cVeneerref08Text : FuncId) {k : KT (IV × Heap)} (hR : ∀ σ H, k .ret σ H = resK [(.tmp 2)] [] σ H) : ∀ (σ : Sg) (H : Heap), lxK cal φ N (veneerref08DecodeC5 cVeneerref08At cVeneerref08Text) σ H k = veneerref08DecodeC5S cal φ N cVeneerref08At cVeneerref08Text (lk σ 0) H := by
  have hk : k = (kR (resK [(.tmp 2)] []) k) := (kR_mk hR rfl)
  intro σ H
  rw [hk]
  show lxK cal φ N (.reg [
    ⟨(some 2), (.mv (.k .nilSlice)), none⟩]) σ H (seqK (lxK cal φ N (veneerref08DecodeC4 cVeneerref08At cVeneerref08Text)) (kR (resK [(.tmp 2)] []) k)) = _
  rw [seqK_mk (g := fun σ H => veneerref08DecodeC4S cal φ N cVeneerref08At cVeneerref08Text (lk σ 0) H) (veneerref08DecodeC4Eq cal φ N cVeneerref08At cVeneerref08Text (k := (kR (resK [(.tmp 2)] []) k)) (fun _ _ => rfl))]
  kernel_rfl
def veneerref08Decode (cVeneerref08At cVeneerref08Text : FuncId) : LFun := ⟨(veneerref08DecodeC5 cVeneerref08At cVeneerref08Text), [(.tmp 2)], 93⟩
def veneerref08DecodeS (cal : FuncId → Bool) (φ : Oracle) (N : Nat) (cVeneerref08At cVeneerref08Text : FuncId) (v0 : IV) (H : Heap) : Option (IV × Heap) :=
    veneerref08DecodeC5S cal φ N cVeneerref08At cVeneerref08Text v0 H
theorem veneerref08DecodeEq (cal : FuncId → Bool) (φ : Oracle) (N : Nat) (cVeneerref08At cVeneerref08Text : FuncId) (v0 : IV) (H : Heap) : lrunK cal φ N (veneerref08Decode cVeneerref08At cVeneerref08Text) [v0] H = veneerref08DecodeS cal φ N cVeneerref08At cVeneerref08Text v0 H := by
  show lxK cal φ N (veneerref08DecodeC5 cVeneerref08At cVeneerref08Text) (initFrom 0 [v0]) H (endK [(.tmp 2)]) = _
  exact veneerref08DecodeC5Eq cal φ N cVeneerref08At cVeneerref08Text (k := (endK [(.tmp 2)])) (fun _ _ => rfl) (initFrom 0 [v0]) H

def veneerref08ScriptC0 (cVeneerref08Encode : FuncId) : LC := .loop (.seq (.seq (.reg [
    ⟨(some 12), (.mv (.t 5)), none⟩,
    ⟨(some 13), (.mv (.t 0)), none⟩,
    ⟨(some 14), (.len .slice (.t 13)), none⟩,
    ⟨(some 15), (.bin .lss (.t 12) (.t 14)), none⟩])
  (.cond (.t 15) .skip
  (.exit 0)))
  (.seq (.block 1 (.seq (.reg [
    ⟨(some 19), (.mv (.t 0)), none⟩,
    ⟨(some 20), (.mv (.t 5)), none⟩,
    ⟨(some 21), (.ix 7 (.t 19) (.t 20)), none⟩,
    ⟨(some 22), (.ldn 7 (.t 21)), none⟩,
    ⟨(some 23), (.callF cVeneerref08Encode [(.t 22)]), none⟩,
    ⟨(some 18), (.mv (.t 23)), none⟩,
    ⟨(some 24), (.ext (.t 18) 0), none⟩,
    ⟨(some 25), (.ext (.t 18) 1), none⟩,
    ⟨(some 6), (.mv (.t 24)), none⟩,
    ⟨(some 7), (.mv (.t 25)), none⟩])
  (.seq (.seq (.reg [
    ⟨(some 26), (.mv (.t 7)), none⟩,
    ⟨(some 27), (.bin .neq (.t 26) (.k (.int .i64 0))), none⟩])
  (.cond (.t 27) (.seq (.reg [
    ⟨(some 28), (.mv (.t 7)), none⟩,
    ⟨(some 2), (.mv (.k .nilSlice)), none⟩,
    ⟨(some 3), (.mv (.t 28)), none⟩])
  .ret)
  .skip))
  (.reg [
    ⟨(some 29), (.mv (.t 4)), none⟩,
    ⟨(some 30), (.mv (.t 6)), none⟩,
    ⟨(some 31), (.app 1 1 (.t 29) (.t 30)), none⟩,
    ⟨(some 4), (.mv (.t 31)), none⟩]))))
  (.reg [
    ⟨(some 16), (.mv (.t 5)), none⟩,
    ⟨(some 17), (.bin .add (.t 16) (.k (.int .i64 1))), none⟩,
    ⟨(some 5), (.mv (.t 17)), none⟩])))
def veneerref08ScriptC1 (cVeneerref08Encode : FuncId) : LC := .block 0 (veneerref08ScriptC0 cVeneerref08Encode)
def veneerref08ScriptC2 (cVeneerref08Encode : FuncId) : LC := .seq (.reg [
    ⟨(some 5), (.mv (.k (.int .i64 0))), none⟩]) (veneerref08ScriptC1 cVeneerref08Encode)
def veneerref08ScriptC3 (cVeneerref08Encode : FuncId) : LC := .seq (veneerref08ScriptC2 cVeneerref08Encode) (.seq (.reg [
    ⟨(some 32), (.mv (.t 4)), none⟩,
    ⟨(some 2), (.mv (.t 32)), none⟩,
    ⟨(some 3), (.mv (.k (.int .i64 0))), none⟩])
  .ret)
def veneerref08ScriptC4 (cVeneerref08Encode : FuncId) : LC := .seq (.seq (.reg [
    ⟨(some 9), (.mv (.t 0)), none⟩,
    ⟨(some 10), (.len .slice (.t 9)), none⟩,
    ⟨(some 11), (.bin .gtr (.t 10) (.k (.int .i64 200))), none⟩])
  (.cond (.t 11) (.seq (.reg [
    ⟨(some 2), (.mv (.k .nilSlice)), none⟩,
    ⟨(some 3), (.mv (.k (.int .i64 22))), none⟩])
  .ret)
  .skip)) (veneerref08ScriptC3 cVeneerref08Encode)
def veneerref08ScriptC5 (cVeneerref08Encode : FuncId) : LC := .seq (.reg [
    ⟨(some 8), (.bldS 1 0 [(.int .u8 0)] []), none⟩,
    ⟨(some 4), (.mv (.t 8)), none⟩]) (veneerref08ScriptC4 cVeneerref08Encode)
def veneerref08ScriptC6 (cVeneerref08Encode : FuncId) : LC := .seq (.reg [
    ⟨(some 2), (.mv (.k .nilSlice)), none⟩,
    ⟨(some 3), (.mv (.k (.int .i64 0))), none⟩]) (veneerref08ScriptC5 cVeneerref08Encode)
def veneerref08ScriptC0S (cal : FuncId → Bool) (φ : Oracle) (N : Nat) (cVeneerref08Encode : FuncId) (gE0 : IV → Heap → Option (IV × Heap)) : Nat → IV → IV → IV → Heap → Option (IV × Heap)
  | 0, _, _, _, _ => none
  | n + 1, v0, v4, v5, H =>
    ob (llen H .slice v0) fun t1 =>
    ob (lbin .lss v5 t1) fun t2 =>
    cnd t2
    (ob (lix 7 v0 v5) fun t3 =>
    ob (lloadn H 7 t3) fun t4 =>
    ob (φ cVeneerref08Encode [t4] H) fun r5 =>
    ob (iextract r5.1 0) fun t6 =>
    ob (iextract r5.1 1) fun t7 =>
    ob (lbin .neq t7 (.int .i64 0)) fun t8 =>
    cnd t8
    (some ((.tuple [.nilSlice, t7]), r5.2))
    (ob (lapp r5.2 1 1 v4 t6) fun r9 =>
    ob (lbin .add v5 (.int .i64 1)) fun t10 =>
    veneerref08ScriptC0S cal φ N cVeneerref08Encode gE0 n v0 r9.1 t10 r9.2))
    (gE0 v4 H)
theorem veneerref08ScriptC0Eq (cal : FuncId → Bool) (φ : Oracle) (N : Nat) (cVeneerref08Encode : FuncId) {k : KT (IV × Heap)} (gE0 : IV → Heap → Option (IV × Heap)) (hgE0 : ∀ σ H, k (.exit 0) σ H = gE0 (lk σ 4) H) (hR : ∀ σ H, k .ret σ H = resK [(.tmp 2), (.tmp 3)] [] σ H) : ∀ (n : Nat) (σ : Sg) (H : Heap), itK (lxK cal φ N (.seq (.seq (.reg [
    ⟨(some 12), (.mv (.t 5)), none⟩,
    ⟨(some 13), (.mv (.t 0)), none⟩,
    ⟨(some 14), (.len .slice (.t 13)), none⟩,
    ⟨(some 15), (.bin .lss (.t 12) (.t 14)), none⟩])
  (.cond (.t 15) .skip
  (.exit 0)))
  (.seq (.block 1 (.seq (.reg [
    ⟨(some 19), (.mv (.t 0)), none⟩,
    ⟨(some 20), (.mv (.t 5)), none⟩,
    ⟨(some 21), (.ix 7 (.t 19) (.t 20)), none⟩,
    ⟨(some 22), (.ldn 7 (.t 21)), none⟩,
    ⟨(some 23), (.callF cVeneerref08Encode [(.t 22)]), none⟩,
    ⟨(some 18), (.mv (.t 23)), none⟩,
    ⟨(some 24), (.ext (.t 18) 0), none⟩,
    ⟨(some 25), (.ext (.t 18) 1), none⟩,
    ⟨(some 6), (.mv (.t 24)), none⟩,
    ⟨(some 7), (.mv (.t 25)), none⟩])
  (.seq (.seq (.reg [
    ⟨(some 26), (.mv (.t 7)), none⟩,
    ⟨(some 27), (.bin .neq (.t 26) (.k (.int .i64 0))), none⟩])
  (.cond (.t 27) (.seq (.reg [
    ⟨(some 28), (.mv (.t 7)), none⟩,
    ⟨(some 2), (.mv (.k .nilSlice)), none⟩,
    ⟨(some 3), (.mv (.t 28)), none⟩])
  .ret)
  .skip))
  (.reg [
    ⟨(some 29), (.mv (.t 4)), none⟩,
    ⟨(some 30), (.mv (.t 6)), none⟩,
    ⟨(some 31), (.app 1 1 (.t 29) (.t 30)), none⟩,
    ⟨(some 4), (.mv (.t 31)), none⟩]))))
  (.reg [
    ⟨(some 16), (.mv (.t 5)), none⟩,
    ⟨(some 17), (.bin .add (.t 16) (.k (.int .i64 1))), none⟩,
    ⟨(some 5), (.mv (.t 17)), none⟩])))) n σ H k = veneerref08ScriptC0S cal φ N cVeneerref08Encode gE0 n (lk σ 0) (lk σ 4) (lk σ 5) H := by
  have hk : k = (kE 0 (fun σ H => gE0 (lk σ 4) H) (kR (resK [(.tmp 2), (.tmp 3)] []) k)) := (kE_mk hgE0 (kR_mk hR rfl))
  intro n
  induction n with
  | zero => intro σ H; rfl
  | succ n ih =>
    intro σ H
    rw [itK_succ, seqK_mk (g := fun σ H => veneerref08ScriptC0S cal φ N cVeneerref08Encode gE0 n (lk σ 0) (lk σ 4) (lk σ 5) H) ih, hk]
    kernel_rfl
def veneerref08ScriptC1S (cal : FuncId → Bool) (φ : Oracle) (N : Nat) (cVeneerref08Encode : FuncId) (gN : IV → Heap → Option (IV × Heap)) (v0 v4 v5 : IV) (H : Heap) : Option (IV × Heap) :=
    veneerref08ScriptC0S cal φ N cVeneerref08Encode (fun v4 H => gN v4 H) N v0 v4 v5 H
theorem veneerref08ScriptC1Eq (cal : FuncId → Bool) (φ : Oracle) (N : Nat) (cVeneerref08Encode : FuncId) {k : KT (IV × Heap)} (gN : IV → Heap → Option (IV × Heap)) (hgN : ∀ σ H, k .normal σ H = gN (lk σ 4) H) (hR : ∀ σ H, k .ret σ H = resK [(.tmp 2), (.tmp 3)] [] σ H) : ∀ (σ : Sg) (H : Heap), lxK cal φ N (veneerref08ScriptC1 cVeneerref08Encode) σ H k = veneerref08ScriptC1S cal φ N cVeneerref08Encode gN (lk σ 0) (lk σ 4) (lk σ 5) H := by
  have hk : k = (kN (fun σ H => gN (lk σ 4) H) (kR (resK [(.tmp 2), (.tmp 3)] []) k)) := (kN_mk hgN (kR_mk hR rfl))
  intro σ H
  rw [hk]
  show lxK cal φ N (veneerref08ScriptC0 cVeneerref08Encode) σ H (blockK 0 (kN (fun σ H => gN (lk σ 4) H) (kR (resK [(.tmp 2), (.tmp 3)] []) k))) = _
  exact veneerref08ScriptC0Eq cal φ N cVeneerref08Encode (k := (blockK 0 (kN (fun σ H => gN (lk σ 4) H) (kR (resK [(.tmp 2), (.tmp 3)] []) k)))) (fun v4 H => gN v4 H) (fun _ _ => rfl) (fun _ _ => rfl) N σ H
def veneerref08ScriptC2S (cal : FuncId → Bool) (φ : Oracle) (N : Nat) (cVeneerref08Encode : FuncId) (gN : IV → Heap → Option (IV × Heap)) (v0 v4 : IV) (H : Heap) : Option (IV × Heap) :=
    veneerref08ScriptC1S cal φ N cVeneerref08Encode (fun v4 H => gN v4 H) v0 v4 (.int .i64 0) H
theorem veneerref08ScriptC2Eq (cal : FuncId → Bool) (φ : Oracle) (N : Nat) (cVeneerref08Encode : FuncId) {k : KT (IV × Heap)} (gN : IV → Heap → Option (IV × Heap)) (hgN : ∀ σ H, k .normal σ H = gN (lk σ 4) H) (hR : ∀ σ H, k .ret σ H = resK [(.tmp 2), (.tmp 3)] [] σ H) : ∀ (σ : Sg) (H : Heap), lxK cal φ N (veneerref08ScriptC2 cVeneerref08Encode) σ H k = veneerref08ScriptC2S cal φ N cVeneerref08Encode gN (lk σ 0) (lk σ 4) H := by
  have hk : k = (kN (fun σ H => gN (lk σ 4) H) (kR (resK [(.tmp 2), (.tmp 3)] []) k)) := (kN_mk hgN (kR_mk hR rfl))
  intro σ H
  rw [hk]
  show lxK cal φ N (.reg [
    ⟨(some 5), (.mv (.k (.int .i64 0))), none⟩]) σ H (seqK (lxK cal φ N (veneerref08ScriptC1 cVeneerref08Encode)) (kN (fun σ H => gN (lk σ 4) H) (kR (resK [(.tmp 2), (.tmp 3)] []) k))) = _
  rw [seqK_mk (g := fun σ H => veneerref08ScriptC1S cal φ N cVeneerref08Encode (fun v4 H => gN v4 H) (lk σ 0) (lk σ 4) (lk σ 5) H) (veneerref08ScriptC1Eq cal φ N cVeneerref08Encode (k := (kN (fun σ H => gN (lk σ 4) H) (kR (resK [(.tmp 2), (.tmp 3)] []) k))) (fun v4 H => gN v4 H) (fun _ _ => rfl) (fun _ _ => rfl))]
  kernel_rfl
def veneerref08ScriptC3S (cal : FuncId → Bool) (φ : Oracle) (N : Nat) (cVeneerref08Encode : FuncId) (v0 v4 : IV) (H : Heap) : Option (IV × Heap) :=
    veneerref08ScriptC2S cal φ N cVeneerref08Encode (fun v4 H => some ((.tuple [v4, (.int .i64 0)]), H)) v0 v4 H
theorem veneerref08ScriptC3Eq (cal : FuncId → Bool) (φ : Oracle) (N : Nat) (cVeneerref08Encode : FuncId) {k : KT (IV × Heap)} (hR : ∀ σ H, k .ret σ H = resK [(.tmp 2), (.tmp 3)] [] σ H) : ∀ (σ : Sg) (H : Heap), lxK cal φ N (veneerref08ScriptC3 cVeneerref08Encode) σ H k = veneerref08ScriptC3S cal φ N cVeneerref08Encode (lk σ 0) (lk σ 4) H := by
  have hk : k = (kR (resK [(.tmp 2), (.tmp 3)] []) k) := (kR_mk hR rfl)
  intro σ H
  rw [hk]
  show lxK cal φ N (veneerref08ScriptC2 cVeneerref08Encode) σ H (seqK (lxK cal φ N (.seq (.reg [
    ⟨(some 32), (.mv (.t 4)), none⟩,
    ⟨(some 2), (.mv (.t 32)), none⟩,
    ⟨(some 3), (.mv (.k (.int .i64 0))), none⟩])
  .ret)) (kR (resK [(.tmp 2), (.tmp 3)] []) k)) = _
  exact veneerref08ScriptC2Eq cal φ N cVeneerref08Encode (k := (seqK (lxK cal φ N (.seq (.reg [
    ⟨(some 32), (.mv (.t 4)), none⟩,
    ⟨(some 2), (.mv (.t 32)), none⟩,
    ⟨(some 3), (.mv (.k (.int .i64 0))), none⟩])
  .ret)) (kR (resK [(.tmp 2), (.tmp 3)] []) k))) (fun v4 H => some ((.tuple [v4, (.int .i64 0)]), H)) (fun _ _ => rfl) (fun _ _ => rfl) σ H
def veneerref08ScriptC4S (cal : FuncId → Bool) (φ : Oracle) (N : Nat) (cVeneerref08Encode : FuncId) (v0 v4 : IV) (H : Heap) : Option (IV × Heap) :=
    ob (llen H .slice v0) fun t1 =>
    ob (lbin .gtr t1 (.int .i64 200)) fun t2 =>
    cnd t2
    (some ((.tuple [.nilSlice, (.int .i64 22)]), H))
    (veneerref08ScriptC3S cal φ N cVeneerref08Encode v0 v4 H)
theorem veneerref08ScriptC4Eq (cal : FuncId → Bool) (φ : Oracle) (N : Nat) (cVeneerref08Encode : FuncId) {k : KT (IV × Heap)} (hR : ∀ σ H, k .ret σ H = resK [(.tmp 2), (.tmp 3)] [] σ H) : ∀ (σ : Sg) (H : Heap), lxK cal φ N (veneerref08ScriptC4 cVeneerref08Encode) σ H k = veneerref08ScriptC4S cal φ N cVeneerref08Encode (lk σ 0) (lk σ 4) H := by
  have hk : k = (kR (resK [(.tmp 2), (.tmp 3)] []) k) := (kR_mk hR rfl)
  intro σ H
  rw [hk]
  show lxK cal φ N (.seq (.reg [
    ⟨(some 9), (.mv (.t 0)), none⟩,
    ⟨(some 10), (.len .slice (.t 9)), none⟩,
    ⟨(some 11), (.bin .gtr (.t 10) (.k (.int .i64 200))), none⟩])
  (.cond (.t 11) (.seq (.reg [
    ⟨(some 2), (.mv (.k .nilSlice)), none⟩,
    ⟨(some 3), (.mv (.k (.int .i64 22))), none⟩])
  .ret)
  .skip)) σ H (seqK (lxK cal φ N (veneerref08ScriptC3 cVeneerref08Encode)) (kR (resK [(.tmp 2), (.tmp 3)] []) k)) = _
  rw [seqK_mk (g := fun σ H => veneerref08ScriptC3S cal φ N cVeneerref08Encode (lk σ 0) (lk σ 4) H) (veneerref08ScriptC3Eq cal φ N cVeneerref08Encode (k := (kR (resK [(.tmp 2), (.tmp 3)] []) k)) (fun _ _ => rfl))]
  kernel_rfl
def veneerref08ScriptC5S (cal : FuncId → Bool) (φ : Oracle) (N : Nat) (cVeneerref08Encode : FuncId) (v0 : IV) (H : Heap) : Option (IV × Heap) :=
    ob (lbldS H 1 0 [(.int .u8 0)] []) fun r1 =>
    veneerref08ScriptC4S cal φ N cVeneerref08Encode v0 r1.1 r1.2
theorem veneerref08ScriptC5Eq (cal : FuncId → Bool) (φ : Oracle) (N : Nat) (cVeneerref08Encode : FuncId) {k : KT (IV × Heap)} (hR : ∀ σ H, k .ret σ H = resK [(.tmp 2), (.tmp 3)] [] σ H) : ∀ (σ : Sg) (H : Heap), lxK cal φ N (veneerref08ScriptC5 cVeneerref08Encode) σ H k = veneerref08ScriptC5S cal φ N cVeneerref08Encode (lk σ 0) H := by
  have hk : k = (kR (resK [(.tmp 2), (.tmp 3)] []) k) := (kR_mk hR rfl)
  intro σ H
  rw [hk]
  show lxK cal φ N (.reg [
    ⟨(some 8), (.bldS 1 0 [(.int .u8 0)] []), none⟩,
    ⟨(some 4), (.mv (.t 8)), none⟩]) σ H (seqK (lxK cal φ N (veneerref08ScriptC4 cVeneerref08Encode)) (kR (resK [(.tmp 2), (.tmp 3)] []) k)) = _
  rw [seqK_mk (g := fun σ H => veneerref08ScriptC4S cal φ N cVeneerref08Encode (lk σ 0) (lk σ 4) H) (veneerref08ScriptC4Eq cal φ N cVeneerref08Encode (k := (kR (resK [(.tmp 2), (.tmp 3)] []) k)) (fun _ _ => rfl))]
  kernel_rfl
def veneerref08ScriptC6S (cal : FuncId → Bool) (φ : Oracle) (N : Nat) (cVeneerref08Encode : FuncId) (v0 : IV) (H : Heap) : Option (IV × Heap) :=
    veneerref08ScriptC5S cal φ N cVeneerref08Encode v0 H
theorem veneerref08ScriptC6Eq (cal : FuncId → Bool) (φ : Oracle) (N : Nat) (cVeneerref08Encode : FuncId) {k : KT (IV × Heap)} (hR : ∀ σ H, k .ret σ H = resK [(.tmp 2), (.tmp 3)] [] σ H) : ∀ (σ : Sg) (H : Heap), lxK cal φ N (veneerref08ScriptC6 cVeneerref08Encode) σ H k = veneerref08ScriptC6S cal φ N cVeneerref08Encode (lk σ 0) H := by
  have hk : k = (kR (resK [(.tmp 2), (.tmp 3)] []) k) := (kR_mk hR rfl)
  intro σ H
  rw [hk]
  show lxK cal φ N (.reg [
    ⟨(some 2), (.mv (.k .nilSlice)), none⟩,
    ⟨(some 3), (.mv (.k (.int .i64 0))), none⟩]) σ H (seqK (lxK cal φ N (veneerref08ScriptC5 cVeneerref08Encode)) (kR (resK [(.tmp 2), (.tmp 3)] []) k)) = _
  rw [seqK_mk (g := fun σ H => veneerref08ScriptC5S cal φ N cVeneerref08Encode (lk σ 0) H) (veneerref08ScriptC5Eq cal φ N cVeneerref08Encode (k := (kR (resK [(.tmp 2), (.tmp 3)] []) k)) (fun _ _ => rfl))]
  kernel_rfl
def veneerref08Script (cVeneerref08Encode : FuncId) : LFun := ⟨(veneerref08ScriptC6 cVeneerref08Encode), [(.tmp 2), (.tmp 3)], 33⟩
def veneerref08ScriptS (cal : FuncId → Bool) (φ : Oracle) (N : Nat) (cVeneerref08Encode : FuncId) (v0 : IV) (H : Heap) : Option (IV × Heap) :=
    veneerref08ScriptC6S cal φ N cVeneerref08Encode v0 H
theorem veneerref08ScriptEq (cal : FuncId → Bool) (φ : Oracle) (N : Nat) (cVeneerref08Encode : FuncId) (v0 : IV) (H : Heap) : lrunK cal φ N (veneerref08Script cVeneerref08Encode) [v0] H = veneerref08ScriptS cal φ N cVeneerref08Encode v0 H := by
  show lxK cal φ N (veneerref08ScriptC6 cVeneerref08Encode) (initFrom 0 [v0]) H (endK [(.tmp 2), (.tmp 3)]) = _
  exact veneerref08ScriptC6Eq cal φ N cVeneerref08Encode (k := (endK [(.tmp 2), (.tmp 3)])) (fun _ _ => rfl) (initFrom 0 [v0]) H

end Go.Shade
