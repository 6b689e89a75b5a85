/- CALL, part 1: the low code of the layer 'call' and of its reference, and plain functions of the same meaning. Printed by gen.py. -/
import Derived.Test.YtdljmmdbpngchaaM2
import Derived.KernelRfl
namespace Go.Shade
set_option linter.unusedVariables false

def callWithin : LFun := ⟨(.seq (.reg [
    ⟨(some 6), (.mv (.k (.bool false))), none⟩])
  (.seq (.reg [
    ⟨(some 7), (.mv (.t 0)), none⟩,
    ⟨(some 8), (.mv (.t 1)), none⟩,
    ⟨(some 9), (.bin .geq (.t 7) (.t 8)), none⟩,
    ⟨(some 10), (.mv (.t 9)), none⟩,
    ⟨(some 11), (.mv (.t 0)), (some (10, true))⟩,
    ⟨(some 12), (.mv (.t 2)), (some (10, true))⟩,
    ⟨(some 13), (.bin .leq (.t 11) (.t 12)), (some (10, true))⟩,
    ⟨(some 14), (.pick (.t 10) (.t 13) (.k (.bool false))), none⟩,
    ⟨(some 6), (.mv (.t 14)), none⟩])
  .ret)), [(.tmp 6)], 15⟩
def callWithinS (cal : FuncId → Bool) (φ : Oracle) (N : Nat) (v0 v1 v2 : IV) (H : Heap) : Option (IV × Heap) :=
    ob (lbin .geq v0 v1) fun t1 =>
    ob (gq (isB t1 true) (some v0)) fun t2 =>
    ob (gq (isB t1 true) (some v2)) fun t3 =>
    ob (gq (isB t1 true) (lbin .leq t2 t3)) fun t4 =>
    ob (lpick t1 t4 (.bool false)) fun t5 =>
    some (t5, H)
theorem callWithinEq (cal : FuncId → Bool) (φ : Oracle) (N : Nat) (v0 v1 v2 : IV) (H : Heap) : lrunK cal φ N (callWithin) [v0, v1, v2] H = callWithinS cal φ N v0 v1 v2 H := by
  kernel_rfl

def callMay (cCallWithin : FuncId) : LFun := ⟨(.seq (.reg [
    ⟨(some 1), (.box (.t 0)), none⟩,
    ⟨(some 2), (.mv (.k (.bool false))), none⟩])
  (.seq (.reg [
    ⟨(some 3), (.off (.t 1) 0), none⟩,
    ⟨(some 4), (.ld1 (.t 3)), none⟩,
    ⟨(some 5), (.callF cCallWithin [(.t 4), (.k (.int .i64 1)), (.k (.int .i64 20))]), none⟩,
    ⟨(some 6), (.mv (.t 5)), none⟩,
    ⟨(some 7), (.off (.t 1) 1), (some (6, true))⟩,
    ⟨(some 8), (.ld1 (.t 7)), (some (6, true))⟩,
    ⟨(some 9), (.callF cCallWithin [(.t 8), (.k (.int .i64 (-4))), (.k (.int .i64 35))]), (some (6, true))⟩,
    ⟨(some 10), (.pick (.t 6) (.t 9) (.k (.bool false))), none⟩,
    ⟨(some 11), (.mv (.t 10)), none⟩,
    ⟨(some 12), (.off (.t 1) 2), (some (11, true))⟩,
    ⟨(some 13), (.ld1 (.t 12)), (some (11, true))⟩,
    ⟨(some 14), (.callF cCallWithin [(.t 13), (.k (.int .i64 0)), (.k (.int .i64 63))]), (some (11, true))⟩,
    ⟨(some 15), (.pick (.t 11) (.t 14) (.k (.bool false))), none⟩,
    ⟨(some 16), (.mv (.t 15)), none⟩,
    ⟨(some 17), (.off (.t 1) 3), (some (16, true))⟩,
    ⟨(some 18), (.ld1 (.t 17)), (some (16, true))⟩,
    ⟨(some 19), (.callF cCallWithin [(.t 18), (.k (.int .i64 (-256))), (.k (.int .i64 65279))]), (some (16, true))⟩,
    ⟨(some 20), (.pick (.t 16) (.t 19) (.k (.bool false))), none⟩,
    ⟨(some 21), (.mv (.t 20)), none⟩,
    ⟨(some 22), (.off (.t 1) 4), (some (21, true))⟩,
    ⟨(some 23), (.ld1 (.t 22)), (some (21, true))⟩,
    ⟨(some 24), (.callF cCallWithin [(.t 23), (.k (.int .i64 (-256))), (.k (.int .i64 65279))]), (some (21, true))⟩,
    ⟨(some 25), (.pick (.t 21) (.t 24) (.k (.bool false))), none⟩,
    ⟨(some 26), (.mv (.t 25)), none⟩,
    ⟨(some 27), (.off (.t 1) 5), (some (26, true))⟩,
    ⟨(some 28), (.ld1 (.t 27)), (some (26, true))⟩,
    ⟨(some 29), (.len .str (.t 28)), (some (26, true))⟩,
    ⟨(some 30), (.bin .lss (.t 29) (.k (.int .i64 64))), (some (26, true))⟩,
    ⟨(some 31), (.pick (.t 26) (.t 30) (.k (.bool false))), none⟩,
    ⟨(some 32), (.mv (.t 31)), none⟩,
    ⟨(some 33), (.off (.t 1) 6), (some (32, true))⟩,
    ⟨(some 34), (.ld1 (.t 33)), (some (32, true))⟩,
    ⟨(some 35), (.len .str (.t 34)), (some (32, true))⟩,
    ⟨(some 36), (.bin .lss (.t 35) (.k (.int .i64 64))), (some (32, true))⟩,
    ⟨(some 37), (.pick (.t 32) (.t 36) (.k (.bool false))), none⟩,
    ⟨(some 2), (.mv (.t 37)), none⟩])
  .ret)), [(.tmp 2)], 38⟩
def callMayS (cal : FuncId → Bool) (φ : Oracle) (N : Nat) (cCallWithin : FuncId) (v0 : IV) (H : Heap) : Option (IV × Heap) :=
    ob (lbox H v0) fun r1 =>
    ob (loff r1.1 0) fun t2 =>
    ob (lload1 r1.2 t2) fun t3 =>
    ob (φ cCallWithin [t3, (.int .i64 1), (.int .i64 20)] r1.2) fun r4 =>
    ob (gq (isB r4.1 true) (loff r1.1 1)) fun t5 =>
    ob (gq (isB r4.1 true) (lload1 r4.2 t5)) fun t6 =>
    ob (ge (isB r4.1 true) r4.2 (φ cCallWithin [t6, (.int .i64 (-4)), (.int .i64 35)] r4.2)) fun r7 =>
    ob (lpick r4.1 r7.1 (.bool false)) fun t8 =>
    ob (gq (isB t8 true) (loff r1.1 2)) fun t9 =>
    ob (gq (isB t8 true) (lload1 r7.2 t9)) fun t10 =>
    ob (ge (isB t8 true) r7.2 (φ cCallWithin [t10, (.int .i64 0), (.int .i64 63)] r7.2)) fun r11 =>
    ob (lpick t8 r11.1 (.bool false)) fun t12 =>
    ob (gq (isB t12 true) (loff r1.1 3)) fun t13 =>
    ob (gq (isB t12 true) (lload1 r11.2 t13)) fun t14 =>
    ob (ge (isB t12 true) r11.2 (φ cCallWithin [t14, (.int .i64 (-256)), (.int .i64 65279)] r11.2)) fun r15 =>
    ob (lpick t12 r15.1 (.bool false)) fun t16 =>
    ob (gq (isB t16 true) (loff r1.1 4)) fun t17 =>
    ob (gq (isB t16 true) (lload1 r15.2 t17)) fun t18 =>
    ob (ge (isB t16 true) r15.2 (φ cCallWithin [t18, (.int .i64 (-256)), (.int .i64 65279)] r15.2)) fun r19 =>
    ob (lpick t16 r19.1 (.bool false)) fun t20 =>
    ob (gq (isB t20 true) (loff r1.1 5)) fun t21 =>
    ob (gq (isB t20 true) (lload1 r19.2 t21)) fun t22 =>
    ob (gq (isB t20 true) (llen r19.2 .str t22)) fun t23 =>
    ob (gq (isB t20 true) (lbin .lss t23 (.int .i64 64))) fun t24 =>
    ob (lpick t20 t24 (.bool false)) fun t25 =>
    ob (gq (isB t25 true) (loff r1.1 6)) fun t26 =>
    ob (gq (isB t25 true) (lload1 r19.2 t26)) fun t27 =>
    ob (gq (isB t25 true) (llen r19.2 .str t27)) fun t28 =>
    ob (gq (isB t25 true) (lbin .lss t28 (.int .i64 64))) fun t29 =>
    ob (lpick t25 t29 (.bool false)) fun t30 =>
    some (t30, r19.2)
theorem callMayEq (cal : FuncId → Bool) (φ : Oracle) (N : Nat) (cCallWithin : FuncId) (v0 : IV) (H : Heap) : lrunK cal φ N (callMay cCallWithin) [v0] H = callMayS cal φ N cCallWithin v0 H := by
  kernel_rfl

def callEncode (cCallMay : FuncId) : LFun := ⟨(.seq (.reg [
    ⟨(some 1), (.box (.t 0)), none⟩,
    ⟨(some 2), (.mv (.k .nilSlice)), none⟩,
    ⟨(some 3), (.mv (.k (.int .i64 0))), none⟩])
  (.seq (.seq (.reg [
    ⟨(some 7), (.ldn 7 (.t 1)), none⟩,
    ⟨(some 8), (.callF cCallMay [(.t 7)]), none⟩,
    ⟨(some 9), (.un .not (.t 8)), none⟩])
  (.cond (.t 9) (.seq (.reg [
    ⟨(some 2), (.mv (.k .nilSlice)), none⟩,
    ⟨(some 3), (.mv (.k (.int .i64 22))), none⟩])
  .ret)
  .skip))
  (.seq (.drw [
    ⟨(some 10), (.off (.t 1) 3), none⟩,
    ⟨(some 11), (.ld1 (.t 10)), none⟩,
    ⟨(some 12), (.bin .sub (.t 11) (.k (.int .i64 (-256)))), none⟩,
    ⟨(some 13), (.off (.t 1) 4), none⟩,
    ⟨(some 14), (.ld1 (.t 13)), none⟩,
    ⟨(some 15), (.bin .sub (.t 14) (.k (.int .i64 (-256)))), none⟩,
    ⟨(some 4), (.mv (.t 12)), none⟩,
    ⟨(some 5), (.mv (.t 15)), none⟩] [])
  (.seq (.reg [
    ⟨(some 16), (.off (.t 1) 0), none⟩,
    ⟨(some 17), (.ld1 (.t 16)), none⟩,
    ⟨(some 18), (.bin .sub (.t 17) (.k (.int .i64 1))), none⟩,
    ⟨(some 19), (.cvt .u8 (.t 18)), none⟩,
    ⟨(some 20), (.off (.t 1) 1), none⟩,
    ⟨(some 21), (.ld1 (.t 20)), none⟩,
    ⟨(some 22), (.bin .sub (.t 21) (.k (.int .i64 (-4)))), none⟩,
    ⟨(some 23), (.cvt .u8 (.t 22)), none⟩,
    ⟨(some 24), (.off (.t 1) 2), none⟩,
    ⟨(some 25), (.ld1 (.t 24)), none⟩,
    ⟨(some 26), (.cvt .u8 (.t 25)), none⟩,
    ⟨(some 27), (.mv (.t 4)), none⟩,
    ⟨(some 28), (.bin .shr (.t 27) (.k (.int .u64 8))), none⟩,
    ⟨(some 29), (.cvt .u8 (.t 28)), none⟩,
    ⟨(some 30), (.mv (.t 4)), none⟩,
    ⟨(some 31), (.cvt .u8 (.t 30)), none⟩,
    ⟨(some 32), (.mv (.t 5)), none⟩,
    ⟨(some 33), (.bin .shr (.t 32) (.k (.int .u64 8))), none⟩,
    ⟨(some 34), (.cvt .u8 (.t 33)), none⟩,
    ⟨(some 35), (.mv (.t 5)), none⟩,
    ⟨(some 36), (.cvt .u8 (.t 35)), none⟩,
    ⟨(some 37), (.off (.t 1) 5), none⟩,
    ⟨(some 38), (.ld1 (.t 37)), none⟩,
    ⟨(some 39), (.len .str (.t 38)), none⟩,
    ⟨(some 40), (.cvt .u8 (.t 39)), none⟩,
    ⟨(some 41), (.bldS 1 8 [(.int .u8 0)] [(0, (.t 19)), (1, (.t 23)), (2, (.t 26)), (3, (.t 29)), (4, (.t 31)), (5, (.t 34)), (6, (.t 36)), (7, (.t 40))]), none⟩,
    ⟨(some 6), (.mv (.t 41)), none⟩])
  (.seq (.reg [
    ⟨(some 42), (.mv (.t 6)), none⟩,
    ⟨(some 43), (.off (.t 1) 5), none⟩,
    ⟨(some 44), (.ld1 (.t 43)), none⟩,
    ⟨(some 45), (.app 1 1 (.t 42) (.t 44)), none⟩,
    ⟨(some 6), (.mv (.t 45)), none⟩])
  (.seq (.reg [
    ⟨(some 46), (.mv (.t 6)), none⟩,
    ⟨(some 47), (.off (.t 1) 6), none⟩,
    ⟨(some 48), (.ld1 (.t 47)), none⟩,
    ⟨(some 49), (.len .str (.t 48)), none⟩,
    ⟨(some 50), (.cvt .u8 (.t 49)), none⟩,
    ⟨(some 51), (.bldS 1 1 [(.int .u8 0)] [(0, (.t 50))]), none⟩,
    ⟨(some 52), (.app 1 1 (.t 46) (.t 51)), none⟩,
    ⟨(some 6), (.mv (.t 52)), none⟩])
  (.seq (.reg [
    ⟨(some 53), (.mv (.t 6)), none⟩,
    ⟨(some 54), (.off (.t 1) 6), none⟩,
    ⟨(some 55), (.ld1 (.t 54)), none⟩,
    ⟨(some 56), (.app 1 1 (.t 53) (.t 55)), none⟩,
    ⟨(some 2), (.mv (.t 56)), none⟩,
    ⟨(some 3), (.mv (.k (.int .i64 0))), none⟩])
  .ret))))))), [(.tmp 2), (.tmp 3)], 57⟩
def callEncodeS (cal : FuncId → Bool) (φ : Oracle) (N : Nat) (cCallMay : FuncId) (v0 : IV) (H : Heap) : Option (IV × Heap) :=
    ob (lbox H v0) fun r1 =>
    ob (lloadn r1.2 7 r1.1) fun t2 =>
    ob (φ cCallMay [t2] r1.2) fun r3 =>
    ob (iun .not r3.1) fun t4 =>
    cnd t4
    (some ((.tuple [.nilSlice, (.int .i64 22)]), r3.2))
    (ob (loff r1.1 3) fun t5 =>
    ob (lload1 r3.2 t5) fun t6 =>
    ob (lbin .sub t6 (.int .i64 (-256))) fun t7 =>
    ob (loff r1.1 4) fun t8 =>
    ob (lload1 r3.2 t8) fun t9 =>
    ob (lbin .sub t9 (.int .i64 (-256))) fun t10 =>
    ob (loff r1.1 0) fun t11 =>
    ob (lload1 r3.2 t11) fun t12 =>
    ob (lbin .sub t12 (.int .i64 1)) fun t13 =>
    ob (lcvt .u8 t13) fun t14 =>
    ob (loff r1.1 1) fun t15 =>
    ob (lload1 r3.2 t15) fun t16 =>
    ob (lbin .sub t16 (.int .i64 (-4))) fun t17 =>
    ob (lcvt .u8 t17) fun t18 =>
    ob (loff r1.1 2) fun t19 =>
    ob (lload1 r3.2 t19) fun t20 =>
    ob (lcvt .u8 t20) fun t21 =>
    ob (lbin .shr t7 (.int .u64 8)) fun t22 =>
    ob (lcvt .u8 t22) fun t23 =>
    ob (lcvt .u8 t7) fun t24 =>
    ob (lbin .shr t10 (.int .u64 8)) fun t25 =>
    ob (lcvt .u8 t25) fun t26 =>
    ob (lcvt .u8 t10) fun t27 =>
    ob (loff r1.1 5) fun t28 =>
    ob (lload1 r3.2 t28) fun t29 =>
    ob (llen r3.2 .str t29) fun t30 =>
    ob (lcvt .u8 t30) fun t31 =>
    ob (lbldS r3.2 1 8 [(.int .u8 0)] [(0, t14), (1, t18), (2, t21), (3, t23), (4, t24), (5, t26), (6, t27), (7, t31)]) fun r32 =>
    ob (loff r1.1 5) fun t33 =>
    ob (lload1 r32.2 t33) fun t34 =>
    ob (lapp r32.2 1 1 r32.1 t34) fun r35 =>
    ob (loff r1.1 6) fun t36 =>
    ob (lload1 r35.2 t36) fun t37 =>
    ob (llen r35.2 .str t37) fun t38 =>
    ob (lcvt .u8 t38) fun t39 =>
    ob (lbldS r35.2 1 1 [(.int .u8 0)] [(0, t39)]) fun r40 =>
    ob (lapp r40.2 1 1 r35.1 r40.1) fun r41 =>
    ob (loff r1.1 6) fun t42 =>
    ob (lload1 r41.2 t42) fun t43 =>
    ob (lapp r41.2 1 1 r41.1 t43) fun r44 =>
    some ((.tuple [r44.1, (.int .i64 0)]), r44.2))
theorem callEncodeEq (cal : FuncId → Bool) (φ : Oracle) (N : Nat) (cCallMay : FuncId) (v0 : IV) (H : Heap) : lrunK cal φ N (callEncode cCallMay) [v0] H = callEncodeS cal φ N cCallMay v0 H := by
  kernel_rfl

def callScriptC0 (cCallEncode : FuncId) : LC := .loop (.seq (.reg [
    ⟨(some 15), (.bin .lss (.t 14) (.t 13)), none⟩])
  (.seq (.cond (.t 15) .skip
  (.exit 0))
  (.seq (.block 1 (.seq (.reg [
    ⟨(some 16), (.ix 7 (.t 12) (.t 14)), none⟩,
    ⟨(some 17), (.ldn 7 (.t 16)), none⟩,
    ⟨(some 6), (.zbox (.agg [(.int .i64 0), (.int .i64 0), (.int .i64 0), (.int .i64 0), (.int .i64 0), (.str []), (.str [])])), none⟩,
    ⟨none, (.st 7 (.t 6) (.t 17)), none⟩])
  (.seq (.reg [
    ⟨(some 19), (.ldn 7 (.t 6)), none⟩,
    ⟨(some 20), (.callF cCallEncode [(.t 19)]), none⟩,
    ⟨(some 18), (.mv (.t 20)), none⟩,
    ⟨(some 21), (.ext (.t 18) 0), none⟩,
    ⟨(some 22), (.ext (.t 18) 1), none⟩,
    ⟨(some 7), (.mv (.t 21)), none⟩,
    ⟨(some 8), (.mv (.t 22)), none⟩])
  (.seq (.seq (.reg [
    ⟨(some 23), (.mv (.t 8)), none⟩,
    ⟨(some 24), (.bin .neq (.t 23) (.k (.int .i64 0))), none⟩])
  (.cond (.t 24) (.seq (.reg [
    ⟨(some 25), (.mv (.t 8)), none⟩,
    ⟨(some 2), (.mv (.k .nilSlice)), none⟩,
    ⟨(some 3), (.mv (.t 25)), none⟩])
  .ret)
  .skip))
  (.reg [
    ⟨(some 26), (.mv (.t 4)), none⟩,
    ⟨(some 27), (.mv (.t 7)), none⟩,
    ⟨(some 28), (.app 1 1 (.t 26) (.t 27)), none⟩,
    ⟨(some 4), (.mv (.t 28)), none⟩])))))
  (.reg [
    ⟨(some 29), (.bin .add (.t 14) (.k (.int .i64 1))), none⟩,
    ⟨(some 14), (.mv (.t 29)), none⟩]))))
def callScriptC1 (cCallEncode : FuncId) : LC := .block 0 (callScriptC0 cCallEncode)
def callScriptC2 (cCallEncode : FuncId) : LC := .seq (.reg [
    ⟨(some 12), (.mv (.t 0)), none⟩,
    ⟨(some 13), (.len .slice (.t 12)), none⟩,
    ⟨(some 14), (.mv (.k (.int .i64 0))), none⟩]) (callScriptC1 cCallEncode)
def callScriptC3 (cCallEncode : FuncId) : LC := .seq (callScriptC2 cCallEncode) (.seq (.reg [
    ⟨(some 30), (.mv (.t 4)), none⟩,
    ⟨(some 2), (.mv (.t 30)), none⟩,
    ⟨(some 3), (.mv (.k (.int .i64 0))), none⟩])
  .ret)
def callScriptC4 (cCallEncode : FuncId) : LC := .seq (.reg [
    ⟨(some 4), (.mv (.k .nilSlice)), none⟩]) (callScriptC3 cCallEncode)
def callScriptC5 (cCallEncode : FuncId) : LC := .seq (.seq (.reg [
    ⟨(some 9), (.mv (.t 0)), none⟩,
    ⟨(some 10), (.len .slice (.t 9)), none⟩,
    ⟨(some 11), (.bin .gtr (.t 10) (.k (.int .i64 200))), none⟩])
  (.cond (.t 11) (.seq (.reg [
    ⟨(some 2), (.mv (.k .nilSlice)), none⟩,
    ⟨(some 3), (.mv (.k (.int .i64 22))), none⟩])
  .ret)
  .skip)) (callScriptC4 cCallEncode)
def callScriptC6 (cCallEncode : FuncId) : LC := .seq (.reg [
    ⟨(some 2), (.mv (.k .nilSlice)), none⟩,
    ⟨(some 3), (.mv (.k (.int .i64 0))), none⟩]) (callScriptC5 cCallEncode)
def callScriptC0S (cal : FuncId → Bool) (φ : Oracle) (N : Nat) (cCallEncode : FuncId) (gE0 : IV → Heap → Option (IV × Heap)) : Nat → IV → IV → IV → IV → Heap → Option (IV × Heap)
  | 0, _, _, _, _, _ => none
  | n + 1, v4, v12, v13, v14, H =>
    ob (lbin .lss v14 v13) fun t1 =>
    cnd t1
    (ob (lix 7 v12 v14) fun t2 =>
    ob (lloadn H 7 t2) fun t3 =>
    ob (lzbox H (.agg [(.int .i64 0), (.int .i64 0), (.int .i64 0), (.int .i64 0), (.int .i64 0), (.str []), (.str [])])) fun r4 =>
    ob (lstV r4.2 7 r4.1 t3) fun r5 =>
    ob (lloadn r5.2 7 r4.1) fun t6 =>
    ob (φ cCallEncode [t6] r5.2) fun r7 =>
    ob (iextract r7.1 0) fun t8 =>
    ob (iextract r7.1 1) fun t9 =>
    ob (lbin .neq t9 (.int .i64 0)) fun t10 =>
    cnd t10
    (some ((.tuple [.nilSlice, t9]), r7.2))
    (ob (lapp r7.2 1 1 v4 t8) fun r11 =>
    ob (lbin .add v14 (.int .i64 1)) fun t12 =>
    callScriptC0S cal φ N cCallEncode gE0 n r11.1 v12 v13 t12 r11.2))
    (gE0 v4 H)
theorem callScriptC0Eq (cal : FuncId → Bool) (φ : Oracle) (N : Nat) (cCallEncode : FuncId) {k : KT (IV × Heap)} (gE0 : IV → Heap → Option (IV × Heap)) (hgE0 : ∀ σ H, k (.exit 0) σ H = gE0 (lk σ 4) H) (hR : ∀ σ H, k .ret σ H = resK [(.tmp 2), (.tmp 3)] [] σ H) : ∀ (n : Nat) (σ : Sg) (H : Heap), itK (lxK cal φ N (.seq (.reg [
    ⟨(some 15), (.bin .lss (.t 14) (.t 13)), none⟩])
  (.seq (.cond (.t 15) .skip
  (.exit 0))
  (.seq (.block 1 (.seq (.reg [
    ⟨(some 16), (.ix 7 (.t 12) (.t 14)), none⟩,
    ⟨(some 17), (.ldn 7 (.t 16)), none⟩,
    ⟨(some 6), (.zbox (.agg [(.int .i64 0), (.int .i64 0), (.int .i64 0), (.int .i64 0), (.int .i64 0), (.str []), (.str [])])), none⟩,
    ⟨none, (.st 7 (.t 6) (.t 17)), none⟩])
  (.seq (.reg [
    ⟨(some 19), (.ldn 7 (.t 6)), none⟩,
    ⟨(some 20), (.callF cCallEncode [(.t 19)]), none⟩,
    ⟨(some 18), (.mv (.t 20)), none⟩,
    ⟨(some 21), (.ext (.t 18) 0), none⟩,
    ⟨(some 22), (.ext (.t 18) 1), none⟩,
    ⟨(some 7), (.mv (.t 21)), none⟩,
    ⟨(some 8), (.mv (.t 22)), none⟩])
  (.seq (.seq (.reg [
    ⟨(some 23), (.mv (.t 8)), none⟩,
    ⟨(some 24), (.bin .neq (.t 23) (.k (.int .i64 0))), none⟩])
  (.cond (.t 24) (.seq (.reg [
    ⟨(some 25), (.mv (.t 8)), none⟩,
    ⟨(some 2), (.mv (.k .nilSlice)), none⟩,
    ⟨(some 3), (.mv (.t 25)), none⟩])
  .ret)
  .skip))
  (.reg [
    ⟨(some 26), (.mv (.t 4)), none⟩,
    ⟨(some 27), (.mv (.t 7)), none⟩,
    ⟨(some 28), (.app 1 1 (.t 26) (.t 27)), none⟩,
    ⟨(some 4), (.mv (.t 28)), none⟩])))))
  (.reg [
    ⟨(some 29), (.bin .add (.t 14) (.k (.int .i64 1))), none⟩,
    ⟨(some 14), (.mv (.t 29)), none⟩]))))) n σ H k = callScriptC0S cal φ N cCallEncode gE0 n (lk σ 4) (lk σ 12) (lk σ 13) (lk σ 14) H := by
  have hk : k = (kE 0 (fun σ H => gE0 (lk σ 4) H) (kR (resK [(.tmp 2), (.tmp 3)] []) k)) := (kE_mk hgE0 (kR_mk hR rfl))
  intro n
  induction n with
  | zero => intro σ H; rfl
  | succ n ih =>
    intro σ H
    rw [itK_succ, seqK_mk (g := fun σ H => callScriptC0S cal φ N cCallEncode gE0 n (lk σ 4) (lk σ 12) (lk σ 13) (lk σ 14) H) ih, hk]
    kernel_rfl
def callScriptC1S (cal : FuncId → Bool) (φ : Oracle) (N : Nat) (cCallEncode : FuncId) (gN : IV → Heap → Option (IV × Heap)) (v4 v12 v13 v14 : IV) (H : Heap) : Option (IV × Heap) :=
    callScriptC0S cal φ N cCallEncode (fun v4 H => gN v4 H) N v4 v12 v13 v14 H
theorem callScriptC1Eq (cal : FuncId → Bool) (φ : Oracle) (N : Nat) (cCallEncode : FuncId) {k : KT (IV × Heap)} (gN : IV → Heap → Option (IV × Heap)) (hgN : ∀ σ H, k .normal σ H = gN (lk σ 4) H) (hR : ∀ σ H, k .ret σ H = resK [(.tmp 2), (.tmp 3)] [] σ H) : ∀ (σ : Sg) (H : Heap), lxK cal φ N (callScriptC1 cCallEncode) σ H k = callScriptC1S cal φ N cCallEncode gN (lk σ 4) (lk σ 12) (lk σ 13) (lk σ 14) H := by
  have hk : k = (kN (fun σ H => gN (lk σ 4) H) (kR (resK [(.tmp 2), (.tmp 3)] []) k)) := (kN_mk hgN (kR_mk hR rfl))
  intro σ H
  rw [hk]
  show lxK cal φ N (callScriptC0 cCallEncode) σ H (blockK 0 (kN (fun σ H => gN (lk σ 4) H) (kR (resK [(.tmp 2), (.tmp 3)] []) k))) = _
  exact callScriptC0Eq cal φ N cCallEncode (k := (blockK 0 (kN (fun σ H => gN (lk σ 4) H) (kR (resK [(.tmp 2), (.tmp 3)] []) k)))) (fun v4 H => gN v4 H) (fun _ _ => rfl) (fun _ _ => rfl) N σ H
def callScriptC2S (cal : FuncId → Bool) (φ : Oracle) (N : Nat) (cCallEncode : FuncId) (gN : IV → Heap → Option (IV × Heap)) (v0 v4 : IV) (H : Heap) : Option (IV × Heap) :=
    ob (llen H .slice v0) fun t1 =>
    callScriptC1S cal φ N cCallEncode (fun v4 H => gN v4 H) v4 v0 t1 (.int .i64 0) H
theorem callScriptC2Eq (cal : FuncId → Bool) (φ : Oracle) (N : Nat) (cCallEncode : FuncId) {k : KT (IV × Heap)} (gN : IV → Heap → Option (IV × Heap)) (hgN : ∀ σ H, k .normal σ H = gN (lk σ 4) H) (hR : ∀ σ H, k .ret σ H = resK [(.tmp 2), (.tmp 3)] [] σ H) : ∀ (σ : Sg) (H : Heap), lxK cal φ N (callScriptC2 cCallEncode) σ H k = callScriptC2S cal φ N cCallEncode gN (lk σ 0) (lk σ 4) H := by
  have hk : k = (kN (fun σ H => gN (lk σ 4) H) (kR (resK [(.tmp 2), (.tmp 3)] []) k)) := (kN_mk hgN (kR_mk hR rfl))
  intro σ H
  rw [hk]
  show lxK cal φ N (.reg [
    ⟨(some 12), (.mv (.t 0)), none⟩,
    ⟨(some 13), (.len .slice (.t 12)), none⟩,
    ⟨(some 14), (.mv (.k (.int .i64 0))), none⟩]) σ H (seqK (lxK cal φ N (callScriptC1 cCallEncode)) (kN (fun σ H => gN (lk σ 4) H) (kR (resK [(.tmp 2), (.tmp 3)] []) k))) = _
  rw [seqK_mk (g := fun σ H => callScriptC1S cal φ N cCallEncode (fun v4 H => gN v4 H) (lk σ 4) (lk σ 12) (lk σ 13) (lk σ 14) H) (callScriptC1Eq cal φ N cCallEncode (k := (kN (fun σ H => gN (lk σ 4) H) (kR (resK [(.tmp 2), (.tmp 3)] []) k))) (fun v4 H => gN v4 H) (fun _ _ => rfl) (fun _ _ => rfl))]
  kernel_rfl
def callScriptC3S (cal : FuncId → Bool) (φ : Oracle) (N : Nat) (cCallEncode : FuncId) (v0 v4 : IV) (H : Heap) : Option (IV × Heap) :=
    callScriptC2S cal φ N cCallEncode (fun v4 H => some ((.tuple [v4, (.int .i64 0)]), H)) v0 v4 H
theorem callScriptC3Eq (cal : FuncId → Bool) (φ : Oracle) (N : Nat) (cCallEncode : FuncId) {k : KT (IV × Heap)} (hR : ∀ σ H, k .ret σ H = resK [(.tmp 2), (.tmp 3)] [] σ H) : ∀ (σ : Sg) (H : Heap), lxK cal φ N (callScriptC3 cCallEncode) σ H k = callScriptC3S cal φ N cCallEncode (lk σ 0) (lk σ 4) H := by
  have hk : k = (kR (resK [(.tmp 2), (.tmp 3)] []) k) := (kR_mk hR rfl)
  intro σ H
  rw [hk]
  show lxK cal φ N (callScriptC2 cCallEncode) σ H (seqK (lxK cal φ N (.seq (.reg [
    ⟨(some 30), (.mv (.t 4)), none⟩,
    ⟨(some 2), (.mv (.t 30)), none⟩,
    ⟨(some 3), (.mv (.k (.int .i64 0))), none⟩])
  .ret)) (kR (resK [(.tmp 2), (.tmp 3)] []) k)) = _
  exact callScriptC2Eq cal φ N cCallEncode (k := (seqK (lxK cal φ N (.seq (.reg [
    ⟨(some 30), (.mv (.t 4)), none⟩,
    ⟨(some 2), (.mv (.t 30)), none⟩,
    ⟨(some 3), (.mv (.k (.int .i64 0))), none⟩])
  .ret)) (kR (resK [(.tmp 2), (.tmp 3)] []) k))) (fun v4 H => some ((.tuple [v4, (.int .i64 0)]), H)) (fun _ _ => rfl) (fun _ _ => rfl) σ H
def callScriptC4S (cal : FuncId → Bool) (φ : Oracle) (N : Nat) (cCallEncode : FuncId) (v0 : IV) (H : Heap) : Option (IV × Heap) :=
    callScriptC3S cal φ N cCallEncode v0 .nilSlice H
theorem callScriptC4Eq (cal : FuncId → Bool) (φ : Oracle) (N : Nat) (cCallEncode : FuncId) {k : KT (IV × Heap)} (hR : ∀ σ H, k .ret σ H = resK [(.tmp 2), (.tmp 3)] [] σ H) : ∀ (σ : Sg) (H : Heap), lxK cal φ N (callScriptC4 cCallEncode) σ H k = callScriptC4S cal φ N cCallEncode (lk σ 0) H := by
  have hk : k = (kR (resK [(.tmp 2), (.tmp 3)] []) k) := (kR_mk hR rfl)
  intro σ H
  rw [hk]
  show lxK cal φ N (.reg [
    ⟨(some 4), (.mv (.k .nilSlice)), none⟩]) σ H (seqK (lxK cal φ N (callScriptC3 cCallEncode)) (kR (resK [(.tmp 2), (.tmp 3)] []) k)) = _
  rw [seqK_mk (g := fun σ H => callScriptC3S cal φ N cCallEncode (lk σ 0) (lk σ 4) H) (callScriptC3Eq cal φ N cCallEncode (k := (kR (resK [(.tmp 2), (.tmp 3)] []) k)) (fun _ _ => rfl))]
  kernel_rfl
def callScriptC5S (cal : FuncId → Bool) (φ : Oracle) (N : Nat) (cCallEncode : FuncId) (v0 : IV) (H : Heap) : Option (IV × Heap) :=
    ob (llen H .slice v0) fun t1 =>
    ob (lbin .gtr t1 (.int .i64 200)) fun t2 =>
    cnd t2
    (some ((.tuple [.nilSlice, (.int .i64 22)]), H))
    (callScriptC4S cal φ N cCallEncode v0 H)
theorem callScriptC5Eq (cal : FuncId → Bool) (φ : Oracle) (N : Nat) (cCallEncode : FuncId) {k : KT (IV × Heap)} (hR : ∀ σ H, k .ret σ H = resK [(.tmp 2), (.tmp 3)] [] σ H) : ∀ (σ : Sg) (H : Heap), lxK cal φ N (callScriptC5 cCallEncode) σ H k = callScriptC5S cal φ N cCallEncode (lk σ 0) H := by
  have hk : k = (kR (resK [(.tmp 2), (.tmp 3)] []) k) := (kR_mk hR rfl)
  intro σ H
  rw [hk]
  show lxK cal φ N (.seq (.reg [
    ⟨(some 9), (.mv (.t 0)), none⟩,
    ⟨(some 10), (.len .slice (.t 9)), none⟩,
    ⟨(some 11), (.bin .gtr (.t 10) (.k (.int .i64 200))), none⟩])
  (.cond (.t 11) (.seq (.reg [
    ⟨(some 2), (.mv (.k .nilSlice)), none⟩,
    ⟨(some 3), (.mv (.k (.int .i64 22))), none⟩])
  .ret)
  .skip)) σ H (seqK (lxK cal φ N (callScriptC4 cCallEncode)) (kR (resK [(.tmp 2), (.tmp 3)] []) k)) = _
  rw [seqK_mk (g := fun σ H => callScriptC4S cal φ N cCallEncode (lk σ 0) H) (callScriptC4Eq cal φ N cCallEncode (k := (kR (resK [(.tmp 2), (.tmp 3)] []) k)) (fun _ _ => rfl))]
  kernel_rfl
def callScriptC6S (cal : FuncId → Bool) (φ : Oracle) (N : Nat) (cCallEncode : FuncId) (v0 : IV) (H : Heap) : Option (IV × Heap) :=
    callScriptC5S cal φ N cCallEncode v0 H
theorem callScriptC6Eq (cal : FuncId → Bool) (φ : Oracle) (N : Nat) (cCallEncode : FuncId) {k : KT (IV × Heap)} (hR : ∀ σ H, k .ret σ H = resK [(.tmp 2), (.tmp 3)] [] σ H) : ∀ (σ : Sg) (H : Heap), lxK cal φ N (callScriptC6 cCallEncode) σ H k = callScriptC6S cal φ N cCallEncode (lk σ 0) H := by
  have hk : k = (kR (resK [(.tmp 2), (.tmp 3)] []) k) := (kR_mk hR rfl)
  intro σ H
  rw [hk]
  show lxK cal φ N (.reg [
    ⟨(some 2), (.mv (.k .nilSlice)), none⟩,
    ⟨(some 3), (.mv (.k (.int .i64 0))), none⟩]) σ H (seqK (lxK cal φ N (callScriptC5 cCallEncode)) (kR (resK [(.tmp 2), (.tmp 3)] []) k)) = _
  rw [seqK_mk (g := fun σ H => callScriptC5S cal φ N cCallEncode (lk σ 0) H) (callScriptC5Eq cal φ N cCallEncode (k := (kR (resK [(.tmp 2), (.tmp 3)] []) k)) (fun _ _ => rfl))]
  kernel_rfl
def callScript (cCallEncode : FuncId) : LFun := ⟨(callScriptC6 cCallEncode), [(.tmp 2), (.tmp 3)], 31⟩
def callScriptS (cal : FuncId → Bool) (φ : Oracle) (N : Nat) (cCallEncode : FuncId) (v0 : IV) (H : Heap) : Option (IV × Heap) :=
    callScriptC6S cal φ N cCallEncode v0 H
theorem callScriptEq (cal : FuncId → Bool) (φ : Oracle) (N : Nat) (cCallEncode : FuncId) (v0 : IV) (H : Heap) : lrunK cal φ N (callScript cCallEncode) [v0] H = callScriptS cal φ N cCallEncode v0 H := by
  show lxK cal φ N (callScriptC6 cCallEncode) (initFrom 0 [v0]) H (endK [(.tmp 2), (.tmp 3)]) = _
  exact callScriptC6Eq cal φ N cCallEncode (k := (endK [(.tmp 2), (.tmp 3)])) (fun _ _ => rfl) (initFrom 0 [v0]) H

def veneerlaw08SameC0 : LC := .loop (.seq (.reg [
    ⟨(some 14), (.bin .lss (.t 13) (.t 12)), none⟩])
  (.seq (.cond (.t 14) .skip
  (.exit 0))
  (.seq (.block 1 (.seq (.reg [
    ⟨(some 15), (.mv (.t 13)), none⟩,
    ⟨(some 5), (.mv (.t 15)), none⟩])
  (.seq (.drw [
    ⟨(some 16), (.mv (.t 0)), none⟩,
    ⟨(some 17), (.mv (.t 5)), none⟩,
    ⟨(some 18), (.ix 7 (.t 16) (.t 17)), none⟩,
    ⟨(some 19), (.ldn 7 (.t 18)), none⟩,
    ⟨(some 20), (.mv (.t 1)), none⟩,
    ⟨(some 21), (.mv (.t 5)), none⟩,
    ⟨(some 22), (.ix 7 (.t 20) (.t 21)), none⟩,
    ⟨(some 23), (.ldn 7 (.t 22)), none⟩,
    ⟨(some 24), (.eqv true (.struct [(0, .int), (1, .int), (2, .int), (3, .int), (4, .int), (5, .str), (6, .str)]) (.t 19) (.t 23)), none⟩] [])
  (.cond (.t 24) (.seq (.reg [
    ⟨(some 4), (.mv (.k (.bool false))), none⟩])
  .ret)
  .skip))))
  (.reg [
    ⟨(some 25), (.bin .add (.t 13) (.k (.int .i64 1))), none⟩,
    ⟨(some 13), (.mv (.t 25)), none⟩]))))
def veneerlaw08SameC1 : LC := .block 0 veneerlaw08SameC0
def veneerlaw08SameC2 : LC := .seq (.reg [
    ⟨(some 11), (.mv (.t 0)), none⟩,
    ⟨(some 12), (.len .slice (.t 11)), none⟩,
    ⟨(some 13), (.mv (.k (.int .i64 0))), none⟩]) veneerlaw08SameC1
def veneerlaw08SameC3 : LC := .seq veneerlaw08SameC2 (.seq (.reg [
    ⟨(some 4), (.mv (.k (.bool true))), none⟩])
  .ret)
def veneerlaw08SameC4 : LC := .seq (.seq (.reg [
    ⟨(some 6), (.mv (.t 0)), none⟩,
    ⟨(some 7), (.len .slice (.t 6)), none⟩,
    ⟨(some 8), (.mv (.t 1)), none⟩,
    ⟨(some 9), (.len .slice (.t 8)), none⟩,
    ⟨(some 10), (.bin .neq (.t 7) (.t 9)), none⟩])
  (.cond (.t 10) (.seq (.reg [
    ⟨(some 4), (.mv (.k (.bool false))), none⟩])
  .ret)
  .skip)) veneerlaw08SameC3
def veneerlaw08SameC5 : LC := .seq (.reg [
    ⟨(some 4), (.mv (.k (.bool false))), none⟩]) veneerlaw08SameC4
def veneerlaw08SameC0S (cal : FuncId → Bool) (φ : Oracle) (N : Nat) (gE0 : Heap → Option (IV × Heap)) : Nat → IV → IV → IV → IV → Heap → Option (IV × Heap)
  | 0, _, _, _, _, _ => none
  | n + 1, v0, v1, v12, v13, H =>
    ob (lbin .lss v13 v12) fun t1 =>
    cnd t1
    (ob (lix 7 v0 v13) fun t2 =>
    ob (lloadn H 7 t2) fun t3 =>
    ob (lix 7 v1 v13) fun t4 =>
    ob (lloadn H 7 t4) fun t5 =>
    ob (leqv true (leq (.struct [(0, .int), (1, .int), (2, .int), (3, .int), (4, .int), (5, .str), (6, .str)]) t3 t5)) fun t6 =>
    cnd t6
    (some ((.bool false), H))
    (ob (lbin .add v13 (.int .i64 1)) fun t7 =>
    veneerlaw08SameC0S cal φ N gE0 n v0 v1 v12 t7 H))
    (gE0 H)
theorem veneerlaw08SameC0Eq (cal : FuncId → Bool) (φ : Oracle) (N : Nat) {k : KT (IV × Heap)} (gE0 : Heap → Option (IV × Heap)) (hgE0 : ∀ σ H, k (.exit 0) σ H = gE0 H) (hR : ∀ σ H, k .ret σ H = resK [(.tmp 4)] [] σ H) : ∀ (n : Nat) (σ : Sg) (H : Heap), itK (lxK cal φ N (.seq (.reg [
    ⟨(some 14), (.bin .lss (.t 13) (.t 12)), none⟩])
  (.seq (.cond (.t 14) .skip
  (.exit 0))
  (.seq (.block 1 (.seq (.reg [
    ⟨(some 15), (.mv (.t 13)), none⟩,
    ⟨(some 5), (.mv (.t 15)), none⟩])
  (.seq (.drw [
    ⟨(some 16), (.mv (.t 0)), none⟩,
    ⟨(some 17), (.mv (.t 5)), none⟩,
    ⟨(some 18), (.ix 7 (.t 16) (.t 17)), none⟩,
    ⟨(some 19), (.ldn 7 (.t 18)), none⟩,
    ⟨(some 20), (.mv (.t 1)), none⟩,
    ⟨(some 21), (.mv (.t 5)), none⟩,
    ⟨(some 22), (.ix 7 (.t 20) (.t 21)), none⟩,
    ⟨(some 23), (.ldn 7 (.t 22)), none⟩,
    ⟨(some 24), (.eqv true (.struct [(0, .int), (1, .int), (2, .int), (3, .int), (4, .int), (5, .str), (6, .str)]) (.t 19) (.t 23)), none⟩] [])
  (.cond (.t 24) (.seq (.reg [
    ⟨(some 4), (.mv (.k (.bool false))), none⟩])
  .ret)
  .skip))))
  (.reg [
    ⟨(some 25), (.bin .add (.t 13) (.k (.int .i64 1))), none⟩,
    ⟨(some 13), (.mv (.t 25)), none⟩]))))) n σ H k = veneerlaw08SameC0S cal φ N gE0 n (lk σ 0) (lk σ 1) (lk σ 12) (lk σ 13) H := by
  have hk : k = (kE 0 (fun σ H => gE0 H) (kR (resK [(.tmp 4)] []) k)) := (kE_mk hgE0 (kR_mk hR rfl))
  intro n
  induction n with
  | zero => intro σ H; rfl
  | succ n ih =>
    intro σ H
    rw [itK_succ, seqK_mk (g := fun σ H => veneerlaw08SameC0S cal φ N gE0 n (lk σ 0) (lk σ 1) (lk σ 12) (lk σ 13) H) ih, hk]
    kernel_rfl
def veneerlaw08SameC1S (cal : FuncId → Bool) (φ : Oracle) (N : Nat) (gN : Heap → Option (IV × Heap)) (v0 v1 v12 v13 : IV) (H : Heap) : Option (IV × Heap) :=
    veneerlaw08SameC0S cal φ N (fun H => gN H) N v0 v1 v12 v13 H
theorem veneerlaw08SameC1Eq (cal : FuncId → Bool) (φ : Oracle) (N : Nat) {k : KT (IV × Heap)} (gN : Heap → Option (IV × Heap)) (hgN : ∀ σ H, k .normal σ H = gN H) (hR : ∀ σ H, k .ret σ H = resK [(.tmp 4)] [] σ H) : ∀ (σ : Sg) (H : Heap), lxK cal φ N veneerlaw08SameC1 σ H k = veneerlaw08SameC1S cal φ N gN (lk σ 0) (lk σ 1) (lk σ 12) (lk σ 13) H := by
  have hk : k = (kN (fun σ H => gN H) (kR (resK [(.tmp 4)] []) k)) := (kN_mk hgN (kR_mk hR rfl))
  intro σ H
  rw [hk]
  show lxK cal φ N veneerlaw08SameC0 σ H (blockK 0 (kN (fun σ H => gN H) (kR (resK [(.tmp 4)] []) k))) = _
  exact veneerlaw08SameC0Eq cal φ N (k := (blockK 0 (kN (fun σ H => gN H) (kR (resK [(.tmp 4)] []) k)))) (fun H => gN H) (fun _ _ => rfl) (fun _ _ => rfl) N σ H
def veneerlaw08SameC2S (cal : FuncId → Bool) (φ : Oracle) (N : Nat) (gN : Heap → Option (IV × Heap)) (v0 v1 : IV) (H : Heap) : Option (IV × Heap) :=
    ob (llen H .slice v0) fun t1 =>
    veneerlaw08SameC1S cal φ N (fun H => gN H) v0 v1 t1 (.int .i64 0) H
theorem veneerlaw08SameC2Eq (cal : FuncId → Bool) (φ : Oracle) (N : Nat) {k : KT (IV × Heap)} (gN : Heap → Option (IV × Heap)) (hgN : ∀ σ H, k .normal σ H = gN H) (hR : ∀ σ H, k .ret σ H = resK [(.tmp 4)] [] σ H) : ∀ (σ : Sg) (H : Heap), lxK cal φ N veneerlaw08SameC2 σ H k = veneerlaw08SameC2S cal φ N gN (lk σ 0) (lk σ 1) H := by
  have hk : k = (kN (fun σ H => gN H) (kR (resK [(.tmp 4)] []) k)) := (kN_mk hgN (kR_mk hR rfl))
  intro σ H
  rw [hk]
  show lxK cal φ N (.reg [
    ⟨(some 11), (.mv (.t 0)), none⟩,
    ⟨(some 12), (.len .slice (.t 11)), none⟩,
    ⟨(some 13), (.mv (.k (.int .i64 0))), none⟩]) σ H (seqK (lxK cal φ N veneerlaw08SameC1) (kN (fun σ H => gN H) (kR (resK [(.tmp 4)] []) k))) = _
  rw [seqK_mk (g := fun σ H => veneerlaw08SameC1S cal φ N (fun H => gN H) (lk σ 0) (lk σ 1) (lk σ 12) (lk σ 13) H) (veneerlaw08SameC1Eq cal φ N (k := (kN (fun σ H => gN H) (kR (resK [(.tmp 4)] []) k))) (fun H => gN H) (fun _ _ => rfl) (fun _ _ => rfl))]
  kernel_rfl
def veneerlaw08SameC3S (cal : FuncId → Bool) (φ : Oracle) (N : Nat) (v0 v1 : IV) (H : Heap) : Option (IV × Heap) :=
    veneerlaw08SameC2S cal φ N (fun H => some ((.bool true), H)) v0 v1 H
theorem veneerlaw08SameC3Eq (cal : FuncId → Bool) (φ : Oracle) (N : Nat) {k : KT (IV × Heap)} (hR : ∀ σ H, k .ret σ H = resK [(.tmp 4)] [] σ H) : ∀ (σ : Sg) (H : Heap), lxK cal φ N veneerlaw08SameC3 σ H k = veneerlaw08SameC3S cal φ N (lk σ 0) (lk σ 1) H := by
  have hk : k = (kR (resK [(.tmp 4)] []) k) := (kR_mk hR rfl)
  intro σ H
  rw [hk]
  show lxK cal φ N veneerlaw08SameC2 σ H (seqK (lxK cal φ N (.seq (.reg [
    ⟨(some 4), (.mv (.k (.bool true))), none⟩])
  .ret)) (kR (resK [(.tmp 4)] []) k)) = _
  exact veneerlaw08SameC2Eq cal φ N (k := (seqK (lxK cal φ N (.seq (.reg [
    ⟨(some 4), (.mv (.k (.bool true))), none⟩])
  .ret)) (kR (resK [(.tmp 4)] []) k))) (fun H => some ((.bool true), H)) (fun _ _ => rfl) (fun _ _ => rfl) σ H
def veneerlaw08SameC4S (cal : FuncId → Bool) (φ : Oracle) (N : Nat) (v0 v1 : IV) (H : Heap) : Option (IV × Heap) :=
    ob (llen H .slice v0) fun t1 =>
    ob (llen H .slice v1) fun t2 =>
    ob (lbin .neq t1 t2) fun t3 =>
    cnd t3
    (some ((.bool false), H))
    (veneerlaw08SameC3S cal φ N v0 v1 H)
theorem veneerlaw08SameC4Eq (cal : FuncId → Bool) (φ : Oracle) (N : Nat) {k : KT (IV × Heap)} (hR : ∀ σ H, k .ret σ H = resK [(.tmp 4)] [] σ H) : ∀ (σ : Sg) (H : Heap), lxK cal φ N veneerlaw08SameC4 σ H k = veneerlaw08SameC4S cal φ N (lk σ 0) (lk σ 1) H := by
  have hk : k = (kR (resK [(.tmp 4)] []) k) := (kR_mk hR rfl)
  intro σ H
  rw [hk]
  show lxK cal φ N (.seq (.reg [
    ⟨(some 6), (.mv (.t 0)), none⟩,
    ⟨(some 7), (.len .slice (.t 6)), none⟩,
    ⟨(some 8), (.mv (.t 1)), none⟩,
    ⟨(some 9), (.len .slice (.t 8)), none⟩,
    ⟨(some 10), (.bin .neq (.t 7) (.t 9)), none⟩])
  (.cond (.t 10) (.seq (.reg [
    ⟨(some 4), (.mv (.k (.bool false))), none⟩])
  .ret)
  .skip)) σ H (seqK (lxK cal φ N veneerlaw08SameC3) (kR (resK [(.tmp 4)] []) k)) = _
  rw [seqK_mk (g := fun σ H => veneerlaw08SameC3S cal φ N (lk σ 0) (lk σ 1) H) (veneerlaw08SameC3Eq cal φ N (k := (kR (resK [(.tmp 4)] []) k)) (fun _ _ => rfl))]
  kernel_rfl
def veneerlaw08SameC5S (cal : FuncId → Bool) (φ : Oracle) (N : Nat) (v0 v1 : IV) (H : Heap) : Option (IV × Heap) :=
    veneerlaw08SameC4S cal φ N v0 v1 H
theorem veneerlaw08SameC5Eq (cal : FuncId → Bool) (φ : Oracle) (N : Nat) {k : KT (IV × Heap)} (hR : ∀ σ H, k .ret σ H = resK [(.tmp 4)] [] σ H) : ∀ (σ : Sg) (H : Heap), lxK cal φ N veneerlaw08SameC5 σ H k = veneerlaw08SameC5S cal φ N (lk σ 0) (lk σ 1) H := by
  have hk : k = (kR (resK [(.tmp 4)] []) k) := (kR_mk hR rfl)
  intro σ H
  rw [hk]
  show lxK cal φ N (.reg [
    ⟨(some 4), (.mv (.k (.bool false))), none⟩]) σ H (seqK (lxK cal φ N veneerlaw08SameC4) (kR (resK [(.tmp 4)] []) k)) = _
  rw [seqK_mk (g := fun σ H => veneerlaw08SameC4S cal φ N (lk σ 0) (lk σ 1) H) (veneerlaw08SameC4Eq cal φ N (k := (kR (resK [(.tmp 4)] []) k)) (fun _ _ => rfl))]
  kernel_rfl
def veneerlaw08Same : LFun := ⟨veneerlaw08SameC5, [(.tmp 4)], 26⟩
def veneerlaw08SameS (cal : FuncId → Bool) (φ : Oracle) (N : Nat) (v0 v1 : IV) (H : Heap) : Option (IV × Heap) :=
    veneerlaw08SameC5S cal φ N v0 v1 H
theorem veneerlaw08SameEq (cal : FuncId → Bool) (φ : Oracle) (N : Nat) (v0 v1 : IV) (H : Heap) : lrunK cal φ N (veneerlaw08Same) [v0, v1] H = veneerlaw08SameS cal φ N v0 v1 H := by
  show lxK cal φ N veneerlaw08SameC5 (initFrom 0 [v0, v1]) H (endK [(.tmp 4)]) = _
  exact veneerlaw08SameC5Eq cal φ N (k := (endK [(.tmp 4)])) (fun _ _ => rfl) (initFrom 0 [v0, v1]) H

def callDecodeC0 (cCallDecode1 cCallDecode2 cCallDecode3 : FuncId) : LC := .loop (.seq (.seq (.reg [
    ⟨(some 11), (.ld1 (.t 1)), none⟩,
    ⟨(some 12), (.len .slice (.t 11)), none⟩,
    ⟨(some 13), (.bin .gtr (.t 12) (.k (.int .i64 0))), none⟩,
    ⟨(some 14), (.mv (.t 13)), none⟩,
    ⟨(some 15), (.mv (.t 6)), (some (14, true))⟩,
    ⟨(some 16), (.len .slice (.t 15)), (some (14, true))⟩,
    ⟨(some 17), (.bin .lss (.t 16) (.k (.int .i64 200))), (some (14, true))⟩,
    ⟨(some 18), (.pick (.t 14) (.t 17) (.k (.bool false))), none⟩])
  (.cond (.t 18) .skip
  (.exit 0)))
  (.block 1 (.seq (.reg [
    ⟨(some 7), (.zbox (.agg [(.int .i64 0), (.int .i64 0), (.int .i64 0), (.int .i64 0), (.int .i64 0), (.str []), (.str [])])), none⟩])
  (.seq (.reg [
    ⟨(some 19), (.ld1 (.t 3)), none⟩,
    ⟨(some 20), (.callV (.t 19) []), none⟩,
    ⟨(some 21), (.bin .rem (.t 20) (.k (.int .i64 20))), none⟩,
    ⟨(some 22), (.bin .add (.t 21) (.k (.int .i64 1))), none⟩,
    ⟨(some 23), (.off (.t 7) 0), none⟩,
    ⟨none, (.st 1 (.t 23) (.t 22)), none⟩])
  (.seq (.reg [
    ⟨(some 24), (.ld1 (.t 3)), none⟩,
    ⟨(some 25), (.callV (.t 24) []), none⟩,
    ⟨(some 26), (.bin .rem (.t 25) (.k (.int .i64 40))), none⟩,
    ⟨(some 27), (.bin .add (.t 26) (.k (.int .i64 (-4)))), none⟩,
    ⟨(some 28), (.off (.t 7) 1), none⟩,
    ⟨none, (.st 1 (.t 28) (.t 27)), none⟩])
  (.seq (.reg [
    ⟨(some 29), (.ld1 (.t 3)), none⟩,
    ⟨(some 30), (.callV (.t 29) []), none⟩,
    ⟨(some 31), (.bin .rem (.t 30) (.k (.int .i64 64))), none⟩,
    ⟨(some 32), (.off (.t 7) 2), none⟩,
    ⟨none, (.st 1 (.t 32) (.t 31)), none⟩])
  (.seq (.reg [
    ⟨(some 33), (.mv (.t 4)), none⟩,
    ⟨(some 34), (.callV (.t 33) []), none⟩,
    ⟨(some 35), (.off (.t 7) 3), none⟩,
    ⟨none, (.st 1 (.t 35) (.t 34)), none⟩])
  (.seq (.reg [
    ⟨(some 36), (.mv (.t 4)), none⟩,
    ⟨(some 37), (.callV (.t 36) []), none⟩,
    ⟨(some 38), (.off (.t 7) 4), none⟩,
    ⟨none, (.st 1 (.t 38) (.t 37)), none⟩])
  (.seq (.reg [
    ⟨(some 39), (.mv (.t 5)), none⟩,
    ⟨(some 40), (.callV (.t 39) []), none⟩,
    ⟨(some 41), (.off (.t 7) 5), none⟩,
    ⟨none, (.st 1 (.t 41) (.t 40)), none⟩])
  (.seq (.reg [
    ⟨(some 42), (.mv (.t 5)), none⟩,
    ⟨(some 43), (.callV (.t 42) []), none⟩,
    ⟨(some 44), (.off (.t 7) 6), none⟩,
    ⟨none, (.st 1 (.t 44) (.t 43)), none⟩])
  (.reg [
    ⟨(some 45), (.mv (.t 6)), none⟩,
    ⟨(some 46), (.ldn 7 (.t 7)), none⟩,
    ⟨(some 47), (.bldS 7 1 [(.int .i64 0), (.int .i64 0), (.int .i64 0), (.int .i64 0), (.int .i64 0), (.str []), (.str [])] [(0, (.t 46))]), none⟩,
    ⟨(some 48), (.app 7 72 (.t 45) (.t 47)), none⟩,
    ⟨(some 6), (.mv (.t 48)), none⟩])))))))))))
def callDecodeC1 (cCallDecode1 cCallDecode2 cCallDecode3 : FuncId) : LC := .block 0 (callDecodeC0 cCallDecode1 cCallDecode2 cCallDecode3)
def callDecodeC2 (cCallDecode1 cCallDecode2 cCallDecode3 : FuncId) : LC := .seq (callDecodeC1 cCallDecode1 cCallDecode2 cCallDecode3) (.seq (.reg [
    ⟨(some 49), (.mv (.t 6)), none⟩,
    ⟨(some 2), (.mv (.t 49)), none⟩])
  .ret)
def callDecodeC3 (cCallDecode1 cCallDecode2 cCallDecode3 : FuncId) : LC := .seq (.reg [
    ⟨(some 6), (.mv (.k .nilSlice)), none⟩]) (callDecodeC2 cCallDecode1 cCallDecode2 cCallDecode3)
def callDecodeC4 (cCallDecode1 cCallDecode2 cCallDecode3 : FuncId) : LC := .seq (.reg [
    ⟨(some 10), (.mkF (.func cCallDecode3) [] [(.t 3)]), none⟩,
    ⟨(some 5), (.mv (.t 10)), none⟩]) (callDecodeC3 cCallDecode1 cCallDecode2 cCallDecode3)
def callDecodeC5 (cCallDecode1 cCallDecode2 cCallDecode3 : FuncId) : LC := .seq (.reg [
    ⟨(some 9), (.mkF (.func cCallDecode2) [] [(.t 3)]), none⟩,
    ⟨(some 4), (.mv (.t 9)), none⟩]) (callDecodeC4 cCallDecode1 cCallDecode2 cCallDecode3)
def callDecodeC6 (cCallDecode1 cCallDecode2 cCallDecode3 : FuncId) : LC := .seq (.reg [
    ⟨(some 8), (.mkF (.func cCallDecode1) [] [(.t 1)]), none⟩,
    ⟨(some 3), (.zbox .nilFunc), none⟩,
    ⟨none, (.st 1 (.t 3) (.t 8)), none⟩]) (callDecodeC5 cCallDecode1 cCallDecode2 cCallDecode3)
def callDecodeC7 (cCallDecode1 cCallDecode2 cCallDecode3 : FuncId) : LC := .seq (.reg [
    ⟨(some 1), (.box (.t 0)), none⟩,
    ⟨(some 2), (.mv (.k .nilSlice)), none⟩]) (callDecodeC6 cCallDecode1 cCallDecode2 cCallDecode3)
def callDecodeC0S (cal : FuncId → Bool) (φ : Oracle) (N : Nat) (cCallDecode1 cCallDecode2 cCallDecode3 : FuncId) (gE0 : IV → Heap → Option (IV × Heap)) : Nat → IV → IV → IV → IV → IV → Heap → Option (IV × Heap)
  | 0, _, _, _, _, _, _ => none
  | n + 1, v1, v3, v4, v5, v6, H =>
    ob (lload1 H v1) fun t1 =>
    ob (llen H .slice t1) fun t2 =>
    ob (lbin .gtr t2 (.int .i64 0)) fun t3 =>
    ob (gq (isB t3 true) (some v6)) fun t4 =>
    ob (gq (isB t3 true) (llen H .slice t4)) fun t5 =>
    ob (gq (isB t3 true) (lbin .lss t5 (.int .i64 200))) fun t6 =>
    ob (lpick t3 t6 (.bool false)) fun t7 =>
    cnd t7
    (ob (lzbox H (.agg [(.int .i64 0), (.int .i64 0), (.int .i64 0), (.int .i64 0), (.int .i64 0), (.str []), (.str [])])) fun r8 =>
    ob (lload1 r8.2 v3) fun t9 =>
    ob (lcallV cal φ r8.2 t9 []) fun r10 =>
    ob (lbin .rem r10.1 (.int .i64 20)) fun t11 =>
    ob (lbin .add t11 (.int .i64 1)) fun t12 =>
    ob (loff r8.1 0) fun t13 =>
    ob (lstV r10.2 1 t13 t12) fun r14 =>
    ob (lload1 r14.2 v3) fun t15 =>
    ob (lcallV cal φ r14.2 t15 []) fun r16 =>
    ob (lbin .rem r16.1 (.int .i64 40)) fun t17 =>
    ob (lbin .add t17 (.int .i64 (-4))) fun t18 =>
    ob (loff r8.1 1) fun t19 =>
    ob (lstV r16.2 1 t19 t18) fun r20 =>
    ob (lload1 r20.2 v3) fun t21 =>
    ob (lcallV cal φ r20.2 t21 []) fun r22 =>
    ob (lbin .rem r22.1 (.int .i64 64)) fun t23 =>
    ob (loff r8.1 2) fun t24 =>
    ob (lstV r22.2 1 t24 t23) fun r25 =>
    ob (lcallV cal φ r25.2 v4 []) fun r26 =>
    ob (loff r8.1 3) fun t27 =>
    ob (lstV r26.2 1 t27 r26.1) fun r28 =>
    ob (lcallV cal φ r28.2 v4 []) fun r29 =>
    ob (loff r8.1 4) fun t30 =>
    ob (lstV r29.2 1 t30 r29.1) fun r31 =>
    ob (lcallV cal φ r31.2 v5 []) fun r32 =>
    ob (loff r8.1 5) fun t33 =>
    ob (lstV r32.2 1 t33 r32.1) fun r34 =>
    ob (lcallV cal φ r34.2 v5 []) fun r35 =>
    ob (loff r8.1 6) fun t36 =>
    ob (lstV r35.2 1 t36 r35.1) fun r37 =>
    ob (lloadn r37.2 7 r8.1) fun t38 =>
    ob (lbldS r37.2 7 1 [(.int .i64 0), (.int .i64 0), (.int .i64 0), (.int .i64 0), (.int .i64 0), (.str []), (.str [])] [(0, t38)]) fun r39 =>
    ob (lapp r39.2 7 72 v6 r39.1) fun r40 =>
    callDecodeC0S cal φ N cCallDecode1 cCallDecode2 cCallDecode3 gE0 n v1 v3 v4 v5 r40.1 r40.2)
    (gE0 v6 H)
theorem callDecodeC0Eq (cal : FuncId → Bool) (φ : Oracle) (N : Nat) (cCallDecode1 cCallDecode2 cCallDecode3 : FuncId) {k : KT (IV × Heap)} (gE0 : IV → Heap → Option (IV × Heap)) (hgE0 : ∀ σ H, k (.exit 0) σ H = gE0 (lk σ 6) H) : ∀ (n : Nat) (σ : Sg) (H : Heap), itK (lxK cal φ N (.seq (.seq (.reg [
    ⟨(some 11), (.ld1 (.t 1)), none⟩,
    ⟨(some 12), (.len .slice (.t 11)), none⟩,
    ⟨(some 13), (.bin .gtr (.t 12) (.k (.int .i64 0))), none⟩,
    ⟨(some 14), (.mv (.t 13)), none⟩,
    ⟨(some 15), (.mv (.t 6)), (some (14, true))⟩,
    ⟨(some 16), (.len .slice (.t 15)), (some (14, true))⟩,
    ⟨(some 17), (.bin .lss (.t 16) (.k (.int .i64 200))), (some (14, true))⟩,
    ⟨(some 18), (.pick (.t 14) (.t 17) (.k (.bool false))), none⟩])
  (.cond (.t 18) .skip
  (.exit 0)))
  (.block 1 (.seq (.reg [
    ⟨(some 7), (.zbox (.agg [(.int .i64 0), (.int .i64 0), (.int .i64 0), (.int .i64 0), (.int .i64 0), (.str []), (.str [])])), none⟩])
  (.seq (.reg [
    ⟨(some 19), (.ld1 (.t 3)), none⟩,
    ⟨(some 20), (.callV (.t 19) []), none⟩,
    ⟨(some 21), (.bin .rem (.t 20) (.k (.int .i64 20))), none⟩,
    ⟨(some 22), (.bin .add (.t 21) (.k (.int .i64 1))), none⟩,
    ⟨(some 23), (.off (.t 7) 0), none⟩,
    ⟨none, (.st 1 (.t 23) (.t 22)), none⟩])
  (.seq (.reg [
    ⟨(some 24), (.ld1 (.t 3)), none⟩,
    ⟨(some 25), (.callV (.t 24) []), none⟩,
    ⟨(some 26), (.bin .rem (.t 25) (.k (.int .i64 40))), none⟩,
    ⟨(some 27), (.bin .add (.t 26) (.k (.int .i64 (-4)))), none⟩,
    ⟨(some 28), (.off (.t 7) 1), none⟩,
    ⟨none, (.st 1 (.t 28) (.t 27)), none⟩])
  (.seq (.reg [
    ⟨(some 29), (.ld1 (.t 3)), none⟩,
    ⟨(some 30), (.callV (.t 29) []), none⟩,
    ⟨(some 31), (.bin .rem (.t 30) (.k (.int .i64 64))), none⟩,
    ⟨(some 32), (.off (.t 7) 2), none⟩,
    ⟨none, (.st 1 (.t 32) (.t 31)), none⟩])
  (.seq (.reg [
    ⟨(some 33), (.mv (.t 4)), none⟩,
    ⟨(some 34), (.callV (.t 33) []), none⟩,
    ⟨(some 35), (.off (.t 7) 3), none⟩,
    ⟨none, (.st 1 (.t 35) (.t 34)), none⟩])
  (.seq (.reg [
    ⟨(some 36), (.mv (.t 4)), none⟩,
    ⟨(some 37), (.callV (.t 36) []), none⟩,
    ⟨(some 38), (.off (.t 7) 4), none⟩,
    ⟨none, (.st 1 (.t 38) (.t 37)), none⟩])
  (.seq (.reg [
    ⟨(some 39), (.mv (.t 5)), none⟩,
    ⟨(some 40), (.callV (.t 39) []), none⟩,
    ⟨(some 41), (.off (.t 7) 5), none⟩,
    ⟨none, (.st 1 (.t 41) (.t 40)), none⟩])
  (.seq (.reg [
    ⟨(some 42), (.mv (.t 5)), none⟩,
    ⟨(some 43), (.callV (.t 42) []), none⟩,
    ⟨(some 44), (.off (.t 7) 6), none⟩,
    ⟨none, (.st 1 (.t 44) (.t 43)), none⟩])
  (.reg [
    ⟨(some 45), (.mv (.t 6)), none⟩,
    ⟨(some 46), (.ldn 7 (.t 7)), none⟩,
    ⟨(some 47), (.bldS 7 1 [(.int .i64 0), (.int .i64 0), (.int .i64 0), (.int .i64 0), (.int .i64 0), (.str []), (.str [])] [(0, (.t 46))]), none⟩,
    ⟨(some 48), (.app 7 72 (.t 45) (.t 47)), none⟩,
    ⟨(some 6), (.mv (.t 48)), none⟩])))))))))))) n σ H k = callDecodeC0S cal φ N cCallDecode1 cCallDecode2 cCallDecode3 gE0 n (lk σ 1) (lk σ 3) (lk σ 4) (lk σ 5) (lk σ 6) H := by
  have hk : k = (kE 0 (fun σ H => gE0 (lk σ 6) H) k) := (kE_mk hgE0 rfl)
  intro n
  induction n with
  | zero => intro σ H; rfl
  | succ n ih =>
    intro σ H
    rw [itK_succ, seqK_mk (g := fun σ H => callDecodeC0S cal φ N cCallDecode1 cCallDecode2 cCallDecode3 gE0 n (lk σ 1) (lk σ 3) (lk σ 4) (lk σ 5) (lk σ 6) H) ih, hk]
    kernel_rfl
def callDecodeC1S (cal : FuncId → Bool) (φ : Oracle) (N : Nat) (cCallDecode1 cCallDecode2 cCallDecode3 : FuncId) (gN : IV → Heap → Option (IV × Heap)) (v1 v3 v4 v5 v6 : IV) (H : Heap) : Option (IV × Heap) :=
    callDecodeC0S cal φ N cCallDecode1 cCallDecode2 cCallDecode3 (fun v6 H => gN v6 H) N v1 v3 v4 v5 v6 H
theorem callDecodeC1Eq (cal : FuncId → Bool) (φ : Oracle) (N : Nat) (cCallDecode1 cCallDecode2 cCallDecode3 : FuncId) {k : KT (IV × Heap)} (gN : IV → Heap → Option (IV × Heap)) (hgN : ∀ σ H, k .normal σ H = gN (lk σ 6) H) : ∀ (σ : Sg) (H : Heap), lxK cal φ N (callDecodeC1 cCallDecode1 cCallDecode2 cCallDecode3) σ H k = callDecodeC1S cal φ N cCallDecode1 cCallDecode2 cCallDecode3 gN (lk σ 1) (lk σ 3) (lk σ 4) (lk σ 5) (lk σ 6) H := by
  have hk : k = (kN (fun σ H => gN (lk σ 6) H) k) := (kN_mk hgN rfl)
  intro σ H
  rw [hk]
  show lxK cal φ N (callDecodeC0 cCallDecode1 cCallDecode2 cCallDecode3) σ H (blockK 0 (kN (fun σ H => gN (lk σ 6) H) k)) = _
  exact callDecodeC0Eq cal φ N cCallDecode1 cCallDecode2 cCallDecode3 (k := (blockK 0 (kN (fun σ H => gN (lk σ 6) H) k))) (fun v6 H => gN v6 H) (fun _ _ => rfl) N σ H
def callDecodeC2S (cal : FuncId → Bool) (φ : Oracle) (N : Nat) (cCallDecode1 cCallDecode2 cCallDecode3 : FuncId) (v1 v3 v4 v5 v6 : IV) (H : Heap) : Option (IV × Heap) :=
    callDecodeC1S cal φ N cCallDecode1 cCallDecode2 cCallDecode3 (fun v6 H => some (v6, H)) v1 v3 v4 v5 v6 H
theorem callDecodeC2Eq (cal : FuncId → Bool) (φ : Oracle) (N : Nat) (cCallDecode1 cCallDecode2 cCallDecode3 : FuncId) {k : KT (IV × Heap)} (hR : ∀ σ H, k .ret σ H = resK [(.tmp 2)] [] σ H) : ∀ (σ : Sg) (H : Heap), lxK cal φ N (callDecodeC2 cCallDecode1 cCallDecode2 cCallDecode3) σ H k = callDecodeC2S cal φ N cCallDecode1 cCallDecode2 cCallDecode3 (lk σ 1) (lk σ 3) (lk σ 4) (lk σ 5) (lk σ 6) H := by
  have hk : k = (kR (resK [(.tmp 2)] []) k) := (kR_mk hR rfl)
  intro σ H
  rw [hk]
  show lxK cal φ N (callDecodeC1 cCallDecode1 cCallDecode2 cCallDecode3) σ H (seqK (lxK cal φ N (.seq (.reg [
    ⟨(some 49), (.mv (.t 6)), none⟩,
    ⟨(some 2), (.mv (.t 49)), none⟩])
  .ret)) (kR (resK [(.tmp 2)] []) k)) = _
  exact callDecodeC1Eq cal φ N cCallDecode1 cCallDecode2 cCallDecode3 (k := (seqK (lxK cal φ N (.seq (.reg [
    ⟨(some 49), (.mv (.t 6)), none⟩,
    ⟨(some 2), (.mv (.t 49)), none⟩])
  .ret)) (kR (resK [(.tmp 2)] []) k))) (fun v6 H => some (v6, H)) (fun _ _ => rfl) σ H
def callDecodeC3S (cal : FuncId → Bool) (φ : Oracle) (N : Nat) (cCallDecode1 cCallDecode2 cCallDecode3 : FuncId) (v1 v3 v4 v5 : IV) (H : Heap) : Option (IV × Heap) :=
    callDecodeC2S cal φ N cCallDecode1 cCallDecode2 cCallDecode3 v1 v3 v4 v5 .nilSlice H
theorem callDecodeC3Eq (cal : FuncId → Bool) (φ : Oracle) (N : Nat) (cCallDecode1 cCallDecode2 cCallDecode3 : FuncId) {k : KT (IV × Heap)} (hR : ∀ σ H, k .ret σ H = resK [(.tmp 2)] [] σ H) : ∀ (σ : Sg) (H : Heap), lxK cal φ N (callDecodeC3 cCallDecode1 cCallDecode2 cCallDecode3) σ H k = callDecodeC3S cal φ N cCallDecode1 cCallDecode2 cCallDecode3 (lk σ 1) (lk σ 3) (lk σ 4) (lk σ 5) H := by
  have hk : k = (kR (resK [(.tmp 2)] []) k) := (kR_mk hR rfl)
  intro σ H
  rw [hk]
  show lxK cal φ N (.reg [
    ⟨(some 6), (.mv (.k .nilSlice)), none⟩]) σ H (seqK (lxK cal φ N (callDecodeC2 cCallDecode1 cCallDecode2 cCallDecode3)) (kR (resK [(.tmp 2)] []) k)) = _
  rw [seqK_mk (g := fun σ H => callDecodeC2S cal φ N cCallDecode1 cCallDecode2 cCallDecode3 (lk σ 1) (lk σ 3) (lk σ 4) (lk σ 5) (lk σ 6) H) (callDecodeC2Eq cal φ N cCallDecode1 cCallDecode2 cCallDecode3 (k := (kR (resK [(.tmp 2)] []) k)) (fun _ _ => rfl))]
  kernel_rfl
def callDecodeC4S (cal : FuncId → Bool) (φ : Oracle) (N : Nat) (cCallDecode1 cCallDecode2 cCallDecode3 : FuncId) (v1 v3 v4 : IV) (H : Heap) : Option (IV × Heap) :=
    ob (some (.func (.func cCallDecode3) [] [v3])) fun t1 =>
    callDecodeC3S cal φ N cCallDecode1 cCallDecode2 cCallDecode3 v1 v3 v4 t1 H
theorem callDecodeC4Eq (cal : FuncId → Bool) (φ : Oracle) (N : Nat) (cCallDecode1 cCallDecode2 cCallDecode3 : FuncId) {k : KT (IV × Heap)} (hR : ∀ σ H, k .ret σ H = resK [(.tmp 2)] [] σ H) : ∀ (σ : Sg) (H : Heap), lxK cal φ N (callDecodeC4 cCallDecode1 cCallDecode2 cCallDecode3) σ H k = callDecodeC4S cal φ N cCallDecode1 cCallDecode2 cCallDecode3 (lk σ 1) (lk σ 3) (lk σ 4) H := by
  have hk : k = (kR (resK [(.tmp 2)] []) k) := (kR_mk hR rfl)
  intro σ H
  rw [hk]
  show lxK cal φ N (.reg [
    ⟨(some 10), (.mkF (.func cCallDecode3) [] [(.t 3)]), none⟩,
    ⟨(some 5), (.mv (.t 10)), none⟩]) σ H (seqK (lxK cal φ N (callDecodeC3 cCallDecode1 cCallDecode2 cCallDecode3)) (kR (resK [(.tmp 2)] []) k)) = _
  rw [seqK_mk (g := fun σ H => callDecodeC3S cal φ N cCallDecode1 cCallDecode2 cCallDecode3 (lk σ 1) (lk σ 3) (lk σ 4) (lk σ 5) H) (callDecodeC3Eq cal φ N cCallDecode1 cCallDecode2 cCallDecode3 (k := (kR (resK [(.tmp 2)] []) k)) (fun _ _ => rfl))]
  kernel_rfl
def callDecodeC5S (cal : FuncId → Bool) (φ : Oracle) (N : Nat) (cCallDecode1 cCallDecode2 cCallDecode3 : FuncId) (v1 v3 : IV) (H : Heap) : Option (IV × Heap) :=
    ob (some (.func (.func cCallDecode2) [] [v3])) fun t1 =>
    callDecodeC4S cal φ N cCallDecode1 cCallDecode2 cCallDecode3 v1 v3 t1 H
theorem callDecodeC5Eq (cal : FuncId → Bool) (φ : Oracle) (N : Nat) (cCallDecode1 cCallDecode2 cCallDecode3 : FuncId) {k : KT (IV × Heap)} (hR : ∀ σ H, k .ret σ H = resK [(.tmp 2)] [] σ H) : ∀ (σ : Sg) (H : Heap), lxK cal φ N (callDecodeC5 cCallDecode1 cCallDecode2 cCallDecode3) σ H k = callDecodeC5S cal φ N cCallDecode1 cCallDecode2 cCallDecode3 (lk σ 1) (lk σ 3) H := by
  have hk : k = (kR (resK [(.tmp 2)] []) k) := (kR_mk hR rfl)
  intro σ H
  rw [hk]
  show lxK cal φ N (.reg [
    ⟨(some 9), (.mkF (.func cCallDecode2) [] [(.t 3)]), none⟩,
    ⟨(some 4), (.mv (.t 9)), none⟩]) σ H (seqK (lxK cal φ N (callDecodeC4 cCallDecode1 cCallDecode2 cCallDecode3)) (kR (resK [(.tmp 2)] []) k)) = _
  rw [seqK_mk (g := fun σ H => callDecodeC4S cal φ N cCallDecode1 cCallDecode2 cCallDecode3 (lk σ 1) (lk σ 3) (lk σ 4) H) (callDecodeC4Eq cal φ N cCallDecode1 cCallDecode2 cCallDecode3 (k := (kR (resK [(.tmp 2)] []) k)) (fun _ _ => rfl))]
  kernel_rfl
def callDecodeC6S (cal : FuncId → Bool) (φ : Oracle) (N : Nat) (cCallDecode1 cCallDecode2 cCallDecode3 : FuncId) (v1 : IV) (H : Heap) : Option (IV × Heap) :=
    ob (some (.func (.func cCallDecode1) [] [v1])) fun t1 =>
    ob (lzbox H .nilFunc) fun r2 =>
    ob (lstV r2.2 1 r2.1 t1) fun r3 =>
    callDecodeC5S cal φ N cCallDecode1 cCallDecode2 cCallDecode3 v1 r2.1 r3.2
theorem callDecodeC6Eq (cal : FuncId → Bool) (φ : Oracle) (N : Nat) (cCallDecode1 cCallDecode2 cCallDecode3 : FuncId) {k : KT (IV × Heap)} (hR : ∀ σ H, k .ret σ H = resK [(.tmp 2)] [] σ H) : ∀ (σ : Sg) (H : Heap), lxK cal φ N (callDecodeC6 cCallDecode1 cCallDecode2 cCallDecode3) σ H k = callDecodeC6S cal φ N cCallDecode1 cCallDecode2 cCallDecode3 (lk σ 1) H := by
  have hk : k = (kR (resK [(.tmp 2)] []) k) := (kR_mk hR rfl)
  intro σ H
  rw [hk]
  show lxK cal φ N (.reg [
    ⟨(some 8), (.mkF (.func cCallDecode1) [] [(.t 1)]), none⟩,
    ⟨(some 3), (.zbox .nilFunc), none⟩,
    ⟨none, (.st 1 (.t 3) (.t 8)), none⟩]) σ H (seqK (lxK cal φ N (callDecodeC5 cCallDecode1 cCallDecode2 cCallDecode3)) (kR (resK [(.tmp 2)] []) k)) = _
  rw [seqK_mk (g := fun σ H => callDecodeC5S cal φ N cCallDecode1 cCallDecode2 cCallDecode3 (lk σ 1) (lk σ 3) H) (callDecodeC5Eq cal φ N cCallDecode1 cCallDecode2 cCallDecode3 (k := (kR (resK [(.tmp 2)] []) k)) (fun _ _ => rfl))]
  kernel_rfl
def callDecodeC7S (cal : FuncId → Bool) (φ : Oracle) (N : Nat) (cCallDecode1 cCallDecode2 cCallDecode3 : FuncId) (v0 : IV) (H : Heap) : Option (IV × Heap) :=
    ob (lbox H v0) fun r1 =>
    callDecodeC6S cal φ N cCallDecode1 cCallDecode2 cCallDecode3 r1.1 r1.2
theorem callDecodeC7Eq (cal : FuncId → Bool) (φ : Oracle) (N : Nat) (cCallDecode1 cCallDecode2 cCallDecode3 : FuncId) {k : KT (IV × Heap)} (hR : ∀ σ H, k .ret σ H = resK [(.tmp 2)] [] σ H) : ∀ (σ : Sg) (H : Heap), lxK cal φ N (callDecodeC7 cCallDecode1 cCallDecode2 cCallDecode3) σ H k = callDecodeC7S cal φ N cCallDecode1 cCallDecode2 cCallDecode3 (lk σ 0) H := by
  have hk : k = (kR (resK [(.tmp 2)] []) k) := (kR_mk hR rfl)
  intro σ H
  rw [hk]
  show lxK cal φ N (.reg [
    ⟨(some 1), (.box (.t 0)), none⟩,
    ⟨(some 2), (.mv (.k .nilSlice)), none⟩]) σ H (seqK (lxK cal φ N (callDecodeC6 cCallDecode1 cCallDecode2 cCallDecode3)) (kR (resK [(.tmp 2)] []) k)) = _
  rw [seqK_mk (g := fun σ H => callDecodeC6S cal φ N cCallDecode1 cCallDecode2 cCallDecode3 (lk σ 1) H) (callDecodeC6Eq cal φ N cCallDecode1 cCallDecode2 cCallDecode3 (k := (kR (resK [(.tmp 2)] []) k)) (fun _ _ => rfl))]
  kernel_rfl
def callDecode (cCallDecode1 cCallDecode2 cCallDecode3 : FuncId) : LFun := ⟨(callDecodeC7 cCallDecode1 cCallDecode2 cCallDecode3), [(.tmp 2)], 50⟩
def callDecodeS (cal : FuncId → Bool) (φ : Oracle) (N : Nat) (cCallDecode1 cCallDecode2 cCallDecode3 : FuncId) (v0 : IV) (H : Heap) : Option (IV × Heap) :=
    callDecodeC7S cal φ N cCallDecode1 cCallDecode2 cCallDecode3 v0 H
theorem callDecodeEq (cal : FuncId → Bool) (φ : Oracle) (N : Nat) (cCallDecode1 cCallDecode2 cCallDecode3 : FuncId) (v0 : IV) (H : Heap) : lrunK cal φ N (callDecode cCallDecode1 cCallDecode2 cCallDecode3) [v0] H = callDecodeS cal φ N cCallDecode1 cCallDecode2 cCallDecode3 v0 H := by
  show lxK cal φ N (callDecodeC7 cCallDecode1 cCallDecode2 cCallDecode3) (initFrom 0 [v0]) H (endK [(.tmp 2)]) = _
  exact callDecodeC7Eq cal φ N cCallDecode1 cCallDecode2 cCallDecode3 (k := (endK [(.tmp 2)])) (fun _ _ => rfl) (initFrom 0 [v0]) H

def callDecode1 : LFun := ⟨(.seq (.reg [
    ⟨(some 1), (.mv (.k (.int .i64 0))), none⟩])
  (.seq (.seq (.reg [
    ⟨(some 3), (.ld1 (.t 0)), none⟩,
    ⟨(some 4), (.len .slice (.t 3)), none⟩,
    ⟨(some 5), (.bin .eql (.t 4) (.k (.int .i64 0))), none⟩])
  (.cond (.t 5) (.seq (.reg [
    ⟨(some 1), (.mv (.k (.int .i64 0))), none⟩])
  .ret)
  .skip))
  (.seq (.reg [
    ⟨(some 6), (.ld1 (.t 0)), none⟩,
    ⟨(some 7), (.ix 1 (.t 6) (.k (.int .i64 0))), none⟩,
    ⟨(some 8), (.ld1 (.t 7)), none⟩,
    ⟨(some 2), (.mv (.t 8)), none⟩])
  (.seq (.reg [
    ⟨(some 9), (.ld1 (.t 0)), none⟩,
    ⟨(some 10), (.slc (.slice 1) (.t 9) (some (.k (.int .i64 1))) none none), none⟩,
    ⟨none, (.st 1 (.t 0) (.t 10)), none⟩])
  (.seq (.reg [
    ⟨(some 11), (.mv (.t 2)), none⟩,
    ⟨(some 12), (.cvt .i64 (.t 11)), none⟩,
    ⟨(some 1), (.mv (.t 12)), none⟩])
  .ret))))), [(.tmp 1)], 13⟩
def callDecode1S (cal : FuncId → Bool) (φ : Oracle) (N : Nat) (v0 : IV) (H : Heap) : Option (IV × Heap) :=
    ob (lload1 H v0) fun t1 =>
    ob (llen H .slice t1) fun t2 =>
    ob (lbin .eql t2 (.int .i64 0)) fun t3 =>
    cnd t3
    (some ((.int .i64 0), H))
    (ob (lload1 H v0) fun t4 =>
    ob (lix 1 t4 (.int .i64 0)) fun t5 =>
    ob (lload1 H t5) fun t6 =>
    ob (lload1 H v0) fun t7 =>
    ob (lslice H (.slice 1) t7 (some (.int .i64 1)) none none) fun t8 =>
    ob (lstV H 1 v0 t8) fun r9 =>
    ob (lcvt .i64 t6) fun t10 =>
    some (t10, r9.2))
theorem callDecode1Eq (cal : FuncId → Bool) (φ : Oracle) (N : Nat) (v0 : IV) (H : Heap) : lrunK cal φ N (callDecode1) [v0] H = callDecode1S cal φ N v0 H := by
  kernel_rfl

def callDecode2 : LFun := ⟨(.seq (.reg [
    ⟨(some 1), (.mv (.k (.int .i64 0))), none⟩])
  (.seq (.reg [
    ⟨(some 3), (.ld1 (.t 0)), none⟩,
    ⟨(some 4), (.callV (.t 3) []), none⟩,
    ⟨(some 2), (.mv (.t 4)), none⟩])
  (.seq (.reg [
    ⟨(some 5), (.mv (.t 2)), none⟩,
    ⟨(some 6), (.bin .shl (.t 5) (.k (.int .u64 8))), none⟩,
    ⟨(some 7), (.ld1 (.t 0)), none⟩,
    ⟨(some 8), (.callV (.t 7) []), none⟩,
    ⟨(some 9), (.bin .add (.t 6) (.t 8)), none⟩,
    ⟨(some 10), (.bin .add (.t 9) (.k (.int .i64 (-256)))), none⟩,
    ⟨(some 1), (.mv (.t 10)), none⟩])
  .ret))), [(.tmp 1)], 11⟩
def callDecode2S (cal : FuncId → Bool) (φ : Oracle) (N : Nat) (v0 : IV) (H : Heap) : Option (IV × Heap) :=
    ob (lload1 H v0) fun t1 =>
    ob (lcallV cal φ H t1 []) fun r2 =>
    ob (lbin .shl r2.1 (.int .u64 8)) fun t3 =>
    ob (lload1 r2.2 v0) fun t4 =>
    ob (lcallV cal φ r2.2 t4 []) fun r5 =>
    ob (lbin .add t3 r5.1) fun t6 =>
    ob (lbin .add t6 (.int .i64 (-256))) fun t7 =>
    some (t7, r5.2)
theorem callDecode2Eq (cal : FuncId → Bool) (φ : Oracle) (N : Nat) (v0 : IV) (H : Heap) : lrunK cal φ N (callDecode2) [v0] H = callDecode2S cal φ N v0 H := by
  kernel_rfl

def callDecode3C0 : LC := .loop (.seq (.seq (.reg [
    ⟨(some 7), (.mv (.t 3)), none⟩,
    ⟨(some 8), (.bin .gtr (.t 7) (.k (.int .i64 0))), none⟩])
  (.cond (.t 8) .skip
  (.exit 0)))
  (.seq (.block 1 (.reg [
    ⟨(some 11), (.mv (.t 2)), none⟩,
    ⟨(some 12), (.ld1 (.t 0)), none⟩,
    ⟨(some 13), (.callV (.t 12) []), none⟩,
    ⟨(some 14), (.cvt .u8 (.t 13)), none⟩,
    ⟨(some 15), (.bldS 1 1 [(.int .u8 0)] [(0, (.t 14))]), none⟩,
    ⟨(some 16), (.app 1 1 (.t 11) (.t 15)), none⟩,
    ⟨(some 2), (.mv (.t 16)), none⟩]))
  (.reg [
    ⟨(some 9), (.mv (.t 3)), none⟩,
    ⟨(some 10), (.bin .sub (.t 9) (.k (.int .i64 1))), none⟩,
    ⟨(some 3), (.mv (.t 10)), none⟩])))
def callDecode3C1 : LC := .block 0 callDecode3C0
def callDecode3C2 : LC := .seq (.reg [
    ⟨(some 4), (.ld1 (.t 0)), none⟩,
    ⟨(some 5), (.callV (.t 4) []), none⟩,
    ⟨(some 6), (.bin .rem (.t 5) (.k (.int .i64 64))), none⟩,
    ⟨(some 3), (.mv (.t 6)), none⟩]) callDecode3C1
def callDecode3C3 : LC := .seq callDecode3C2 (.seq (.reg [
    ⟨(some 17), (.mv (.t 2)), none⟩,
    ⟨(some 18), (.b2s (.t 17)), none⟩,
    ⟨(some 1), (.mv (.t 18)), none⟩])
  .ret)
def callDecode3C4 : LC := .seq (.reg [
    ⟨(some 2), (.mv (.k .nilSlice)), none⟩]) callDecode3C3
def callDecode3C5 : LC := .seq (.reg [
    ⟨(some 1), (.mv (.k (.str []))), none⟩]) callDecode3C4
def callDecode3C0S (cal : FuncId → Bool) (φ : Oracle) (N : Nat) (gE0 : IV → Heap → Option (IV × Heap)) : Nat → IV → IV → IV → Heap → Option (IV × Heap)
  | 0, _, _, _, _ => none
  | n + 1, v0, v2, v3, H =>
    ob (lbin .gtr v3 (.int .i64 0)) fun t1 =>
    cnd t1
    (ob (lload1 H v0) fun t2 =>
    ob (lcallV cal φ H t2 []) fun r3 =>
    ob (lcvt .u8 r3.1) fun t4 =>
    ob (lbldS r3.2 1 1 [(.int .u8 0)] [(0, t4)]) fun r5 =>
    ob (lapp r5.2 1 1 v2 r5.1) fun r6 =>
    ob (lbin .sub v3 (.int .i64 1)) fun t7 =>
    callDecode3C0S cal φ N gE0 n v0 r6.1 t7 r6.2)
    (gE0 v2 H)
theorem callDecode3C0Eq (cal : FuncId → Bool) (φ : Oracle) (N : Nat) {k : KT (IV × Heap)} (gE0 : IV → Heap → Option (IV × Heap)) (hgE0 : ∀ σ H, k (.exit 0) σ H = gE0 (lk σ 2) H) : ∀ (n : Nat) (σ : Sg) (H : Heap), itK (lxK cal φ N (.seq (.seq (.reg [
    ⟨(some 7), (.mv (.t 3)), none⟩,
    ⟨(some 8), (.bin .gtr (.t 7) (.k (.int .i64 0))), none⟩])
  (.cond (.t 8) .skip
  (.exit 0)))
  (.seq (.block 1 (.reg [
    ⟨(some 11), (.mv (.t 2)), none⟩,
    ⟨(some 12), (.ld1 (.t 0)), none⟩,
    ⟨(some 13), (.callV (.t 12) []), none⟩,
    ⟨(some 14), (.cvt .u8 (.t 13)), none⟩,
    ⟨(some 15), (.bldS 1 1 [(.int .u8 0)] [(0, (.t 14))]), none⟩,
    ⟨(some 16), (.app 1 1 (.t 11) (.t 15)), none⟩,
    ⟨(some 2), (.mv (.t 16)), none⟩]))
  (.reg [
    ⟨(some 9), (.mv (.t 3)), none⟩,
    ⟨(some 10), (.bin .sub (.t 9) (.k (.int .i64 1))), none⟩,
    ⟨(some 3), (.mv (.t 10)), none⟩])))) n σ H k = callDecode3C0S cal φ N gE0 n (lk σ 0) (lk σ 2) (lk σ 3) H := by
  have hk : k = (kE 0 (fun σ H => gE0 (lk σ 2) H) k) := (kE_mk hgE0 rfl)
  intro n
  induction n with
  | zero => intro σ H; rfl
  | succ n ih =>
    intro σ H
    rw [itK_succ, seqK_mk (g := fun σ H => callDecode3C0S cal φ N gE0 n (lk σ 0) (lk σ 2) (lk σ 3) H) ih, hk]
    kernel_rfl
def callDecode3C1S (cal : FuncId → Bool) (φ : Oracle) (N : Nat) (gN : IV → Heap → Option (IV × Heap)) (v0 v2 v3 : IV) (H : Heap) : Option (IV × Heap) :=
    callDecode3C0S cal φ N (fun v2 H => gN v2 H) N v0 v2 v3 H
theorem callDecode3C1Eq (cal : FuncId → Bool) (φ : Oracle) (N : Nat) {k : KT (IV × Heap)} (gN : IV → Heap → Option (IV × Heap)) (hgN : ∀ σ H, k .normal σ H = gN (lk σ 2) H) : ∀ (σ : Sg) (H : Heap), lxK cal φ N callDecode3C1 σ H k = callDecode3C1S cal φ N gN (lk σ 0) (lk σ 2) (lk σ 3) H := by
  have hk : k = (kN (fun σ H => gN (lk σ 2) H) k) := (kN_mk hgN rfl)
  intro σ H
  rw [hk]
  show lxK cal φ N callDecode3C0 σ H (blockK 0 (kN (fun σ H => gN (lk σ 2) H) k)) = _
  exact callDecode3C0Eq cal φ N (k := (blockK 0 (kN (fun σ H => gN (lk σ 2) H) k))) (fun v2 H => gN v2 H) (fun _ _ => rfl) N σ H
def callDecode3C2S (cal : FuncId → Bool) (φ : Oracle) (N : Nat) (gN : IV → Heap → Option (IV × Heap)) (v0 v2 : IV) (H : Heap) : Option (IV × Heap) :=
    ob (lload1 H v0) fun t1 =>
    ob (lcallV cal φ H t1 []) fun r2 =>
    ob (lbin .rem r2.1 (.int .i64 64)) fun t3 =>
    callDecode3C1S cal φ N (fun v2 H => gN v2 H) v0 v2 t3 r2.2
theorem callDecode3C2Eq (cal : FuncId → Bool) (φ : Oracle) (N : Nat) {k : KT (IV × Heap)} (gN : IV → Heap → Option (IV × Heap)) (hgN : ∀ σ H, k .normal σ H = gN (lk σ 2) H) : ∀ (σ : Sg) (H : Heap), lxK cal φ N callDecode3C2 σ H k = callDecode3C2S cal φ N gN (lk σ 0) (lk σ 2) H := by
  have hk : k = (kN (fun σ H => gN (lk σ 2) H) k) := (kN_mk hgN rfl)
  intro σ H
  rw [hk]
  show lxK cal φ N (.reg [
    ⟨(some 4), (.ld1 (.t 0)), none⟩,
    ⟨(some 5), (.callV (.t 4) []), none⟩,
    ⟨(some 6), (.bin .rem (.t 5) (.k (.int .i64 64))), none⟩,
    ⟨(some 3), (.mv (.t 6)), none⟩]) σ H (seqK (lxK cal φ N callDecode3C1) (kN (fun σ H => gN (lk σ 2) H) k)) = _
  rw [seqK_mk (g := fun σ H => callDecode3C1S cal φ N (fun v2 H => gN v2 H) (lk σ 0) (lk σ 2) (lk σ 3) H) (callDecode3C1Eq cal φ N (k := (kN (fun σ H => gN (lk σ 2) H) k)) (fun v2 H => gN v2 H) (fun _ _ => rfl))]
  kernel_rfl
def callDecode3C3S (cal : FuncId → Bool) (φ : Oracle) (N : Nat) (v0 v2 : IV) (H : Heap) : Option (IV × Heap) :=
    callDecode3C2S cal φ N (fun v2 H => ob (lb2s H v2) fun t1 =>
    some (t1, H)) v0 v2 H
theorem callDecode3C3Eq (cal : FuncId → Bool) (φ : Oracle) (N : Nat) {k : KT (IV × Heap)} (hR : ∀ σ H, k .ret σ H = resK [(.tmp 1)] [] σ H) : ∀ (σ : Sg) (H : Heap), lxK cal φ N callDecode3C3 σ H k = callDecode3C3S cal φ N (lk σ 0) (lk σ 2) H := by
  have hk : k = (kR (resK [(.tmp 1)] []) k) := (kR_mk hR rfl)
  intro σ H
  rw [hk]
  show lxK cal φ N callDecode3C2 σ H (seqK (lxK cal φ N (.seq (.reg [
    ⟨(some 17), (.mv (.t 2)), none⟩,
    ⟨(some 18), (.b2s (.t 17)), none⟩,
    ⟨(some 1), (.mv (.t 18)), none⟩])
  .ret)) (kR (resK [(.tmp 1)] []) k)) = _
  exact callDecode3C2Eq cal φ N (k := (seqK (lxK cal φ N (.seq (.reg [
    ⟨(some 17), (.mv (.t 2)), none⟩,
    ⟨(some 18), (.b2s (.t 17)), none⟩,
    ⟨(some 1), (.mv (.t 18)), none⟩])
  .ret)) (kR (resK [(.tmp 1)] []) k))) (fun v2 H => ob (lb2s H v2) fun t1 =>
some (t1, H)) (fun _ _ => rfl) σ H
def callDecode3C4S (cal : FuncId → Bool) (φ : Oracle) (N : Nat) (v0 : IV) (H : Heap) : Option (IV × Heap) :=
    callDecode3C3S cal φ N v0 .nilSlice H
theorem callDecode3C4Eq (cal : FuncId → Bool) (φ : Oracle) (N : Nat) {k : KT (IV × Heap)} (hR : ∀ σ H, k .ret σ H = resK [(.tmp 1)] [] σ H) : ∀ (σ : Sg) (H : Heap), lxK cal φ N callDecode3C4 σ H k = callDecode3C4S cal φ N (lk σ 0) H := by
  have hk : k = (kR (resK [(.tmp 1)] []) k) := (kR_mk hR rfl)
  intro σ H
  rw [hk]
  show lxK cal φ N (.reg [
    ⟨(some 2), (.mv (.k .nilSlice)), none⟩]) σ H (seqK (lxK cal φ N callDecode3C3) (kR (resK [(.tmp 1)] []) k)) = _
  rw [seqK_mk (g := fun σ H => callDecode3C3S cal φ N (lk σ 0) (lk σ 2) H) (callDecode3C3Eq cal φ N (k := (kR (resK [(.tmp 1)] []) k)) (fun _ _ => rfl))]
  kernel_rfl
def callDecode3C5S (cal : FuncId → Bool) (φ : Oracle) (N : Nat) (v0 : IV) (H : Heap) : Option (IV × Heap) :=
    callDecode3C4S cal φ N v0 H
theorem callDecode3C5Eq (cal : FuncId → Bool) (φ : Oracle) (N : Nat) {k : KT (IV × Heap)} (hR : ∀ σ H, k .ret σ H = resK [(.tmp 1)] [] σ H) : ∀ (σ : Sg) (H : Heap), lxK cal φ N callDecode3C5 σ H k = callDecode3C5S cal φ N (lk σ 0) H := by
  have hk : k = (kR (resK [(.tmp 1)] []) k) := (kR_mk hR rfl)
  intro σ H
  rw [hk]
  show lxK cal φ N (.reg [
    ⟨(some 1), (.mv (.k (.str []))), none⟩]) σ H (seqK (lxK cal φ N callDecode3C4) (kR (resK [(.tmp 1)] []) k)) = _
  rw [seqK_mk (g := fun σ H => callDecode3C4S cal φ N (lk σ 0) H) (callDecode3C4Eq cal φ N (k := (kR (resK [(.tmp 1)] []) k)) (fun _ _ => rfl))]
  kernel_rfl
def callDecode3 : LFun := ⟨callDecode3C5, [(.tmp 1)], 19⟩
def callDecode3S (cal : FuncId → Bool) (φ : Oracle) (N : Nat) (v0 : IV) (H : Heap) : Option (IV × Heap) :=
    callDecode3C5S cal φ N v0 H
theorem callDecode3Eq (cal : FuncId → Bool) (φ : Oracle) (N : Nat) (v0 : IV) (H : Heap) : lrunK cal φ N (callDecode3) [v0] H = callDecode3S cal φ N v0 H := by
  show lxK cal φ N callDecode3C5 (initFrom 0 [v0]) H (endK [(.tmp 1)]) = _
  exact callDecode3C5Eq cal φ N (k := (endK [(.tmp 1)])) (fun _ _ => rfl) (initFrom 0 [v0]) H

def veneerref08At : LFun := ⟨(.seq (.reg [
    ⟨(some 4), (.mv (.k (.int .i64 0))), none⟩])
  (.seq (.seq (.reg [
    ⟨(some 5), (.mv (.t 1)), none⟩,
    ⟨(some 6), (.mv (.t 0)), none⟩,
    ⟨(some 7), (.len .slice (.t 6)), none⟩,
    ⟨(some 8), (.bin .lss (.t 5) (.t 7)), none⟩])
  (.cond (.t 8) (.seq (.reg [
    ⟨(some 9), (.mv (.t 0)), none⟩,
    ⟨(some 10), (.mv (.t 1)), none⟩,
    ⟨(some 11), (.ix 1 (.t 9) (.t 10)), none⟩,
    ⟨(some 12), (.ld1 (.t 11)), none⟩,
    ⟨(some 13), (.cvt .i64 (.t 12)), none⟩,
    ⟨(some 4), (.mv (.t 13)), none⟩])
  .ret)
  .skip))
  (.seq (.reg [
    ⟨(some 4), (.mv (.k (.int .i64 0))), none⟩])
  .ret))), [(.tmp 4)], 14⟩
def veneerref08AtS (cal : FuncId → Bool) (φ : Oracle) (N : Nat) (v0 v1 : IV) (H : Heap) : Option (IV × Heap) :=
    ob (llen H .slice v0) fun t1 =>
    ob (lbin .lss v1 t1) fun t2 =>
    cnd t2
    (ob (lix 1 v0 v1) fun t3 =>
    ob (lload1 H t3) fun t4 =>
    ob (lcvt .i64 t4) fun t5 =>
    some (t5, H))
    (some ((.int .i64 0), H))
theorem veneerref08AtEq (cal : FuncId → Bool) (φ : Oracle) (N : Nat) (v0 v1 : IV) (H : Heap) : lrunK cal φ N (veneerref08At) [v0, v1] H = veneerref08AtS cal φ N v0 v1 H := by
  kernel_rfl

def veneerref08TextC0 (cVeneerref08At : FuncId) : LC := .loop (.seq (.seq (.reg [
    ⟨(some 10), (.mv (.t 8)), none⟩,
    ⟨(some 11), (.mv (.t 2)), none⟩,
    ⟨(some 12), (.bin .lss (.t 10) (.t 11)), none⟩])
  (.cond (.t 12) .skip
  (.exit 0)))
  (.seq (.block 1 (.reg [
    ⟨(some 15), (.mv (.t 7)), none⟩,
    ⟨(some 16), (.mv (.t 0)), none⟩,
    ⟨(some 17), (.mv (.t 1)), none⟩,
    ⟨(some 18), (.mv (.t 8)), none⟩,
    ⟨(some 19), (.bin .add (.t 17) (.t 18)), none⟩,
    ⟨(some 20), (.callF cVeneerref08At [(.t 16), (.t 19)]), none⟩,
    ⟨(some 21), (.cvt .u8 (.t 20)), none⟩,
    ⟨(some 22), (.bldS 1 1 [(.int .u8 0)] [(0, (.t 21))]), none⟩,
    ⟨(some 23), (.app 1 1 (.t 15) (.t 22)), none⟩,
    ⟨(some 7), (.mv (.t 23)), none⟩]))
  (.reg [
    ⟨(some 13), (.mv (.t 8)), none⟩,
    ⟨(some 14), (.bin .add (.t 13) (.k (.int .i64 1))), none⟩,
    ⟨(some 8), (.mv (.t 14)), none⟩])))
def veneerref08TextC1 (cVeneerref08At : FuncId) : LC := .block 0 (veneerref08TextC0 cVeneerref08At)
def veneerref08TextC2 (cVeneerref08At : FuncId) : LC := .seq (.reg [
    ⟨(some 8), (.mv (.k (.int .i64 0))), none⟩]) (veneerref08TextC1 cVeneerref08At)
def veneerref08TextC3 (cVeneerref08At : FuncId) : LC := .seq (veneerref08TextC2 cVeneerref08At) (.seq (.reg [
    ⟨(some 24), (.mv (.t 7)), none⟩,
    ⟨(some 25), (.b2s (.t 24)), none⟩,
    ⟨(some 6), (.mv (.t 25)), none⟩])
  .ret)
def veneerref08TextC4 (cVeneerref08At : FuncId) : LC := .seq (.reg [
    ⟨(some 9), (.bldS 1 0 [(.int .u8 0)] []), none⟩,
    ⟨(some 7), (.mv (.t 9)), none⟩]) (veneerref08TextC3 cVeneerref08At)
def veneerref08TextC5 (cVeneerref08At : FuncId) : LC := .seq (.reg [
    ⟨(some 6), (.mv (.k (.str []))), none⟩]) (veneerref08TextC4 cVeneerref08At)
def veneerref08TextC0S (cal : FuncId → Bool) (φ : Oracle) (N : Nat) (cVeneerref08At : FuncId) (gE0 : IV → Heap → Option (IV × Heap)) : Nat → IV → IV → IV → IV → IV → Heap → Option (IV × Heap)
  | 0, _, _, _, _, _, _ => none
  | n + 1, v0, v1, v2, v7, v8, H =>
    ob (lbin .lss v8 v2) fun t1 =>
    cnd t1
    (ob (lbin .add v1 v8) fun t2 =>
    ob (φ cVeneerref08At [v0, t2] H) fun r3 =>
    ob (lcvt .u8 r3.1) fun t4 =>
    ob (lbldS r3.2 1 1 [(.int .u8 0)] [(0, t4)]) fun r5 =>
    ob (lapp r5.2 1 1 v7 r5.1) fun r6 =>
    ob (lbin .add v8 (.int .i64 1)) fun t7 =>
    veneerref08TextC0S cal φ N cVeneerref08At gE0 n v0 v1 v2 r6.1 t7 r6.2)
    (gE0 v7 H)
theorem veneerref08TextC0Eq (cal : FuncId → Bool) (φ : Oracle) (N : Nat) (cVeneerref08At : FuncId) {k : KT (IV × Heap)} (gE0 : IV → Heap → Option (IV × Heap)) (hgE0 : ∀ σ H, k (.exit 0) σ H = gE0 (lk σ 7) H) : ∀ (n : Nat) (σ : Sg) (H : Heap), itK (lxK cal φ N (.seq (.seq (.reg [
    ⟨(some 10), (.mv (.t 8)), none⟩,
    ⟨(some 11), (.mv (.t 2)), none⟩,
    ⟨(some 12), (.bin .lss (.t 10) (.t 11)), none⟩])
  (.cond (.t 12) .skip
  (.exit 0)))
  (.seq (.block 1 (.reg [
    ⟨(some 15), (.mv (.t 7)), none⟩,
    ⟨(some 16), (.mv (.t 0)), none⟩,
    ⟨(some 17), (.mv (.t 1)), none⟩,
    ⟨(some 18), (.mv (.t 8)), none⟩,
    ⟨(some 19), (.bin .add (.t 17) (.t 18)), none⟩,
    ⟨(some 20), (.callF cVeneerref08At [(.t 16), (.t 19)]), none⟩,
    ⟨(some 21), (.cvt .u8 (.t 20)), none⟩,
    ⟨(some 22), (.bldS 1 1 [(.int .u8 0)] [(0, (.t 21))]), none⟩,
    ⟨(some 23), (.app 1 1 (.t 15) (.t 22)), none⟩,
    ⟨(some 7), (.mv (.t 23)), none⟩]))
  (.reg [
    ⟨(some 13), (.mv (.t 8)), none⟩,
    ⟨(some 14), (.bin .add (.t 13) (.k (.int .i64 1))), none⟩,
    ⟨(some 8), (.mv (.t 14)), none⟩])))) n σ H k = veneerref08TextC0S cal φ N cVeneerref08At gE0 n (lk σ 0) (lk σ 1) (lk σ 2) (lk σ 7) (lk σ 8) H := by
  have hk : k = (kE 0 (fun σ H => gE0 (lk σ 7) H) k) := (kE_mk hgE0 rfl)
  intro n
  induction n with
  | zero => intro σ H; rfl
  | succ n ih =>
    intro σ H
    rw [itK_succ, seqK_mk (g := fun σ H => veneerref08TextC0S cal φ N cVeneerref08At gE0 n (lk σ 0) (lk σ 1) (lk σ 2) (lk σ 7) (lk σ 8) H) ih, hk]
    kernel_rfl
def veneerref08TextC1S (cal : FuncId → Bool) (φ : Oracle) (N : Nat) (cVeneerref08At : FuncId) (gN : IV → Heap → Option (IV × Heap)) (v0 v1 v2 v7 v8 : IV) (H : Heap) : Option (IV × Heap) :=
    veneerref08TextC0S cal φ N cVeneerref08At (fun v7 H => gN v7 H) N v0 v1 v2 v7 v8 H
theorem veneerref08TextC1Eq (cal : FuncId → Bool) (φ : Oracle) (N : Nat) (cVeneerref08At : FuncId) {k : KT (IV × Heap)} (gN : IV → Heap → Option (IV × Heap)) (hgN : ∀ σ H, k .normal σ H = gN (lk σ 7) H) : ∀ (σ : Sg) (H : Heap), lxK cal φ N (veneerref08TextC1 cVeneerref08At) σ H k = veneerref08TextC1S cal φ N cVeneerref08At gN (lk σ 0) (lk σ 1) (lk σ 2) (lk σ 7) (lk σ 8) H := by
  have hk : k = (kN (fun σ H => gN (lk σ 7) H) k) := (kN_mk hgN rfl)
  intro σ H
  rw [hk]
  show lxK cal φ N (veneerref08TextC0 cVeneerref08At) σ H (blockK 0 (kN (fun σ H => gN (lk σ 7) H) k)) = _
  exact veneerref08TextC0Eq cal φ N cVeneerref08At (k := (blockK 0 (kN (fun σ H => gN (lk σ 7) H) k))) (fun v7 H => gN v7 H) (fun _ _ => rfl) N σ H
def veneerref08TextC2S (cal : FuncId → Bool) (φ : Oracle) (N : Nat) (cVeneerref08At : FuncId) (gN : IV → Heap → Option (IV × Heap)) (v0 v1 v2 v7 : IV) (H : Heap) : Option (IV × Heap) :=
    veneerref08TextC1S cal φ N cVeneerref08At (fun v7 H => gN v7 H) v0 v1 v2 v7 (.int .i64 0) H
theorem veneerref08TextC2Eq (cal : FuncId → Bool) (φ : Oracle) (N : Nat) (cVeneerref08At : FuncId) {k : KT (IV × Heap)} (gN : IV → Heap → Option (IV × Heap)) (hgN : ∀ σ H, k .normal σ H = gN (lk σ 7) H) : ∀ (σ : Sg) (H : Heap), lxK cal φ N (veneerref08TextC2 cVeneerref08At) σ H k = veneerref08TextC2S cal φ N cVeneerref08At gN (lk σ 0) (lk σ 1) (lk σ 2) (lk σ 7) H := by
  have hk : k = (kN (fun σ H => gN (lk σ 7) H) k) := (kN_mk hgN rfl)
  intro σ H
  rw [hk]
  show lxK cal φ N (.reg [
    ⟨(some 8), (.mv (.k (.int .i64 0))), none⟩]) σ H (seqK (lxK cal φ N (veneerref08TextC1 cVeneerref08At)) (kN (fun σ H => gN (lk σ 7) H) k)) = _
  rw [seqK_mk (g := fun σ H => veneerref08TextC1S cal φ N cVeneerref08At (fun v7 H => gN v7 H) (lk σ 0) (lk σ 1) (lk σ 2) (lk σ 7) (lk σ 8) H) (veneerref08TextC1Eq cal φ N cVeneerref08At (k := (kN (fun σ H => gN (lk σ 7) H) k)) (fun v7 H => gN v7 H) (fun _ _ => rfl))]
  kernel_rfl
def veneerref08TextC3S (cal : FuncId → Bool) (φ : Oracle) (N : Nat) (cVeneerref08At : FuncId) (v0 v1 v2 v7 : IV) (H : Heap) : Option (IV × Heap) :=
    veneerref08TextC2S cal φ N cVeneerref08At (fun v7 H => ob (lb2s H v7) fun t1 =>
    some (t1, H)) v0 v1 v2 v7 H
theorem veneerref08TextC3Eq (cal : FuncId → Bool) (φ : Oracle) (N : Nat) (cVeneerref08At : FuncId) {k : KT (IV × Heap)} (hR : ∀ σ H, k .ret σ H = resK [(.tmp 6)] [] σ H) : ∀ (σ : Sg) (H : Heap), lxK cal φ N (veneerref08TextC3 cVeneerref08At) σ H k = veneerref08TextC3S cal φ N cVeneerref08At (lk σ 0) (lk σ 1) (lk σ 2) (lk σ 7) H := by
  have hk : k = (kR (resK [(.tmp 6)] []) k) := (kR_mk hR rfl)
  intro σ H
  rw [hk]
  show lxK cal φ N (veneerref08TextC2 cVeneerref08At) σ H (seqK (lxK cal φ N (.seq (.reg [
    ⟨(some 24), (.mv (.t 7)), none⟩,
    ⟨(some 25), (.b2s (.t 24)), none⟩,
    ⟨(some 6), (.mv (.t 25)), none⟩])
  .ret)) (kR (resK [(.tmp 6)] []) k)) = _
  exact veneerref08TextC2Eq cal φ N cVeneerref08At (k := (seqK (lxK cal φ N (.seq (.reg [
    ⟨(some 24), (.mv (.t 7)), none⟩,
    ⟨(some 25), (.b2s (.t 24)), none⟩,
    ⟨(some 6), (.mv (.t 25)), none⟩])
  .ret)) (kR (resK [(.tmp 6)] []) k))) (fun v7 H => ob (lb2s H v7) fun t1 =>
some (t1, H)) (fun _ _ => rfl) σ H
def veneerref08TextC4S (cal : FuncId → Bool) (φ : Oracle) (N : Nat) (cVeneerref08At : FuncId) (v0 v1 v2 : IV) (H : Heap) : Option (IV × Heap) :=
    ob (lbldS H 1 0 [(.int .u8 0)] []) fun r1 =>
    veneerref08TextC3S cal φ N cVeneerref08At v0 v1 v2 r1.1 r1.2
theorem veneerref08TextC4Eq (cal : FuncId → Bool) (φ : Oracle) (N : Nat) (cVeneerref08At : FuncId) {k : KT (IV × Heap)} (hR : ∀ σ H, k .ret σ H = resK [(.tmp 6)] [] σ H) : ∀ (σ : Sg) (H : Heap), lxK cal φ N (veneerref08TextC4 cVeneerref08At) σ H k = veneerref08TextC4S cal φ N cVeneerref08At (lk σ 0) (lk σ 1) (lk σ 2) H := by
  have hk : k = (kR (resK [(.tmp 6)] []) k) := (kR_mk hR rfl)
  intro σ H
  rw [hk]
  show lxK cal φ N (.reg [
    ⟨(some 9), (.bldS 1 0 [(.int .u8 0)] []), none⟩,
    ⟨(some 7), (.mv (.t 9)), none⟩]) σ H (seqK (lxK cal φ N (veneerref08TextC3 cVeneerref08At)) (kR (resK [(.tmp 6)] []) k)) = _
  rw [seqK_mk (g := fun σ H => veneerref08TextC3S cal φ N cVeneerref08At (lk σ 0) (lk σ 1) (lk σ 2) (lk σ 7) H) (veneerref08TextC3Eq cal φ N cVeneerref08At (k := (kR (resK [(.tmp 6)] []) k)) (fun _ _ => rfl))]
  kernel_rfl
def veneerref08TextC5S (cal : FuncId → Bool) (φ : Oracle) (N : Nat) (cVeneerref08At : FuncId) (v0 v1 v2 : IV) (H : Heap) : Option (IV × Heap) :=
    veneerref08TextC4S cal φ N cVeneerref08At v0 v1 v2 H
theorem veneerref08TextC5Eq (cal : FuncId → Bool) (φ : Oracle) (N : Nat) (cVeneerref08At : FuncId) {k : KT (IV × Heap)} (hR : ∀ σ H, k .ret σ H = resK [(.tmp 6)] [] σ H) : ∀ (σ : Sg) (H : Heap), lxK cal φ N (veneerref08TextC5 cVeneerref08At) σ H k = veneerref08TextC5S cal φ N cVeneerref08At (lk σ 0) (lk σ 1) (lk σ 2) H := by
  have hk : k = (kR (resK [(.tmp 6)] []) k) := (kR_mk hR rfl)
  intro σ H
  rw [hk]
  show lxK cal φ N (.reg [
    ⟨(some 6), (.mv (.k (.str []))), none⟩]) σ H (seqK (lxK cal φ N (veneerref08TextC4 cVeneerref08At)) (kR (resK [(.tmp 6)] []) k)) = _
  rw [seqK_mk (g := fun σ H => veneerref08TextC4S cal φ N cVeneerref08At (lk σ 0) (lk σ 1) (lk σ 2) H) (veneerref08TextC4Eq cal φ N cVeneerref08At (k := (kR (resK [(.tmp 6)] []) k)) (fun _ _ => rfl))]
  kernel_rfl
def veneerref08Text (cVeneerref08At : FuncId) : LFun := ⟨(veneerref08TextC5 cVeneerref08At), [(.tmp 6)], 26⟩
def veneerref08TextS (cal : FuncId → Bool) (φ : Oracle) (N : Nat) (cVeneerref08At : FuncId) (v0 v1 v2 : IV) (H : Heap) : Option (IV × Heap) :=
    veneerref08TextC5S cal φ N cVeneerref08At v0 v1 v2 H
theorem veneerref08TextEq (cal : FuncId → Bool) (φ : Oracle) (N : Nat) (cVeneerref08At : FuncId) (v0 v1 v2 : IV) (H : Heap) : lrunK cal φ N (veneerref08Text cVeneerref08At) [v0, v1, v2] H = veneerref08TextS cal φ N cVeneerref08At v0 v1 v2 H := by
  show lxK cal φ N (veneerref08TextC5 cVeneerref08At) (initFrom 0 [v0, v1, v2]) H (endK [(.tmp 6)]) = _
  exact veneerref08TextC5Eq cal φ N cVeneerref08At (k := (endK [(.tmp 6)])) (fun _ _ => rfl) (initFrom 0 [v0, v1, v2]) H

def veneerref08Two : LFun := ⟨(.seq (.reg [
    ⟨(some 2), (.mv (.k .nilSlice)), none⟩])
  (.seq (.reg [
    ⟨(some 3), (.mv (.t 0)), none⟩,
    ⟨(some 4), (.bin .add (.t 3) (.k (.int .i64 256))), none⟩,
    ⟨(some 5), (.bin .quo (.t 4) (.k (.int .i64 256))), none⟩,
    ⟨(some 6), (.cvt .u8 (.t 5)), none⟩,
    ⟨(some 7), (.mv (.t 0)), none⟩,
    ⟨(some 8), (.bin .add (.t 7) (.k (.int .i64 256))), none⟩,
    ⟨(some 9), (.bin .rem (.t 8) (.k (.int .i64 256))), none⟩,
    ⟨(some 10), (.cvt .u8 (.t 9)), none⟩,
    ⟨(some 11), (.bldS 1 2 [(.int .u8 0)] [(0, (.t 6)), (1, (.t 10))]), none⟩,
    ⟨(some 2), (.mv (.t 11)), none⟩])
  .ret)), [(.tmp 2)], 12⟩
def veneerref08TwoS (cal : FuncId → Bool) (φ : Oracle) (N : Nat) (v0 : IV) (H : Heap) : Option (IV × Heap) :=
    ob (lbin .add v0 (.int .i64 256)) fun t1 =>
    ob (lbin .quo t1 (.int .i64 256)) fun t2 =>
    ob (lcvt .u8 t2) fun t3 =>
    ob (lbin .add v0 (.int .i64 256)) fun t4 =>
    ob (lbin .rem t4 (.int .i64 256)) fun t5 =>
    ob (lcvt .u8 t5) fun t6 =>
    ob (lbldS H 1 2 [(.int .u8 0)] [(0, t3), (1, t6)]) fun r7 =>
    some (r7.1, r7.2)
theorem veneerref08TwoEq (cal : FuncId → Bool) (φ : Oracle) (N : Nat) (v0 : IV) (H : Heap) : lrunK cal φ N (veneerref08Two) [v0] H = veneerref08TwoS cal φ N v0 H := by
  kernel_rfl

def veneerref08May : LFun := ⟨(.seq (.reg [
    ⟨(some 1), (.box (.t 0)), none⟩,
    ⟨(some 2), (.mv (.k (.bool false))), none⟩])
  (.seq (.seq (.reg [
    ⟨(some 3), (.off (.t 1) 0), none⟩,
    ⟨(some 4), (.ld1 (.t 3)), none⟩,
    ⟨(some 5), (.bin .lss (.t 4) (.k (.int .i64 1))), none⟩,
    ⟨(some 6), (.mv (.t 5)), none⟩,
    ⟨(some 7), (.off (.t 1) 0), (some (6, false))⟩,
    ⟨(some 8), (.ld1 (.t 7)), (some (6, false))⟩,
    ⟨(some 9), (.bin .gtr (.t 8) (.k (.int .i64 20))), (some (6, false))⟩,
    ⟨(some 10), (.pick (.t 6) (.k (.bool true)) (.t 9)), none⟩,
    ⟨(some 11), (.mv (.t 10)), none⟩,
    ⟨(some 12), (.off (.t 1) 1), (some (11, false))⟩,
    ⟨(some 13), (.ld1 (.t 12)), (some (11, false))⟩,
    ⟨(some 14), (.bin .lss (.t 13) (.k (.int .i64 (-4)))), (some (11, false))⟩,
    ⟨(some 15), (.pick (.t 11) (.k (.bool true)) (.t 14)), none⟩,
    ⟨(some 16), (.mv (.t 15)), none⟩,
    ⟨(some 17), (.off (.t 1) 1), (some (16, false))⟩,
    ⟨(some 18), (.ld1 (.t 17)), (some (16, false))⟩,
    ⟨(some 19), (.bin .gtr (.t 18) (.k (.int .i64 35))), (some (16, false))⟩,
    ⟨(some 20), (.pick (.t 16) (.k (.bool true)) (.t 19)), none⟩,
    ⟨(some 21), (.mv (.t 20)), none⟩,
    ⟨(some 22), (.off (.t 1) 2), (some (21, false))⟩,
    ⟨(some 23), (.ld1 (.t 22)), (some (21, false))⟩,
    ⟨(some 24), (.bin .lss (.t 23) (.k (.int .i64 0))), (some (21, false))⟩,
    ⟨(some 25), (.pick (.t 21) (.k (.bool true)) (.t 24)), none⟩,
    ⟨(some 26), (.mv (.t 25)), none⟩,
    ⟨(some 27), (.off (.t 1) 2), (some (26, false))⟩,
    ⟨(some 28), (.ld1 (.t 27)), (some (26, false))⟩,
    ⟨(some 29), (.bin .gtr (.t 28) (.k (.int .i64 63))), (some (26, false))⟩,
    ⟨(some 30), (.pick (.t 26) (.k (.bool true)) (.t 29)), none⟩])
  (.cond (.t 30) (.seq (.reg [
    ⟨(some 2), (.mv (.k (.bool false))), none⟩])
  .ret)
  .skip))
  (.seq (.reg [
    ⟨(some 31), (.off (.t 1) 3), none⟩,
    ⟨(some 32), (.ld1 (.t 31)), none⟩,
    ⟨(some 33), (.bin .geq (.t 32) (.k (.int .i64 (-256)))), none⟩,
    ⟨(some 34), (.mv (.t 33)), none⟩,
    ⟨(some 35), (.off (.t 1) 3), (some (34, true))⟩,
    ⟨(some 36), (.ld1 (.t 35)), (some (34, true))⟩,
    ⟨(some 37), (.bin .leq (.t 36) (.k (.int .i64 65279))), (some (34, true))⟩,
    ⟨(some 38), (.pick (.t 34) (.t 37) (.k (.bool false))), none⟩,
    ⟨(some 39), (.mv (.t 38)), none⟩,
    ⟨(some 40), (.off (.t 1) 4), (some (39, true))⟩,
    ⟨(some 41), (.ld1 (.t 40)), (some (39, true))⟩,
    ⟨(some 42), (.bin .geq (.t 41) (.k (.int .i64 (-256)))), (some (39, true))⟩,
    ⟨(some 43), (.pick (.t 39) (.t 42) (.k (.bool false))), none⟩,
    ⟨(some 44), (.mv (.t 43)), none⟩,
    ⟨(some 45), (.off (.t 1) 4), (some (44, true))⟩,
    ⟨(some 46), (.ld1 (.t 45)), (some (44, true))⟩,
    ⟨(some 47), (.bin .leq (.t 46) (.k (.int .i64 65279))), (some (44, true))⟩,
    ⟨(some 48), (.pick (.t 44) (.t 47) (.k (.bool false))), none⟩,
    ⟨(some 49), (.mv (.t 48)), none⟩,
    ⟨(some 50), (.off (.t 1) 5), (some (49, true))⟩,
    ⟨(some 51), (.ld1 (.t 50)), (some (49, true))⟩,
    ⟨(some 52), (.len .str (.t 51)), (some (49, true))⟩,
    ⟨(some 53), (.bin .leq (.t 52) (.k (.int .i64 63))), (some (49, true))⟩,
    ⟨(some 54), (.pick (.t 49) (.t 53) (.k (.bool false))), none⟩,
    ⟨(some 55), (.mv (.t 54)), none⟩,
    ⟨(some 56), (.off (.t 1) 6), (some (55, true))⟩,
    ⟨(some 57), (.ld1 (.t 56)), (some (55, true))⟩,
    ⟨(some 58), (.len .str (.t 57)), (some (55, true))⟩,
    ⟨(some 59), (.bin .leq (.t 58) (.k (.int .i64 63))), (some (55, true))⟩,
    ⟨(some 60), (.pick (.t 55) (.t 59) (.k (.bool false))), none⟩,
    ⟨(some 2), (.mv (.t 60)), none⟩])
  .ret))), [(.tmp 2)], 61⟩
def veneerref08MayS (cal : FuncId → Bool) (φ : Oracle) (N : Nat) (v0 : IV) (H : Heap) : Option (IV × Heap) :=
    ob (lbox H v0) fun r1 =>
    ob (loff r1.1 0) fun t2 =>
    ob (lload1 r1.2 t2) fun t3 =>
    ob (lbin .lss t3 (.int .i64 1)) fun t4 =>
    ob (gq (isB t4 false) (loff r1.1 0)) fun t5 =>
    ob (gq (isB t4 false) (lload1 r1.2 t5)) fun t6 =>
    ob (gq (isB t4 false) (lbin .gtr t6 (.int .i64 20))) fun t7 =>
    ob (lpick t4 (.bool true) t7) fun t8 =>
    ob (gq (isB t8 false) (loff r1.1 1)) fun t9 =>
    ob (gq (isB t8 false) (lload1 r1.2 t9)) fun t10 =>
    ob (gq (isB t8 false) (lbin .lss t10 (.int .i64 (-4)))) fun t11 =>
    ob (lpick t8 (.bool true) t11) fun t12 =>
    ob (gq (isB t12 false) (loff r1.1 1)) fun t13 =>
    ob (gq (isB t12 false) (lload1 r1.2 t13)) fun t14 =>
    ob (gq (isB t12 false) (lbin .gtr t14 (.int .i64 35))) fun t15 =>
    ob (lpick t12 (.bool true) t15) fun t16 =>
    ob (gq (isB t16 false) (loff r1.1 2)) fun t17 =>
    ob (gq (isB t16 false) (lload1 r1.2 t17)) fun t18 =>
    ob (gq (isB t16 false) (lbin .lss t18 (.int .i64 0))) fun t19 =>
    ob (lpick t16 (.bool true) t19) fun t20 =>
    ob (gq (isB t20 false) (loff r1.1 2)) fun t21 =>
    ob (gq (isB t20 false) (lload1 r1.2 t21)) fun t22 =>
    ob (gq (isB t20 false) (lbin .gtr t22 (.int .i64 63))) fun t23 =>
    ob (lpick t20 (.bool true) t23) fun t24 =>
    cnd t24
    (some ((.bool false), r1.2))
    (ob (loff r1.1 3) fun t25 =>
    ob (lload1 r1.2 t25) fun t26 =>
    ob (lbin .geq t26 (.int .i64 (-256))) fun t27 =>
    ob (gq (isB t27 true) (loff r1.1 3)) fun t28 =>
    ob (gq (isB t27 true) (lload1 r1.2 t28)) fun t29 =>
    ob (gq (isB t27 true) (lbin .leq t29 (.int .i64 65279))) fun t30 =>
    ob (lpick t27 t30 (.bool false)) fun t31 =>
    ob (gq (isB t31 true) (loff r1.1 4)) fun t32 =>
    ob (gq (isB t31 true) (lload1 r1.2 t32)) fun t33 =>
    ob (gq (isB t31 true) (lbin .geq t33 (.int .i64 (-256)))) fun t34 =>
    ob (lpick t31 t34 (.bool false)) fun t35 =>
    ob (gq (isB t35 true) (loff r1.1 4)) fun t36 =>
    ob (gq (isB t35 true) (lload1 r1.2 t36)) fun t37 =>
    ob (gq (isB t35 true) (lbin .leq t37 (.int .i64 65279))) fun t38 =>
    ob (lpick t35 t38 (.bool false)) fun t39 =>
    ob (gq (isB t39 true) (loff r1.1 5)) fun t40 =>
    ob (gq (isB t39 true) (lload1 r1.2 t40)) fun t41 =>
    ob (gq (isB t39 true) (llen r1.2 .str t41)) fun t42 =>
    ob (gq (isB t39 true) (lbin .leq t42 (.int .i64 63))) fun t43 =>
    ob (lpick t39 t43 (.bool false)) fun t44 =>
    ob (gq (isB t44 true) (loff r1.1 6)) fun t45 =>
    ob (gq (isB t44 true) (lload1 r1.2 t45)) fun t46 =>
    ob (gq (isB t44 true) (llen r1.2 .str t46)) fun t47 =>
    ob (gq (isB t44 true) (lbin .leq t47 (.int .i64 63))) fun t48 =>
    ob (lpick t44 t48 (.bool false)) fun t49 =>
    some (t49, r1.2))
theorem veneerref08MayEq (cal : FuncId → Bool) (φ : Oracle) (N : Nat) (v0 : IV) (H : Heap) : lrunK cal φ N (veneerref08May) [v0] H = veneerref08MayS cal φ N v0 H := by
  kernel_rfl

def veneerref08Encode (cVeneerref08May cVeneerref08Two : FuncId) : LFun := ⟨(.seq (.reg [
    ⟨(some 1), (.box (.t 0)), none⟩,
    ⟨(some 2), (.mv (.k .nilSlice)), none⟩,
    ⟨(some 3), (.mv (.k (.int .i64 0))), none⟩])
  (.seq (.seq (.reg [
    ⟨(some 5), (.ldn 7 (.t 1)), none⟩,
    ⟨(some 6), (.callF cVeneerref08May [(.t 5)]), none⟩,
    ⟨(some 7), (.un .not (.t 6)), none⟩])
  (.cond (.t 7) (.seq (.reg [
    ⟨(some 2), (.mv (.k .nilSlice)), none⟩,
    ⟨(some 3), (.mv (.k (.int .i64 22))), none⟩])
  .ret)
  .skip))
  (.seq (.reg [
    ⟨(some 8), (.off (.t 1) 0), none⟩,
    ⟨(some 9), (.ld1 (.t 8)), none⟩,
    ⟨(some 10), (.bin .sub (.t 9) (.k (.int .i64 1))), none⟩,
    ⟨(some 11), (.cvt .u8 (.t 10)), none⟩,
    ⟨(some 12), (.off (.t 1) 1), none⟩,
    ⟨(some 13), (.ld1 (.t 12)), none⟩,
    ⟨(some 14), (.bin .add (.t 13) (.k (.int .i64 4))), none⟩,
    ⟨(some 15), (.cvt .u8 (.t 14)), none⟩,
    ⟨(some 16), (.off (.t 1) 2), none⟩,
    ⟨(some 17), (.ld1 (.t 16)), none⟩,
    ⟨(some 18), (.cvt .u8 (.t 17)), none⟩,
    ⟨(some 19), (.bldS 1 3 [(.int .u8 0)] [(0, (.t 11)), (1, (.t 15)), (2, (.t 18))]), none⟩,
    ⟨(some 4), (.mv (.t 19)), none⟩])
  (.seq (.reg [
    ⟨(some 20), (.mv (.t 4)), none⟩,
    ⟨(some 21), (.off (.t 1) 3), none⟩,
    ⟨(some 22), (.ld1 (.t 21)), none⟩,
    ⟨(some 23), (.callF cVeneerref08Two [(.t 22)]), none⟩,
    ⟨(some 24), (.app 1 1 (.t 20) (.t 23)), none⟩,
    ⟨(some 4), (.mv (.t 24)), none⟩])
  (.seq (.reg [
    ⟨(some 25), (.mv (.t 4)), none⟩,
    ⟨(some 26), (.off (.t 1) 4), none⟩,
    ⟨(some 27), (.ld1 (.t 26)), none⟩,
    ⟨(some 28), (.callF cVeneerref08Two [(.t 27)]), none⟩,
    ⟨(some 29), (.app 1 1 (.t 25) (.t 28)), none⟩,
    ⟨(some 4), (.mv (.t 29)), none⟩])
  (.seq (.reg [
    ⟨(some 30), (.mv (.t 4)), none⟩,
    ⟨(some 31), (.off (.t 1) 5), none⟩,
    ⟨(some 32), (.ld1 (.t 31)), none⟩,
    ⟨(some 33), (.len .str (.t 32)), none⟩,
    ⟨(some 34), (.cvt .u8 (.t 33)), none⟩,
    ⟨(some 35), (.bldS 1 1 [(.int .u8 0)] [(0, (.t 34))]), none⟩,
    ⟨(some 36), (.app 1 1 (.t 30) (.t 35)), none⟩,
    ⟨(some 4), (.mv (.t 36)), none⟩])
  (.seq (.reg [
    ⟨(some 37), (.mv (.t 4)), none⟩,
    ⟨(some 38), (.off (.t 1) 5), none⟩,
    ⟨(some 39), (.ld1 (.t 38)), none⟩,
    ⟨(some 40), (.app 1 1 (.t 37) (.t 39)), none⟩,
    ⟨(some 4), (.mv (.t 40)), none⟩])
  (.seq (.reg [
    ⟨(some 41), (.mv (.t 4)), none⟩,
    ⟨(some 42), (.off (.t 1) 6), none⟩,
    ⟨(some 43), (.ld1 (.t 42)), none⟩,
    ⟨(some 44), (.len .str (.t 43)), none⟩,
    ⟨(some 45), (.cvt .u8 (.t 44)), none⟩,
    ⟨(some 46), (.bldS 1 1 [(.int .u8 0)] [(0, (.t 45))]), none⟩,
    ⟨(some 47), (.app 1 1 (.t 41) (.t 46)), none⟩,
    ⟨(some 4), (.mv (.t 47)), none⟩])
  (.seq (.reg [
    ⟨(some 48), (.mv (.t 4)), none⟩,
    ⟨(some 49), (.off (.t 1) 6), none⟩,
    ⟨(some 50), (.ld1 (.t 49)), none⟩,
    ⟨(some 51), (.app 1 1 (.t 48) (.t 50)), none⟩,
    ⟨(some 2), (.mv (.t 51)), none⟩,
    ⟨(some 3), (.mv (.k (.int .i64 0))), none⟩])
  .ret))))))))), [(.tmp 2), (.tmp 3)], 52⟩
def veneerref08EncodeS (cal : FuncId → Bool) (φ : Oracle) (N : Nat) (cVeneerref08May cVeneerref08Two : FuncId) (v0 : IV) (H : Heap) : Option (IV × Heap) :=
    ob (lbox H v0) fun r1 =>
    ob (lloadn r1.2 7 r1.1) fun t2 =>
    ob (φ cVeneerref08May [t2] r1.2) fun r3 =>
    ob (iun .not r3.1) fun t4 =>
    cnd t4
    (some ((.tuple [.nilSlice, (.int .i64 22)]), r3.2))
    (ob (loff r1.1 0) fun t5 =>
    ob (lload1 r3.2 t5) fun t6 =>
    ob (lbin .sub t6 (.int .i64 1)) fun t7 =>
    ob (lcvt .u8 t7) fun t8 =>
    ob (loff r1.1 1) fun t9 =>
    ob (lload1 r3.2 t9) fun t10 =>
    ob (lbin .add t10 (.int .i64 4)) fun t11 =>
    ob (lcvt .u8 t11) fun t12 =>
    ob (loff r1.1 2) fun t13 =>
    ob (lload1 r3.2 t13) fun t14 =>
    ob (lcvt .u8 t14) fun t15 =>
    ob (lbldS r3.2 1 3 [(.int .u8 0)] [(0, t8), (1, t12), (2, t15)]) fun r16 =>
    ob (loff r1.1 3) fun t17 =>
    ob (lload1 r16.2 t17) fun t18 =>
    ob (φ cVeneerref08Two [t18] r16.2) fun r19 =>
    ob (lapp r19.2 1 1 r16.1 r19.1) fun r20 =>
    ob (loff r1.1 4) fun t21 =>
    ob (lload1 r20.2 t21) fun t22 =>
    ob (φ cVeneerref08Two [t22] r20.2) fun r23 =>
    ob (lapp r23.2 1 1 r20.1 r23.1) fun r24 =>
    ob (loff r1.1 5) fun t25 =>
    ob (lload1 r24.2 t25) fun t26 =>
    ob (llen r24.2 .str t26) fun t27 =>
    ob (lcvt .u8 t27) fun t28 =>
    ob (lbldS r24.2 1 1 [(.int .u8 0)] [(0, t28)]) fun r29 =>
    ob (lapp r29.2 1 1 r24.1 r29.1) fun r30 =>
    ob (loff r1.1 5) fun t31 =>
    ob (lload1 r30.2 t31) fun t32 =>
    ob (lapp r30.2 1 1 r30.1 t32) fun r33 =>
    ob (loff r1.1 6) fun t34 =>
    ob (lload1 r33.2 t34) fun t35 =>
    ob (llen r33.2 .str t35) fun t36 =>
    ob (lcvt .u8 t36) fun t37 =>
    ob (lbldS r33.2 1 1 [(.int .u8 0)] [(0, t37)]) fun r38 =>
    ob (lapp r38.2 1 1 r33.1 r38.1) fun r39 =>
    ob (loff r1.1 6) fun t40 =>
    ob (lload1 r39.2 t40) fun t41 =>
    ob (lapp r39.2 1 1 r39.1 t41) fun r42 =>
    some ((.tuple [r42.1, (.int .i64 0)]), r42.2))
theorem veneerref08EncodeEq (cal : FuncId → Bool) (φ : Oracle) (N : Nat) (cVeneerref08May cVeneerref08Two : FuncId) (v0 : IV) (H : Heap) : lrunK cal φ N (veneerref08Encode cVeneerref08May cVeneerref08Two) [v0] H = veneerref08EncodeS cal φ N cVeneerref08May cVeneerref08Two v0 H := by
  kernel_rfl

def veneerref08DecodeC0 (cVeneerref08At cVeneerref08Text : FuncId) : LC := .loop (.seq (.seq (.reg [
    ⟨(some 9), (.mv (.t 4)), none⟩,
    ⟨(some 10), (.mv (.t 0)), none⟩,
    ⟨(some 11), (.len .slice (.t 10)), none⟩,
    ⟨(some 12), (.bin .lss (.t 9) (.t 11)), none⟩,
    ⟨(some 13), (.mv (.t 12)), none⟩,
    ⟨(some 14), (.mv (.t 3)), (some (13, true))⟩,
    ⟨(some 15), (.len .slice (.t 14)), (some (13, true))⟩,
    ⟨(some 16), (.bin .lss (.t 15) (.k (.int .i64 200))), (some (13, true))⟩,
    ⟨(some 17), (.pick (.t 13) (.t 16) (.k (.bool false))), none⟩])
  (.cond (.t 17) .skip
  (.exit 0)))
  (.block 1 (.seq (.reg [
    ⟨(some 18), (.mv (.t 0)), none⟩,
    ⟨(some 19), (.mv (.t 4)), none⟩,
    ⟨(some 20), (.callF cVeneerref08At [(.t 18), (.t 19)]), none⟩,
    ⟨(some 21), (.bin .rem (.t 20) (.k (.int .i64 20))), none⟩,
    ⟨(some 22), (.bin .add (.t 21) (.k (.int .i64 1))), none⟩,
    ⟨(some 23), (.mv (.t 0)), none⟩,
    ⟨(some 24), (.mv (.t 4)), none⟩,
    ⟨(some 25), (.bin .add (.t 24) (.k (.int .i64 1))), none⟩,
    ⟨(some 26), (.callF cVeneerref08At [(.t 23), (.t 25)]), none⟩,
    ⟨(some 27), (.bin .rem (.t 26) (.k (.int .i64 40))), none⟩,
    ⟨(some 28), (.bin .sub (.t 27) (.k (.int .i64 4))), none⟩,
    ⟨(some 29), (.mv (.t 0)), none⟩,
    ⟨(some 30), (.mv (.t 4)), none⟩,
    ⟨(some 31), (.bin .add (.t 30) (.k (.int .i64 2))), none⟩,
    ⟨(some 32), (.callF cVeneerref08At [(.t 29), (.t 31)]), none⟩,
    ⟨(some 33), (.bin .rem (.t 32) (.k (.int .i64 64))), none⟩,
    ⟨(some 34), (.bld [(.int .i64 0), (.int .i64 0), (.int .i64 0), (.int .i64 0), (.int .i64 0), (.str []), (.str [])] [(0, (1, (.t 22))), (1, (1, (.t 28))), (2, (1, (.t 33)))]), none⟩,
    ⟨(some 5), (.zbox (.agg [(.int .i64 0), (.int .i64 0), (.int .i64 0), (.int .i64 0), (.int .i64 0), (.str []), (.str [])])), none⟩,
    ⟨none, (.st 7 (.t 5) (.t 34)), none⟩])
  (.seq (.reg [
    ⟨(some 35), (.mv (.t 0)), none⟩,
    ⟨(some 36), (.mv (.t 4)), none⟩,
    ⟨(some 37), (.bin .add (.t 36) (.k (.int .i64 3))), none⟩,
    ⟨(some 38), (.callF cVeneerref08At [(.t 35), (.t 37)]), none⟩,
    ⟨(some 39), (.bin .mul (.t 38) (.k (.int .i64 256))), none⟩,
    ⟨(some 40), (.mv (.t 0)), none⟩,
    ⟨(some 41), (.mv (.t 4)), none⟩,
    ⟨(some 42), (.bin .add (.t 41) (.k (.int .i64 4))), none⟩,
    ⟨(some 43), (.callF cVeneerref08At [(.t 40), (.t 42)]), none⟩,
    ⟨(some 44), (.bin .add (.t 39) (.t 43)), none⟩,
    ⟨(some 45), (.bin .sub (.t 44) (.k (.int .i64 256))), none⟩,
    ⟨(some 46), (.off (.t 5) 3), none⟩,
    ⟨none, (.st 1 (.t 46) (.t 45)), none⟩])
  (.seq (.reg [
    ⟨(some 47), (.mv (.t 0)), none⟩,
    ⟨(some 48), (.mv (.t 4)), none⟩,
    ⟨(some 49), (.bin .add (.t 48) (.k (.int .i64 5))), none⟩,
    ⟨(some 50), (.callF cVeneerref08At [(.t 47), (.t 49)]), none⟩,
    ⟨(some 51), (.bin .mul (.t 50) (.k (.int .i64 256))), none⟩,
    ⟨(some 52), (.mv (.t 0)), none⟩,
    ⟨(some 53), (.mv (.t 4)), none⟩,
    ⟨(some 54), (.bin .add (.t 53) (.k (.int .i64 6))), none⟩,
    ⟨(some 55), (.callF cVeneerref08At [(.t 52), (.t 54)]), none⟩,
    ⟨(some 56), (.bin .add (.t 51) (.t 55)), none⟩,
    ⟨(some 57), (.bin .sub (.t 56) (.k (.int .i64 256))), none⟩,
    ⟨(some 58), (.off (.t 5) 4), none⟩,
    ⟨none, (.st 1 (.t 58) (.t 57)), none⟩])
  (.seq (.reg [
    ⟨(some 59), (.mv (.t 0)), none⟩,
    ⟨(some 60), (.mv (.t 4)), none⟩,
    ⟨(some 61), (.bin .add (.t 60) (.k (.int .i64 7))), none⟩,
    ⟨(some 62), (.callF cVeneerref08At [(.t 59), (.t 61)]), none⟩,
    ⟨(some 63), (.bin .rem (.t 62) (.k (.int .i64 64))), none⟩,
    ⟨(some 6), (.mv (.t 63)), none⟩])
  (.seq (.reg [
    ⟨(some 64), (.mv (.t 0)), none⟩,
    ⟨(some 65), (.mv (.t 4)), none⟩,
    ⟨(some 66), (.bin .add (.t 65) (.k (.int .i64 8))), none⟩,
    ⟨(some 67), (.mv (.t 6)), none⟩,
    ⟨(some 68), (.callF cVeneerref08Text [(.t 64), (.t 66), (.t 67)]), none⟩,
    ⟨(some 69), (.off (.t 5) 5), none⟩,
    ⟨none, (.st 1 (.t 69) (.t 68)), none⟩])
  (.seq (.reg [
    ⟨(some 70), (.mv (.t 4)), none⟩,
    ⟨(some 71), (.mv (.t 6)), none⟩,
    ⟨(some 72), (.bin .add (.k (.int .i64 8)) (.t 71)), none⟩,
    ⟨(some 73), (.bin .add (.t 70) (.t 72)), none⟩,
    ⟨(some 4), (.mv (.t 73)), none⟩])
  (.seq (.reg [
    ⟨(some 74), (.mv (.t 0)), none⟩,
    ⟨(some 75), (.mv (.t 4)), none⟩,
    ⟨(some 76), (.callF cVeneerref08At [(.t 74), (.t 75)]), none⟩,
    ⟨(some 77), (.bin .rem (.t 76) (.k (.int .i64 64))), none⟩,
    ⟨(some 7), (.mv (.t 77)), none⟩])
  (.seq (.reg [
    ⟨(some 78), (.mv (.t 0)), none⟩,
    ⟨(some 79), (.mv (.t 4)), none⟩,
    ⟨(some 80), (.bin .add (.t 79) (.k (.int .i64 1))), none⟩,
    ⟨(some 81), (.mv (.t 7)), none⟩,
    ⟨(some 82), (.callF cVeneerref08Text [(.t 78), (.t 80), (.t 81)]), none⟩,
    ⟨(some 83), (.off (.t 5) 6), none⟩,
    ⟨none, (.st 1 (.t 83) (.t 82)), none⟩])
  (.seq (.reg [
    ⟨(some 84), (.mv (.t 4)), none⟩,
    ⟨(some 85), (.mv (.t 7)), none⟩,
    ⟨(some 86), (.bin .add (.k (.int .i64 1)) (.t 85)), none⟩,
    ⟨(some 87), (.bin .add (.t 84) (.t 86)), none⟩,
    ⟨(some 4), (.mv (.t 87)), none⟩])
  (.reg [
    ⟨(some 88), (.mv (.t 3)), none⟩,
    ⟨(some 89), (.ldn 7 (.t 5)), none⟩,
    ⟨(some 90), (.bldS 7 1 [(.int .i64 0), (.int .i64 0), (.int .i64 0), (.int .i64 0), (.int .i64 0), (.str []), (.str [])] [(0, (.t 89))]), none⟩,
    ⟨(some 91), (.app 7 72 (.t 88) (.t 90)), none⟩,
    ⟨(some 3), (.mv (.t 91)), none⟩]))))))))))))
def veneerref08DecodeC1 (cVeneerref08At cVeneerref08Text : FuncId) : LC := .block 0 (veneerref08DecodeC0 cVeneerref08At cVeneerref08Text)
def veneerref08DecodeC2 (cVeneerref08At cVeneerref08Text : FuncId) : LC := .seq (.reg [
    ⟨(some 4), (.mv (.k (.int .i64 0))), none⟩]) (veneerref08DecodeC1 cVeneerref08At cVeneerref08Text)
def veneerref08DecodeC3 (cVeneerref08At cVeneerref08Text : FuncId) : LC := .seq (veneerref08DecodeC2 cVeneerref08At cVeneerref08Text) (.seq (.reg [
    ⟨(some 92), (.mv (.t 3)), none⟩,
    ⟨(some 2), (.mv (.t 92)), none⟩])
  .ret)
def veneerref08DecodeC4 (cVeneerref08At cVeneerref08Text : FuncId) : LC := .seq (.reg [
    ⟨(some 8), (.bldS 7 0 [(.int .i64 0), (.int .i64 0), (.int .i64 0), (.int .i64 0), (.int .i64 0), (.str []), (.str [])] []), none⟩,
    ⟨(some 3), (.mv (.t 8)), none⟩]) (veneerref08DecodeC3 cVeneerref08At cVeneerref08Text)
def veneerref08DecodeC5 (cVeneerref08At cVeneerref08Text : FuncId) : LC := .seq (.reg [
    ⟨(some 2), (.mv (.k .nilSlice)), none⟩]) (veneerref08DecodeC4 cVeneerref08At cVeneerref08Text)
def veneerref08DecodeC0S (cal : FuncId → Bool) (φ : Oracle) (N : Nat) (cVeneerref08At cVeneerref08Text : FuncId) (gE0 : IV → Heap → Option (IV × Heap)) : Nat → IV → IV → IV → Heap → Option (IV × Heap)
  | 0, _, _, _, _ => none
  | n + 1, v0, v3, v4, H =>
    ob (llen H .slice v0) fun t1 =>
    ob (lbin .lss v4 t1) fun t2 =>
    ob (gq (isB t2 true) (some v3)) fun t3 =>
    ob (gq (isB t2 true) (llen H .slice t3)) fun t4 =>
    ob (gq (isB t2 true) (lbin .lss t4 (.int .i64 200))) fun t5 =>
    ob (lpick t2 t5 (.bool false)) fun t6 =>
    cnd t6
    (ob (φ cVeneerref08At [v0, v4] H) fun r7 =>
    ob (lbin .rem r7.1 (.int .i64 20)) fun t8 =>
    ob (lbin .add t8 (.int .i64 1)) fun t9 =>
    ob (lbin .add v4 (.int .i64 1)) fun t10 =>
    ob (φ cVeneerref08At [v0, t10] r7.2) fun r11 =>
    ob (lbin .rem r11.1 (.int .i64 40)) fun t12 =>
    ob (lbin .sub t12 (.int .i64 4)) fun t13 =>
    ob (lbin .add v4 (.int .i64 2)) fun t14 =>
    ob (φ cVeneerref08At [v0, t14] r11.2) fun r15 =>
    ob (lbin .rem r15.1 (.int .i64 64)) fun t16 =>
    ob (lbld [(.int .i64 0), (.int .i64 0), (.int .i64 0), (.int .i64 0), (.int .i64 0), (.str []), (.str [])] [(0, 1, t9), (1, 1, t13), (2, 1, t16)]) fun t17 =>
    ob (lzbox r15.2 (.agg [(.int .i64 0), (.int .i64 0), (.int .i64 0), (.int .i64 0), (.int .i64 0), (.str []), (.str [])])) fun r18 =>
    ob (lstV r18.2 7 r18.1 t17) fun r19 =>
    ob (lbin .add v4 (.int .i64 3)) fun t20 =>
    ob (φ cVeneerref08At [v0, t20] r19.2) fun r21 =>
    ob (lbin .mul r21.1 (.int .i64 256)) fun t22 =>
    ob (lbin .add v4 (.int .i64 4)) fun t23 =>
    ob (φ cVeneerref08At [v0, t23] r21.2) fun r24 =>
    ob (lbin .add t22 r24.1) fun t25 =>
    ob (lbin .sub t25 (.int .i64 256)) fun t26 =>
    ob (loff r18.1 3) fun t27 =>
    ob (lstV r24.2 1 t27 t26) fun r28 =>
    ob (lbin .add v4 (.int .i64 5)) fun t29 =>
    ob (φ cVeneerref08At [v0, t29] r28.2) fun r30 =>
    ob (lbin .mul r30.1 (.int .i64 256)) fun t31 =>
    ob (lbin .add v4 (.int .i64 6)) fun t32 =>
    ob (φ cVeneerref08At [v0, t32] r30.2) fun r33 =>
    ob (lbin .add t31 r33.1) fun t34 =>
    ob (lbin .sub t34 (.int .i64 256)) fun t35 =>
    ob (loff r18.1 4) fun t36 =>
    ob (lstV r33.2 1 t36 t35) fun r37 =>
    ob (lbin .add v4 (.int .i64 7)) fun t38 =>
    ob (φ cVeneerref08At [v0, t38] r37.2) fun r39 =>
    ob (lbin .rem r39.1 (.int .i64 64)) fun t40 =>
    ob (lbin .add v4 (.int .i64 8)) fun t41 =>
    ob (φ cVeneerref08Text [v0, t41, t40] r39.2) fun r42 =>
    ob (loff r18.1 5) fun t43 =>
    ob (lstV r42.2 1 t43 r42.1) fun r44 =>
    ob (lbin .add (.int .i64 8) t40) fun t45 =>
    ob (lbin .add v4 t45) fun t46 =>
    ob (φ cVeneerref08At [v0, t46] r44.2) fun r47 =>
    ob (lbin .rem r47.1 (.int .i64 64)) fun t48 =>
    ob (lbin .add t46 (.int .i64 1)) fun t49 =>
    ob (φ cVeneerref08Text [v0, t49, t48] r47.2) fun r50 =>
    ob (loff r18.1 6) fun t51 =>
    ob (lstV r50.2 1 t51 r50.1) fun r52 =>
    ob (lbin .add (.int .i64 1) t48) fun t53 =>
    ob (lbin .add t46 t53) fun t54 =>
    ob (lloadn r52.2 7 r18.1) fun t55 =>
    ob (lbldS r52.2 7 1 [(.int .i64 0), (.int .i64 0), (.int .i64 0), (.int .i64 0), (.int .i64 0), (.str []), (.str [])] [(0, t55)]) fun r56 =>
    ob (lapp r56.2 7 72 v3 r56.1) fun r57 =>
    veneerref08DecodeC0S cal φ N cVeneerref08At cVeneerref08Text gE0 n v0 r57.1 t54 r57.2)
    (gE0 v3 H)
theorem veneerref08DecodeC0Eq (cal : FuncId → Bool) (φ : Oracle) (N : Nat) (cVeneerref08At cVeneerref08Text : FuncId) {k : KT (IV × Heap)} (gE0 : IV → Heap → Option (IV × Heap)) (hgE0 : ∀ σ H, k (.exit 0) σ H = gE0 (lk σ 3) H) : ∀ (n : Nat) (σ : Sg) (H : Heap), itK (lxK cal φ N (.seq (.seq (.reg [
    ⟨(some 9), (.mv (.t 4)), none⟩,
    ⟨(some 10), (.mv (.t 0)), none⟩,
    ⟨(some 11), (.len .slice (.t 10)), none⟩,
    ⟨(some 12), (.bin .lss (.t 9) (.t 11)), none⟩,
    ⟨(some 13), (.mv (.t 12)), none⟩,
    ⟨(some 14), (.mv (.t 3)), (some (13, true))⟩,
    ⟨(some 15), (.len .slice (.t 14)), (some (13, true))⟩,
    ⟨(some 16), (.bin .lss (.t 15) (.k (.int .i64 200))), (some (13, true))⟩,
    ⟨(some 17), (.pick (.t 13) (.t 16) (.k (.bool false))), none⟩])
  (.cond (.t 17) .skip
  (.exit 0)))
  (.block 1 (.seq (.reg [
    ⟨(some 18), (.mv (.t 0)), none⟩,
    ⟨(some 19), (.mv (.t 4)), none⟩,
    ⟨(some 20), (.callF cVeneerref08At [(.t 18), (.t 19)]), none⟩,
    ⟨(some 21), (.bin .rem (.t 20) (.k (.int .i64 20))), none⟩,
    ⟨(some 22), (.bin .add (.t 21) (.k (.int .i64 1))), none⟩,
    ⟨(some 23), (.mv (.t 0)), none⟩,
    ⟨(some 24), (.mv (.t 4)), none⟩,
    ⟨(some 25), (.bin .add (.t 24) (.k (.int .i64 1))), none⟩,
    ⟨(some 26), (.callF cVeneerref08At [(.t 23), (.t 25)]), none⟩,
    ⟨(some 27), (.bin .rem (.t 26) (.k (.int .i64 40))), none⟩,
    ⟨(some 28), (.bin .sub (.t 27) (.k (.int .i64 4))), none⟩,
    ⟨(some 29), (.mv (.t 0)), none⟩,
    ⟨(some 30), (.mv (.t 4)), none⟩,
    ⟨(some 31), (.bin .add (.t 30) (.k (.int .i64 2))), none⟩,
    ⟨(some 32), (.callF cVeneerref08At [(.t 29), (.t 31)]), none⟩,
    ⟨(some 33), (.bin .rem (.t 32) (.k (.int .i64 64))), none⟩,
    ⟨(some 34), (.bld [(.int .i64 0), (.int .i64 0), (.int .i64 0), (.int .i64 0), (.int .i64 0), (.str []), (.str [])] [(0, (1, (.t 22))), (1, (1, (.t 28))), (2, (1, (.t 33)))]), none⟩,
    ⟨(some 5), (.zbox (.agg [(.int .i64 0), (.int .i64 0), (.int .i64 0), (.int .i64 0), (.int .i64 0), (.str []), (.str [])])), none⟩,
    ⟨none, (.st 7 (.t 5) (.t 34)), none⟩])
  (.seq (.reg [
    ⟨(some 35), (.mv (.t 0)), none⟩,
    ⟨(some 36), (.mv (.t 4)), none⟩,
    ⟨(some 37), (.bin .add (.t 36) (.k (.int .i64 3))), none⟩,
    ⟨(some 38), (.callF cVeneerref08At [(.t 35), (.t 37)]), none⟩,
    ⟨(some 39), (.bin .mul (.t 38) (.k (.int .i64 256))), none⟩,
    ⟨(some 40), (.mv (.t 0)), none⟩,
    ⟨(some 41), (.mv (.t 4)), none⟩,
    ⟨(some 42), (.bin .add (.t 41) (.k (.int .i64 4))), none⟩,
    ⟨(some 43), (.callF cVeneerref08At [(.t 40), (.t 42)]), none⟩,
    ⟨(some 44), (.bin .add (.t 39) (.t 43)), none⟩,
    ⟨(some 45), (.bin .sub (.t 44) (.k (.int .i64 256))), none⟩,
    ⟨(some 46), (.off (.t 5) 3), none⟩,
    ⟨none, (.st 1 (.t 46) (.t 45)), none⟩])
  (.seq (.reg [
    ⟨(some 47), (.mv (.t 0)), none⟩,
    ⟨(some 48), (.mv (.t 4)), none⟩,
    ⟨(some 49), (.bin .add (.t 48) (.k (.int .i64 5))), none⟩,
    ⟨(some 50), (.callF cVeneerref08At [(.t 47), (.t 49)]), none⟩,
    ⟨(some 51), (.bin .mul (.t 50) (.k (.int .i64 256))), none⟩,
    ⟨(some 52), (.mv (.t 0)), none⟩,
    ⟨(some 53), (.mv (.t 4)), none⟩,
    ⟨(some 54), (.bin .add (.t 53) (.k (.int .i64 6))), none⟩,
    ⟨(some 55), (.callF cVeneerref08At [(.t 52), (.t 54)]), none⟩,
    ⟨(some 56), (.bin .add (.t 51) (.t 55)), none⟩,
    ⟨(some 57), (.bin .sub (.t 56) (.k (.int .i64 256))), none⟩,
    ⟨(some 58), (.off (.t 5) 4), none⟩,
    ⟨none, (.st 1 (.t 58) (.t 57)), none⟩])
  (.seq (.reg [
    ⟨(some 59), (.mv (.t 0)), none⟩,
    ⟨(some 60), (.mv (.t 4)), none⟩,
    ⟨(some 61), (.bin .add (.t 60) (.k (.int .i64 7))), none⟩,
    ⟨(some 62), (.callF cVeneerref08At [(.t 59), (.t 61)]), none⟩,
    ⟨(some 63), (.bin .rem (.t 62) (.k (.int .i64 64))), none⟩,
    ⟨(some 6), (.mv (.t 63)), none⟩])
  (.seq (.reg [
    ⟨(some 64), (.mv (.t 0)), none⟩,
    ⟨(some 65), (.mv (.t 4)), none⟩,
    ⟨(some 66), (.bin .add (.t 65) (.k (.int .i64 8))), none⟩,
    ⟨(some 67), (.mv (.t 6)), none⟩,
    ⟨(some 68), (.callF cVeneerref08Text [(.t 64), (.t 66), (.t 67)]), none⟩,
    ⟨(some 69), (.off (.t 5) 5), none⟩,
    ⟨none, (.st 1 (.t 69) (.t 68)), none⟩])
  (.seq (.reg [
    ⟨(some 70), (.mv (.t 4)), none⟩,
    ⟨(some 71), (.mv (.t 6)), none⟩,
    ⟨(some 72), (.bin .add (.k (.int .i64 8)) (.t 71)), none⟩,
    ⟨(some 73), (.bin .add (.t 70) (.t 72)), none⟩,
    ⟨(some 4), (.mv (.t 73)), none⟩])
  (.seq (.reg [
    ⟨(some 74), (.mv (.t 0)), none⟩,
    ⟨(some 75), (.mv (.t 4)), none⟩,
    ⟨(some 76), (.callF cVeneerref08At [(.t 74), (.t 75)]), none⟩,
    ⟨(some 77), (.bin .rem (.t 76) (.k (.int .i64 64))), none⟩,
    ⟨(some 7), (.mv (.t 77)), none⟩])
  (.seq (.reg [
    ⟨(some 78), (.mv (.t 0)), none⟩,
    ⟨(some 79), (.mv (.t 4)), none⟩,
    ⟨(some 80), (.bin .add (.t 79) (.k (.int .i64 1))), none⟩,
    ⟨(some 81), (.mv (.t 7)), none⟩,
    ⟨(some 82), (.callF cVeneerref08Text [(.t 78), (.t 80), (.t 81)]), none⟩,
    ⟨(some 83), (.off (.t 5) 6), none⟩,
    ⟨none, (.st 1 (.t 83) (.t 82)), none⟩])
  (.seq (.reg [
    ⟨(some 84), (.mv (.t 4)), none⟩,
    ⟨(some 85), (.mv (.t 7)), none⟩,
    ⟨(some 86), (.bin .add (.k (.int .i64 1)) (.t 85)), none⟩,
    ⟨(some 87), (.bin .add (.t 84) (.t 86)), none⟩,
    ⟨(some 4), (.mv (.t 87)), none⟩])
  (.reg [
    ⟨(some 88), (.mv (.t 3)), none⟩,
    ⟨(some 89), (.ldn 7 (.t 5)), none⟩,
    ⟨(some 90), (.bldS 7 1 [(.int .i64 0), (.int .i64 0), (.int .i64 0), (.int .i64 0), (.int .i64 0), (.str []), (.str [])] [(0, (.t 89))]), none⟩,
    ⟨(some 91), (.app 7 72 (.t 88) (.t 90)), none⟩,
    ⟨(some 3), (.mv (.t 91)), none⟩]))))))))))))) n σ H k = veneerref08DecodeC0S cal φ N cVeneerref08At cVeneerref08Text gE0 n (lk σ 0) (lk σ 3) (lk σ 4) H := by
  have hk : k = (kE 0 (fun σ H => gE0 (lk σ 3) H) k) := (kE_mk hgE0 rfl)
  intro n
  induction n with
  | zero => intro σ H; rfl
  | succ n ih =>
    intro σ H
    rw [itK_succ, seqK_mk (g := fun σ H => veneerref08DecodeC0S cal φ N cVeneerref08At cVeneerref08Text gE0 n (lk σ 0) (lk σ 3) (lk σ 4) H) ih, hk]
    kernel_rfl
def veneerref08DecodeC1S (cal : FuncId → Bool) (φ : Oracle) (N : Nat) (cVeneerref08At cVeneerref08Text : FuncId) (gN : IV → Heap → Option (IV × Heap)) (v0 v3 v4 : IV) (H : Heap) : Option (IV × Heap) :=
    veneerref08DecodeC0S cal φ N cVeneerref08At cVeneerref08Text (fun v3 H => gN v3 H) N v0 v3 v4 H
theorem veneerref08DecodeC1Eq (cal : FuncId → Bool) (φ : Oracle) (N : Nat) (cVeneerref08At cVeneerref08Text : FuncId) {k : KT (IV × Heap)} (gN : IV → Heap → Option (IV × Heap)) (hgN : ∀ σ H, k .normal σ H = gN (lk σ 3) H) : ∀ (σ : Sg) (H : Heap), lxK cal φ N (veneerref08DecodeC1 cVeneerref08At cVeneerref08Text) σ H k = veneerref08DecodeC1S cal φ N cVeneerref08At cVeneerref08Text gN (lk σ 0) (lk σ 3) (lk σ 4) H := by
  have hk : k = (kN (fun σ H => gN (lk σ 3) H) k) := (kN_mk hgN rfl)
  intro σ H
  rw [hk]
  show lxK cal φ N (veneerref08DecodeC0 cVeneerref08At cVeneerref08Text) σ H (blockK 0 (kN (fun σ H => gN (lk σ 3) H) k)) = _
  exact veneerref08DecodeC0Eq cal φ N cVeneerref08At cVeneerref08Text (k := (blockK 0 (kN (fun σ H => gN (lk σ 3) H) k))) (fun v3 H => gN v3 H) (fun _ _ => rfl) N σ H
def veneerref08DecodeC2S (cal : FuncId → Bool) (φ : Oracle) (N : Nat) (cVeneerref08At cVeneerref08Text : FuncId) (gN : IV → Heap → Option (IV × Heap)) (v0 v3 : IV) (H : Heap) : Option (IV × Heap) :=
    veneerref08DecodeC1S cal φ N cVeneerref08At cVeneerref08Text (fun v3 H => gN v3 H) v0 v3 (.int .i64 0) H
theorem veneerref08DecodeC2Eq (cal : FuncId → Bool) (φ : Oracle) (N : Nat) (cVeneerref08At cVeneerref08Text : FuncId) {k : KT (IV × Heap)} (gN : IV → Heap → Option (IV × Heap)) (hgN : ∀ σ H, k .normal σ H = gN (lk σ 3) H) : ∀ (σ : Sg) (H : Heap), lxK cal φ N (veneerref08DecodeC2 cVeneerref08At cVeneerref08Text) σ H k = veneerref08DecodeC2S cal φ N cVeneerref08At cVeneerref08Text gN (lk σ 0) (lk σ 3) H := by
  have hk : k = (kN (fun σ H => gN (lk σ 3) H) k) := (kN_mk hgN rfl)
  intro σ H
  rw [hk]
  show lxK cal φ N (.reg [
    ⟨(some 4), (.mv (.k (.int .i64 0))), none⟩]) σ H (seqK (lxK cal φ N (veneerref08DecodeC1 cVeneerref08At cVeneerref08Text)) (kN (fun σ H => gN (lk σ 3) H) k)) = _
  rw [seqK_mk (g := fun σ H => veneerref08DecodeC1S cal φ N cVeneerref08At cVeneerref08Text (fun v3 H => gN v3 H) (lk σ 0) (lk σ 3) (lk σ 4) H) (veneerref08DecodeC1Eq cal φ N cVeneerref08At cVeneerref08Text (k := (kN (fun σ H => gN (lk σ 3) H) k)) (fun v3 H => gN v3 H) (fun _ _ => rfl))]
  kernel_rfl
def veneerref08DecodeC3S (cal : FuncId → Bool) (φ : Oracle) (N : Nat) (cVeneerref08At cVeneerref08Text : FuncId) (v0 v3 : IV) (H : Heap) : Option (IV × Heap) :=
    veneerref08DecodeC2S cal φ N cVeneerref08At cVeneerref08Text (fun v3 H => some (v3, H)) v0 v3 H
theorem veneerref08DecodeC3Eq (cal : FuncId → Bool) (φ : Oracle) (N : Nat) (cVeneerref08At cVeneerref08Text : FuncId) {k : KT (IV × Heap)} (hR : ∀ σ H, k .ret σ H = resK [(.tmp 2)] [] σ H) : ∀ (σ : Sg) (H : Heap), lxK cal φ N (veneerref08DecodeC3 cVeneerref08At cVeneerref08Text) σ H k = veneerref08DecodeC3S cal φ N cVeneerref08At cVeneerref08Text (lk σ 0) (lk σ 3) H := by
  have hk : k = (kR (resK [(.tmp 2)] []) k) := (kR_mk hR rfl)
  intro σ H
  rw [hk]
  show lxK cal φ N (veneerref08DecodeC2 cVeneerref08At cVeneerref08Text) σ H (seqK (lxK cal φ N (.seq (.reg [
    ⟨(some 92), (.mv (.t 3)), none⟩,
    ⟨(some 2), (.mv (.t 92)), none⟩])
  .ret)) (kR (resK [(.tmp 2)] []) k)) = _
  exact veneerref08DecodeC2Eq cal φ N cVeneerref08At cVeneerref08Text (k := (seqK (lxK cal φ N (.seq (.reg [
    ⟨(some 92), (.mv (.t 3)), none⟩,
    ⟨(some 2), (.mv (.t 92)), none⟩])
  .ret)) (kR (resK [(.tmp 2)] []) k))) (fun v3 H => some (v3, H)) (fun _ _ => rfl) σ H
def veneerref08DecodeC4S (cal : FuncId → Bool) (φ : Oracle) (N : Nat) (cVeneerref08At cVeneerref08Text : FuncId) (v0 : IV) (H : Heap) : Option (IV × Heap) :=
    ob (lbldS H 7 0 [(.int .i64 0), (.int .i64 0), (.int .i64 0), (.int .i64 0), (.int .i64 0), (.str []), (.str [])] []) fun r1 =>
    veneerref08DecodeC3S cal φ N cVeneerref08At cVeneerref08Text v0 r1.1 r1.2
theorem veneerref08DecodeC4Eq (cal : FuncId → Bool) (φ : Oracle) (N : Nat) (cVeneerref08At cVeneerref08Text : FuncId) {k : KT (IV × Heap)} (hR : ∀ σ H, k .ret σ H = resK [(.tmp 2)] [] σ H) : ∀ (σ : Sg) (H : Heap), lxK cal φ N (veneerref08DecodeC4 cVeneerref08At cVeneerref08Text) σ H k = veneerref08DecodeC4S cal φ N cVeneerref08At cVeneerref08Text (lk σ 0) H := by
  have hk : k = (kR (resK [(.tmp 2)] []) k) := (kR_mk hR rfl)
  intro σ H
  rw [hk]
  show lxK cal φ N (.reg [
    ⟨(some 8), (.bldS 7 0 [(.int .i64 0), (.int .i64 0), (.int .i64 0), (.int .i64 0), (.int .i64 0), (.str []), (.str [])] []), none⟩,
    ⟨(some 3), (.mv (.t 8)), none⟩]) σ H (seqK (lxK cal φ N (veneerref08DecodeC3 cVeneerref08At cVeneerref08Text)) (kR (resK [(.tmp 2)] []) k)) = _
  rw [seqK_mk (g := fun σ H => veneerref08DecodeC3S cal φ N cVeneerref08At cVeneerref08Text (lk σ 0) (lk σ 3) H) (veneerref08DecodeC3Eq cal φ N cVeneerref08At cVeneerref08Text (k := (kR (resK [(.tmp 2)] []) k)) (fun _ _ => rfl))]
  kernel_rfl
def veneerref08DecodeC5S (cal : FuncId → Bool) (φ : Oracle) (N : Nat) (cVeneerref08At cVeneerref08Text : FuncId) (v0 : IV) (H : Heap) : Option (IV × Heap) :=
    veneerref08DecodeC4S cal φ N cVeneerref08At cVeneerref08Text v0 H
theorem veneerref08DecodeC5Eq (cal : FuncId → Bool) (φ : Oracle) (N : Nat) (cVeneerref08At cVeneerref08Text : FuncId) {k : KT (IV × Heap)} (hR : ∀ σ H, k .ret σ H = resK [(.tmp 2)] [] σ H) : ∀ (σ : Sg) (H : Heap), lxK cal φ N (veneerref08DecodeC5 cVeneerref08At cVeneerref08Text) σ H k = veneerref08DecodeC5S cal φ N cVeneerref08At cVeneerref08Text (lk σ 0) H := by
  have hk : k = (kR (resK [(.tmp 2)] []) k) := (kR_mk hR rfl)
  intro σ H
  rw [hk]
  show lxK cal φ N (.reg [
    ⟨(some 2), (.mv (.k .nilSlice)), none⟩]) σ H (seqK (lxK cal φ N (veneerref08DecodeC4 cVeneerref08At cVeneerref08Text)) (kR (resK [(.tmp 2)] []) k)) = _
  rw [seqK_mk (g := fun σ H => veneerref08DecodeC4S cal φ N cVeneerref08At cVeneerref08Text (lk σ 0) H) (veneerref08DecodeC4Eq cal φ N cVeneerref08At cVeneerref08Text (k := (kR (resK [(.tmp 2)] []) k)) (fun _ _ => rfl))]
  kernel_rfl
def veneerref08Decode (cVeneerref08At cVeneerref08Text : FuncId) : LFun := ⟨(veneerref08DecodeC5 cVeneerref08At cVeneerref08Text), [(.tmp 2)], 93⟩
def veneerref08DecodeS (cal : FuncId → Bool) (φ : Oracle) (N : Nat) (cVeneerref08At cVeneerref08Text : FuncId) (v0 : IV) (H : Heap) : Option (IV × Heap) :=
    veneerref08DecodeC5S cal φ N cVeneerref08At cVeneerref08Text v0 H
theorem veneerref08DecodeEq (cal : FuncId → Bool) (φ : Oracle) (N : Nat) (cVeneerref08At cVeneerref08Text : FuncId) (v0 : IV) (H : Heap) : lrunK cal φ N (veneerref08Decode cVeneerref08At cVeneerref08Text) [v0] H = veneerref08DecodeS cal φ N cVeneerref08At cVeneerref08Text v0 H := by
  show lxK cal φ N (veneerref08DecodeC5 cVeneerref08At cVeneerref08Text) (initFrom 0 [v0]) H (endK [(.tmp 2)]) = _
  exact veneerref08DecodeC5Eq cal φ N cVeneerref08At cVeneerref08Text (k := (endK [(.tmp 2)])) (fun _ _ => rfl) (initFrom 0 [v0]) H

def veneerref08ScriptC0 (cVeneerref08Encode : FuncId) : LC := .loop (.seq (.seq (.reg [
    ⟨(some 12), (.mv (.t 5)), none⟩,
    ⟨(some 13), (.mv (.t 0)), none⟩,
    ⟨(some 14), (.len .slice (.t 13)), none⟩,
    ⟨(some 15), (.bin .lss (.t 12) (.t 14)), none⟩])
  (.cond (.t 15) .skip
  (.exit 0)))
  (.seq (.block 1 (.seq (.reg [
    ⟨(some 19), (.mv (.t 0)), none⟩,
    ⟨(some 20), (.mv (.t 5)), none⟩,
    ⟨(some 21), (.ix 7 (.t 19) (.t 20)), none⟩,
    ⟨(some 22), (.ldn 7 (.t 21)), none⟩,
    ⟨(some 23), (.callF cVeneerref08Encode [(.t 22)]), none⟩,
    ⟨(some 18), (.mv (.t 23)), none⟩,
    ⟨(some 24), (.ext (.t 18) 0), none⟩,
    ⟨(some 25), (.ext (.t 18) 1), none⟩,
    ⟨(some 6), (.mv (.t 24)), none⟩,
    ⟨(some 7), (.mv (.t 25)), none⟩])
  (.seq (.seq (.reg [
    ⟨(some 26), (.mv (.t 7)), none⟩,
    ⟨(some 27), (.bin .neq (.t 26) (.k (.int .i64 0))), none⟩])
  (.cond (.t 27) (.seq (.reg [
    ⟨(some 28), (.mv (.t 7)), none⟩,
    ⟨(some 2), (.mv (.k .nilSlice)), none⟩,
    ⟨(some 3), (.mv (.t 28)), none⟩])
  .ret)
  .skip))
  (.reg [
    ⟨(some 29), (.mv (.t 4)), none⟩,
    ⟨(some 30), (.mv (.t 6)), none⟩,
    ⟨(some 31), (.app 1 1 (.t 29) (.t 30)), none⟩,
    ⟨(some 4), (.mv (.t 31)), none⟩]))))
  (.reg [
    ⟨(some 16), (.mv (.t 5)), none⟩,
    ⟨(some 17), (.bin .add (.t 16) (.k (.int .i64 1))), none⟩,
    ⟨(some 5), (.mv (.t 17)), none⟩])))
def veneerref08ScriptC1 (cVeneerref08Encode : FuncId) : LC := .block 0 (veneerref08ScriptC0 cVeneerref08Encode)
def veneerref08ScriptC2 (cVeneerref08Encode : FuncId) : LC := .seq (.reg [
    ⟨(some 5), (.mv (.k (.int .i64 0))), none⟩]) (veneerref08ScriptC1 cVeneerref08Encode)
def veneerref08ScriptC3 (cVeneerref08Encode : FuncId) : LC := .seq (veneerref08ScriptC2 cVeneerref08Encode) (.seq (.reg [
    ⟨(some 32), (.mv (.t 4)), none⟩,
    ⟨(some 2), (.mv (.t 32)), none⟩,
    ⟨(some 3), (.mv (.k (.int .i64 0))), none⟩])
  .ret)
def veneerref08ScriptC4 (cVeneerref08Encode : FuncId) : LC := .seq (.seq (.reg [
    ⟨(some 9), (.mv (.t 0)), none⟩,
    ⟨(some 10), (.len .slice (.t 9)), none⟩,
    ⟨(some 11), (.bin .gtr (.t 10) (.k (.int .i64 200))), none⟩])
  (.cond (.t 11) (.seq (.reg [
    ⟨(some 2), (.mv (.k .nilSlice)), none⟩,
    ⟨(some 3), (.mv (.k (.int .i64 22))), none⟩])
  .ret)
  .skip)) (veneerref08ScriptC3 cVeneerref08Encode)
def veneerref08ScriptC5 (cVeneerref08Encode : FuncId) : LC := .seq (.reg [
    ⟨(some 8), (.bldS 1 0 [(.int .u8 0)] []), none⟩,
    ⟨(some 4), (.mv (.t 8)), none⟩]) (veneerref08ScriptC4 cVeneerref08Encode)
def veneerref08ScriptC6 (cVeneerref08Encode : FuncId) : LC := .seq (.reg [
    ⟨(some 2), (.mv (.k .nilSlice)), none⟩,
    ⟨(some 3), (.mv (.k (.int .i64 0))), none⟩]) (veneerref08ScriptC5 cVeneerref08Encode)
def veneerref08ScriptC0S (cal : FuncId → Bool) (φ : Oracle) (N : Nat) (cVeneerref08Encode : FuncId) (gE0 : IV → Heap → Option (IV × Heap)) : Nat → IV → IV → IV → Heap → Option (IV × Heap)
  | 0, _, _, _, _ => none
  | n + 1, v0, v4, v5, H =>
    ob (llen H .slice v0) fun t1 =>
    ob (lbin .lss v5 t1) fun t2 =>
    cnd t2
    (ob (lix 7 v0 v5) fun t3 =>
    ob (lloadn H 7 t3) fun t4 =>
    ob (φ cVeneerref08Encode [t4] H) fun r5 =>
    ob (iextract r5.1 0) fun t6 =>
    ob (iextract r5.1 1) fun t7 =>
    ob (lbin .neq t7 (.int .i64 0)) fun t8 =>
    cnd t8
    (some ((.tuple [.nilSlice, t7]), r5.2))
    (ob (lapp r5.2 1 1 v4 t6) fun r9 =>
    ob (lbin .add v5 (.int .i64 1)) fun t10 =>
    veneerref08ScriptC0S cal φ N cVeneerref08Encode gE0 n v0 r9.1 t10 r9.2))
    (gE0 v4 H)
theorem veneerref08ScriptC0Eq (cal : FuncId → Bool) (φ : Oracle) (N : Nat) (cVeneerref08Encode : FuncId) {k : KT (IV × Heap)} (gE0 : IV → Heap → Option (IV × Heap)) (hgE0 : ∀ σ H, k (.exit 0) σ H = gE0 (lk σ 4) H) (hR : ∀ σ H, k .ret σ H = resK [(.tmp 2), (.tmp 3)] [] σ H) : ∀ (n : Nat) (σ : Sg) (H : Heap), itK (lxK cal φ N (.seq (.seq (.reg [
    ⟨(some 12), (.mv (.t 5)), none⟩,
    ⟨(some 13), (.mv (.t 0)), none⟩,
    ⟨(some 14), (.len .slice (.t 13)), none⟩,
    ⟨(some 15), (.bin .lss (.t 12) (.t 14)), none⟩])
  (.cond (.t 15) .skip
  (.exit 0)))
  (.seq (.block 1 (.seq (.reg [
    ⟨(some 19), (.mv (.t 0)), none⟩,
    ⟨(some 20), (.mv (.t 5)), none⟩,
    ⟨(some 21), (.ix 7 (.t 19) (.t 20)), none⟩,
    ⟨(some 22), (.ldn 7 (.t 21)), none⟩,
    ⟨(some 23), (.callF cVeneerref08Encode [(.t 22)]), none⟩,
    ⟨(some 18), (.mv (.t 23)), none⟩,
    ⟨(some 24), (.ext (.t 18) 0), none⟩,
    ⟨(some 25), (.ext (.t 18) 1), none⟩,
    ⟨(some 6), (.mv (.t 24)), none⟩,
    ⟨(some 7), (.mv (.t 25)), none⟩])
  (.seq (.seq (.reg [
    ⟨(some 26), (.mv (.t 7)), none⟩,
    ⟨(some 27), (.bin .neq (.t 26) (.k (.int .i64 0))), none⟩])
  (.cond (.t 27) (.seq (.reg [
    ⟨(some 28), (.mv (.t 7)), none⟩,
    ⟨(some 2), (.mv (.k .nilSlice)), none⟩,
    ⟨(some 3), (.mv (.t 28)), none⟩])
  .ret)
  .skip))
  (.reg [
    ⟨(some 29), (.mv (.t 4)), none⟩,
    ⟨(some 30), (.mv (.t 6)), none⟩,
    ⟨(some 31), (.app 1 1 (.t 29) (.t 30)), none⟩,
    ⟨(some 4), (.mv (.t 31)), none⟩]))))
  (.reg [
    ⟨(some 16), (.mv (.t 5)), none⟩,
    ⟨(some 17), (.bin .add (.t 16) (.k (.int .i64 1))), none⟩,
    ⟨(some 5), (.mv (.t 17)), none⟩])))) n σ H k = veneerref08ScriptC0S cal φ N cVeneerref08Encode gE0 n (lk σ 0) (lk σ 4) (lk σ 5) H := by
  have hk : k = (kE 0 (fun σ H => gE0 (lk σ 4) H) (kR (resK [(.tmp 2), (.tmp 3)] []) k)) := (kE_mk hgE0 (kR_mk hR rfl))
  intro n
  induction n with
  | zero => intro σ H; rfl
  | succ n ih =>
    intro σ H
    rw [itK_succ, seqK_mk (g := fun σ H => veneerref08ScriptC0S cal φ N cVeneerref08Encode gE0 n (lk σ 0) (lk σ 4) (lk σ 5) H) ih, hk]
    kernel_rfl
def veneerref08ScriptC1S (cal : FuncId → Bool) (φ : Oracle) (N : Nat) (cVeneerref08Encode : FuncId) (gN : IV → Heap → Option (IV × Heap)) (v0 v4 v5 : IV) (H : Heap) : Option (IV × Heap) :=
    veneerref08ScriptC0S cal φ N cVeneerref08Encode (fun v4 H => gN v4 H) N v0 v4 v5 H
theorem veneerref08ScriptC1Eq (cal : FuncId → Bool) (φ : Oracle) (N : Nat) (cVeneerref08Encode : FuncId) {k : KT (IV × Heap)} (gN : IV → Heap → Option (IV × Heap)) (hgN : ∀ σ H, k .normal σ H = gN (lk σ 4) H) (hR : ∀ σ H, k .ret σ H = resK [(.tmp 2), (.tmp 3)] [] σ H) : ∀ (σ : Sg) (H : Heap), lxK cal φ N (veneerref08ScriptC1 cVeneerref08Encode) σ H k = veneerref08ScriptC1S cal φ N cVeneerref08Encode gN (lk σ 0) (lk σ 4) (lk σ 5) H := by
  have hk : k = (kN (fun σ H => gN (lk σ 4) H) (kR (resK [(.tmp 2), (.tmp 3)] []) k)) := (kN_mk hgN (kR_mk hR rfl))
  intro σ H
  rw [hk]
  show lxK cal φ N (veneerref08ScriptC0 cVeneerref08Encode) σ H (blockK 0 (kN (fun σ H => gN (lk σ 4) H) (kR (resK [(.tmp 2), (.tmp 3)] []) k))) = _
  exact veneerref08ScriptC0Eq cal φ N cVeneerref08Encode (k := (blockK 0 (kN (fun σ H => gN (lk σ 4) H) (kR (resK [(.tmp 2), (.tmp 3)] []) k)))) (fun v4 H => gN v4 H) (fun _ _ => rfl) (fun _ _ => rfl) N σ H
def veneerref08ScriptC2S (cal : FuncId → Bool) (φ : Oracle) (N : Nat) (cVeneerref08Encode : FuncId) (gN : IV → Heap → Option (IV × Heap)) (v0 v4 : IV) (H : Heap) : Option (IV × Heap) :=
    veneerref08ScriptC1S cal φ N cVeneerref08Encode (fun v4 H => gN v4 H) v0 v4 (.int .i64 0) H
theorem veneerref08ScriptC2Eq (cal : FuncId → Bool) (φ : Oracle) (N : Nat) (cVeneerref08Encode : FuncId) {k : KT (IV × Heap)} (gN : IV → Heap → Option (IV × Heap)) (hgN : ∀ σ H, k .normal σ H = gN (lk σ 4) H) (hR : ∀ σ H, k .ret σ H = resK [(.tmp 2), (.tmp 3)] [] σ H) : ∀ (σ : Sg) (H : Heap), lxK cal φ N (veneerref08ScriptC2 cVeneerref08Encode) σ H k = veneerref08ScriptC2S cal φ N cVeneerref08Encode gN (lk σ 0) (lk σ 4) H := by
  have hk : k = (kN (fun σ H => gN (lk σ 4) H) (kR (resK [(.tmp 2), (.tmp 3)] []) k)) := (kN_mk hgN (kR_mk hR rfl))
  intro σ H
  rw [hk]
  show lxK cal φ N (.reg [
    ⟨(some 5), (.mv (.k (.int .i64 0))), none⟩]) σ H (seqK (lxK cal φ N (veneerref08ScriptC1 cVeneerref08Encode)) (kN (fun σ H => gN (lk σ 4) H) (kR (resK [(.tmp 2), (.tmp 3)] []) k))) = _
  rw [seqK_mk (g := fun σ H => veneerref08ScriptC1S cal φ N cVeneerref08Encode (fun v4 H => gN v4 H) (lk σ 0) (lk σ 4) (lk σ 5) H) (veneerref08ScriptC1Eq cal φ N cVeneerref08Encode (k := (kN (fun σ H => gN (lk σ 4) H) (kR (resK [(.tmp 2), (.tmp 3)] []) k))) (fun v4 H => gN v4 H) (fun _ _ => rfl) (fun _ _ => rfl))]
  kernel_rfl
def veneerref08ScriptC3S (cal : FuncId → Bool) (φ : Oracle) (N : Nat) (cVeneerref08Encode : FuncId) (v0 v4 : IV) (H : Heap) : Option (IV × Heap) :=
    veneerref08ScriptC2S cal φ N cVeneerref08Encode (fun v4 H => some ((.tuple [v4, (.int .i64 0)]), H)) v0 v4 H
theorem veneerref08ScriptC3Eq (cal : FuncId → Bool) (φ : Oracle) (N : Nat) (cVeneerref08Encode : FuncId) {k : KT (IV × Heap)} (hR : ∀ σ H, k .ret σ H = resK [(.tmp 2), (.tmp 3)] [] σ H) : ∀ (σ : Sg) (H : Heap), lxK cal φ N (veneerref08ScriptC3 cVeneerref08Encode) σ H k = veneerref08ScriptC3S cal φ N cVeneerref08Encode (lk σ 0) (lk σ 4) H := by
  have hk : k = (kR (resK [(.tmp 2), (.tmp 3)] []) k) := (kR_mk hR rfl)
  intro σ H
  rw [hk]
  show lxK cal φ N (veneerref08ScriptC2 cVeneerref08Encode) σ H (seqK (lxK cal φ N (.seq (.reg [
    ⟨(some 32), (.mv (.t 4)), none⟩,
    ⟨(some 2), (.mv (.t 32)), none⟩,
    ⟨(some 3), (.mv (.k (.int .i64 0))), none⟩])
  .ret)) (kR (resK [(.tmp 2), (.tmp 3)] []) k)) = _
  exact veneerref08ScriptC2Eq cal φ N cVeneerref08Encode (k := (seqK (lxK cal φ N (.seq (.reg [
    ⟨(some 32), (.mv (.t 4)), none⟩,
    ⟨(some 2), (.mv (.t 32)), none⟩,
    ⟨(some 3), (.mv (.k (.int .i64 0))), none⟩])
  .ret)) (kR (resK [(.tmp 2), (.tmp 3)] []) k))) (fun v4 H => some ((.tuple [v4, (.int .i64 0)]), H)) (fun _ _ => rfl) (fun _ _ => rfl) σ H
def veneerref08ScriptC4S (cal : FuncId → Bool) (φ : Oracle) (N : Nat) (cVeneerref08Encode : FuncId) (v0 v4 : IV) (H : Heap) : Option (IV × Heap) :=
    ob (llen H .slice v0) fun t1 =>
    ob (lbin .gtr t1 (.int .i64 200)) fun t2 =>
    cnd t2
    (some ((.tuple [.nilSlice, (.int .i64 22)]), H))
    (veneerref08ScriptC3S cal φ N cVeneerref08Encode v0 v4 H)
theorem veneerref08ScriptC4Eq (cal : FuncId → Bool) (φ : Oracle) (N : Nat) (cVeneerref08Encode : FuncId) {k : KT (IV × Heap)} (hR : ∀ σ H, k .ret σ H = resK [(.tmp 2), (.tmp 3)] [] σ H) : ∀ (σ : Sg) (H : Heap), lxK cal φ N (veneerref08ScriptC4 cVeneerref08Encode) σ H k = veneerref08ScriptC4S cal φ N cVeneerref08Encode (lk σ 0) (lk σ 4) H := by
  have hk : k = (kR (resK [(.tmp 2), (.tmp 3)] []) k) := (kR_mk hR rfl)
  intro σ H
  rw [hk]
  show lxK cal φ N (.seq (.reg [
    ⟨(some 9), (.mv (.t 0)), none⟩,
    ⟨(some 10), (.len .slice (.t 9)), none⟩,
    ⟨(some 11), (.bin .gtr (.t 10) (.k (.int .i64 200))), none⟩])
  (.cond (.t 11) (.seq (.reg [
    ⟨(some 2), (.mv (.k .nilSlice)), none⟩,
    ⟨(some 3), (.mv (.k (.int .i64 22))), none⟩])
  .ret)
  .skip)) σ H (seqK (lxK cal φ N (veneerref08ScriptC3 cVeneerref08Encode)) (kR (resK [(.tmp 2), (.tmp 3)] []) k)) = _
  rw [seqK_mk (g := fun σ H => veneerref08ScriptC3S cal φ N cVeneerref08Encode (lk σ 0) (lk σ 4) H) (veneerref08ScriptC3Eq cal φ N cVeneerref08Encode (k := (kR (resK [(.tmp 2), (.tmp 3)] []) k)) (fun _ _ => rfl))]
  kernel_rfl
def veneerref08ScriptC5S (cal : FuncId → Bool) (φ : Oracle) (N : Nat) (cVeneerref08Encode : FuncId) (v0 : IV) (H : Heap) : Option (IV × Heap) :=
    ob (lbldS H 1 0 [(.int .u8 0)] []) fun r1 =>
    veneerref08ScriptC4S cal φ N cVeneerref08Encode v0 r1.1 r1.2
theorem veneerref08ScriptC5Eq (cal : FuncId → Bool) (φ : Oracle) (N : Nat) (cVeneerref08Encode : FuncId) {k : KT (IV × Heap)} (hR : ∀ σ H, k .ret σ H = resK [(.tmp 2), (.tmp 3)] [] σ H) : ∀ (σ : Sg) (H : Heap), lxK cal φ N (veneerref08ScriptC5 cVeneerref08Encode) σ H k = veneerref08ScriptC5S cal φ N cVeneerref08Encode (lk σ 0) H := by
  have hk : k = (kR (resK [(.tmp 2), (.tmp 3)] []) k) := (kR_mk hR rfl)
  intro σ H
  rw [hk]
  show lxK cal φ N (.reg [
    ⟨(some 8), (.bldS 1 0 [(.int .u8 0)] []), none⟩,
    ⟨(some 4), (.mv (.t 8)), none⟩]) σ H (seqK (lxK cal φ N (veneerref08ScriptC4 cVeneerref08Encode)) (kR (resK [(.tmp 2), (.tmp 3)] []) k)) = _
  rw [seqK_mk (g := fun σ H => veneerref08ScriptC4S cal φ N cVeneerref08Encode (lk σ 0) (lk σ 4) H) (veneerref08ScriptC4Eq cal φ N cVeneerref08Encode (k := (kR (resK [(.tmp 2), (.tmp 3)] []) k)) (fun _ _ => rfl))]
  kernel_rfl
def veneerref08ScriptC6S (cal : FuncId → Bool) (φ : Oracle) (N : Nat) (cVeneerref08Encode : FuncId) (v0 : IV) (H : Heap) : Option (IV × Heap) :=
    veneerref08ScriptC5S cal φ N cVeneerref08Encode v0 H
theorem veneerref08ScriptC6Eq (cal : FuncId → Bool) (φ : Oracle) (N : Nat) (cVeneerref08Encode : FuncId) {k : KT (IV × Heap)} (hR : ∀ σ H, k .ret σ H = resK [(.tmp 2), (.tmp 3)] [] σ H) : ∀ (σ : Sg) (H : Heap), lxK cal φ N (veneerref08ScriptC6 cVeneerref08Encode) σ H k = veneerref08ScriptC6S cal φ N cVeneerref08Encode (lk σ 0) H := by
  have hk : k = (kR (resK [(.tmp 2), (.tmp 3)] []) k) := (kR_mk hR rfl)
  intro σ H
  rw [hk]
  show lxK cal φ N (.reg [
    ⟨(some 2), (.mv (.k .nilSlice)), none⟩,
    ⟨(some 3), (.mv (.k (.int .i64 0))), none⟩]) σ H (seqK (lxK cal φ N (veneerref08ScriptC5 cVeneerref08Encode)) (kR (resK [(.tmp 2), (.tmp 3)] []) k)) = _
  rw [seqK_mk (g := fun σ H => veneerref08ScriptC5S cal φ N cVeneerref08Encode (lk σ 0) H) (veneerref08ScriptC5Eq cal φ N cVeneerref08Encode (k := (kR (resK [(.tmp 2), (.tmp 3)] []) k)) (fun _ _ => rfl))]
  kernel_rfl
def veneerref08Script (cVeneerref08Encode : FuncId) : LFun := ⟨(veneerref08ScriptC6 cVeneerref08Encode), [(.tmp 2), (.tmp 3)], 33⟩
def veneerref08ScriptS (cal : FuncId → Bool) (φ : Oracle) (N : Nat) (cVeneerref08Encode : FuncId) (v0 : IV) (H : Heap) : Option (IV × Heap) :=
    veneerref08ScriptC6S cal φ N cVeneerref08Encode v0 H
theorem veneerref08ScriptEq (cal : FuncId → Bool) (φ : Oracle) (N : Nat) (cVeneerref08Encode : FuncId) (v0 : IV) (H : Heap) : lrunK cal φ N (veneerref08Script cVeneerref08Encode) [v0] H = veneerref08ScriptS cal φ N cVeneerref08Encode v0 H := by
  show lxK cal φ N (veneerref08ScriptC6 cVeneerref08Encode) (initFrom 0 [v0]) H (endK [(.tmp 2), (.tmp 3)]) = _
  exact veneerref08ScriptC6Eq cal φ N cVeneerref08Encode (k := (endK [(.tmp 2), (.tmp 3)])) (fun _ _ => rfl) (initFrom 0 [v0]) H

end Go.Shade
/- SHADE, part 33: what a function builds by appending; slices that came in. -/
namespace Go.Shade
set_option linter.unusedSimpArgs false
set_option linter.unusedVariables false

/-- A slice of one's own: nil, or a whole row at B or above. -/
def Buf (B : Nat) (s : Nat) (H : Heap) (v : IV) (cs : List IV) : Prop :=
  (v = .nilSlice ∧ cs = []) ∨ ∃ r n ex, v = .slice r 0 n n ex s ∧ B ≤ r ∧ H[r]? = some (.row cs false) ∧ cs.length = n * s
def Keep (B : Nat) (H H' : Heap) : Prop := (∀ i, i < B → H'[i]? = H[i]?) ∧ H.length ≤ H'.length
theorem Keep.refl (B : Nat) (H : Heap) : Keep B H H := ⟨fun _ _ => rfl, Nat.le_refl _⟩
theorem Keep.trans {B : Nat} {H H' H'' : Heap} (h : Keep B H H') (k : Keep B H' H'') : Keep B H H'' := ⟨fun i hi => (k.1 i hi).trans (h.1 i hi), Nat.le_trans h.2 k.2⟩
theorem Keep.mono {B C : Nat} {H H' : Heap} (h : Keep B H H') (hc : C ≤ B) : Keep C H H' := ⟨fun i hi => h.1 i (by omega), h.2⟩
theorem Keep.push {B : Nat} (H X : Heap) (h : B ≤ H.length) : Keep B H (H ++ X) := ⟨fun i hi => List.getElem?_append_left (by omega), by simp⟩
theorem Keep.set {B : Nat} (H : Heap) {r : Nat} (o : IObj) (h : B ≤ r) : Keep B H (H.set r o) := ⟨fun i hi => List.getElem?_set_ne (by omega), by simp⟩
theorem Keep.get {B : Nat} {H H' : Heap} (h : Keep B H H') {i : Nat} {o : IObj} (hi : i < B) (e : H[i]? = some o) : H'[i]? = some o := (h.1 i hi).trans e
theorem Buf.keep {B C s : Nat} {H H' : Heap} {v : IV} {cs : List IV} (h : Buf B s H v cs) (k : Keep C H H') (hc : ∀ r n m ex, v = .slice r 0 n m ex s → r < C) : Buf B s H' v cs := by
  rcases h with h | ⟨r, n, ex, rfl, h1, h2, h3⟩
  · exact .inl h
  · exact .inr ⟨r, n, ex, rfl, h1, k.get (hc r n n ex rfl) h2, h3⟩
theorem Buf.len {B s : Nat} {H : Heap} {v : IV} {cs : List IV} (h : Buf B s H v cs) (hs : 0 < s) : ∃ n, xlen v = some n ∧ cs.length = n * s ∧ llen H .slice v = some (.int .i64 n) := by
  rcases h with ⟨rfl, rfl⟩ | ⟨r, n, ex, rfl, h1, h2, h3⟩
  · exact ⟨0, rfl, by simp, rfl⟩
  · exact ⟨n, rfl, h3, rfl⟩
theorem Buf.cells {B s : Nat} {H : Heap} {v : IV} {cs : List IV} (h : Buf B s H v cs) {n : Nat} (hn : xlen v = some n) : lsl H s v n = some cs := by
  rcases h with ⟨rfl, rfl⟩ | ⟨r, k, ex, rfl, h1, h2, h3⟩
  · simp only [xlen, Option.some.injEq] at hn; subst hn; rfl
  · simp only [xlen, Option.some.injEq] at hn; subst hn
    simp only [lsl, Nat.le_refl, if_true]
    split
    · rename_i e; subst e; simp at h3; subst h3; rfl
    · simp only [irow, h2, Nat.zero_add, h3, Nat.le_refl, if_true, List.drop_zero]
      rw [List.take_of_length_le (by omega)]
theorem lfresh_eq {s b : Nat} {H : Heap} {old new : List IV} {k : Nat} (h1 : k * b ≤ 140737488355328) (h2 : (old ++ new).length = k * s) : lfresh s b H old new k = some (.val (.slice H.length 0 k k false s), H ++ [.row (old ++ new) false]) := by
  unfold lfresh; rw [if_pos ⟨h1, h2⟩]
theorem app_buf {B s b : Nat} {H : Heap} {v x : IV} {cs new : List IV} {k : Nat} (h : Buf B s H v cs) (hB : B ≤ H.length) (hs : 0 < s) (hx : xlen x = some k) (hc : lxcells H s x k = some new) (hl : new.length = k * s) (h1 : new.all IV.one = true) (hb : (cs.length + new.length) * b ≤ 140737488355328) :
    ∃ v' H', lapp H s b v x = some (v', H') ∧ Buf B s H' v' (cs ++ new) ∧ Keep B H H' := by
  unfold lapp lappend
  rw [hx]
  simp only [Option.bind_some]
  by_cases h0 : k = 0
  · subst h0
    have hnew : new = [] := by simp at hl; exact hl
    subst hnew
    simp only [if_true, List.append_nil]
    rcases h with ⟨rfl, rfl⟩ | ⟨r, n, ex, rfl, g1, g2, g3⟩
    · exact ⟨_, _, rfl, .inl ⟨rfl, rfl⟩, Keep.refl _ _⟩
    · exact ⟨_, _, rfl, .inr ⟨r, n, ex, rfl, g1, g2, g3⟩, Keep.refl _ _⟩
  · rw [if_neg h0, hc]
    simp only [Option.bind_some]
    rw [if_pos ⟨hl, h1⟩]
    rcases h with ⟨rfl, rfl⟩ | ⟨r, n, ex, rfl, g1, g2, g3⟩
    · have hk : k * b ≤ 140737488355328 := by
        refine Nat.le_trans (Nat.mul_le_mul_right b ?_) hb
        simp only [List.length_nil, Nat.zero_add, hl]
        exact Nat.le_mul_of_pos_right k hs
      simp only [lfresh_eq (old := []) hk (by simpa using hl)]
      exact ⟨_, _, rfl, .inr ⟨H.length, k, false, rfl, hB, by simp, by simpa using hl⟩, Keep.push H _ hB⟩
    · have hold : lsl H s (.slice r 0 n n ex s) n = some cs := Buf.cells (B := B) (.inr ⟨r, n, ex, rfl, g1, g2, g3⟩) rfl
      have hlen : (cs ++ new).length = (n + k) * s := by simp only [List.length_append, g3, hl, Nat.add_mul]
      have hk : (n + k) * b ≤ 140737488355328 := by
        refine Nat.le_trans (Nat.mul_le_mul_right b ?_) hb
        rw [g3, hl, ← Nat.add_mul]
        exact Nat.le_mul_of_pos_right (n + k) hs
      simp only
      rw [if_neg (by omega), hold]
      simp only [Option.bind_some]
      cases ex with
      | true =>
        simp only [if_true, lfresh_eq (H := H) hk hlen]
        exact ⟨_, _, rfl, .inr ⟨H.length, n + k, false, rfl, hB, by simp, hlen⟩, Keep.push H _ hB⟩
      | false =>
        simp only [Bool.false_eq_true, if_false, g2, if_true, lfresh_eq (H := H.set r .dead) hk hlen]
        refine ⟨_, _, rfl, .inr ⟨(H.set r .dead).length, n + k, false, rfl, by simpa using hB, by simp, hlen⟩, ?_⟩
        exact (Keep.set H .dead g1).trans (Keep.push _ _ (by simpa using hB))
def bytes (l : List UInt8) : List IV := l.map fun b => .int .u8 b.toNat
theorem bytes_length (l : List UInt8) : (bytes l).length = l.length := by simp [bytes]
theorem bytes_one (l : List UInt8) : (bytes l).all IV.one = true := by simp [bytes, IV.one]
theorem bytes_append (a b : List UInt8) : bytes (a ++ b) = bytes a ++ bytes b := by simp [bytes]
theorem ibytes_bytes : ∀ (l : List UInt8), ibytes (bytes l) = some l
  | [] => rfl
  | b :: l => by
    have := ibytes_bytes l
    simp only [bytes, List.map_cons, ibytes] at this ⊢
    rw [this]; simp
theorem bytes_inB (l : List UInt8) (n : Nat) : inBs n (bytes l) = true := by
  induction l with
  | nil => rfl
  | cons b l ih => simp only [bytes, List.map_cons, inBs, inB, Bool.true_and] at ih ⊢; exact ih
theorem lxcells_str {H : Heap} {l : List UInt8} : lxcells H 1 (.str l) l.length = some (bytes l) := by simp [lxcells, bytes]
theorem app_str {B b : Nat} {H : Heap} {v : IV} {cs : List IV} {l : List UInt8} (h : Buf B 1 H v cs) (hB : B ≤ H.length) (hb : (cs.length + l.length) * b ≤ 140737488355328) : ∃ v' H', lapp H 1 b v (.str l) = some (v', H') ∧ Buf B 1 H' v' (cs ++ bytes l) ∧ Keep B H H' :=
  app_buf h hB (by omega) rfl lxcells_str (by simp [bytes_length]) (bytes_one l) (by rw [bytes_length]; exact hb)
theorem app_own {B C s b : Nat} {H : Heap} {v x : IV} {cs new : List IV} (h : Buf B s H v cs) (hB : B ≤ H.length) (hs : 0 < s) (hx : Buf C s H x new) (h1 : new.all IV.one = true) (hb : (cs.length + new.length) * b ≤ 140737488355328) : ∃ v' H', lapp H s b v x = some (v', H') ∧ Buf B s H' v' (cs ++ new) ∧ Keep B H H' := by
  obtain ⟨n, h2, h3, _⟩ := hx.len hs
  refine app_buf h hB hs h2 ?_ h3 h1 hb
  have : lxcells H s x n = lsl H s x n := by
    rcases hx with ⟨rfl, _⟩ | ⟨r, k, ex, rfl, _⟩ <;> rfl
  rw [this]; exact hx.cells h2
end Go.Shade
/- SHADE, part 34: what comes out, told by a property. -/
namespace Go.Shade
set_option linter.unusedSimpArgs false
set_option linter.unusedVariables false
def Wp {α : Type} (x : Option α) (Q : α → Prop) : Prop := ∃ a, x = some a ∧ Q a
section
variable {α β : Type} {Q : β → Prop}
theorem Wp.ret {a : β} (h : Q a) : Wp (some a) Q := ⟨a, rfl, h⟩
theorem Wp.ob {x : Option α} {f : α → Option β} (h : Wp x fun a => Wp (f a) Q) : Wp (Shade.ob x f) Q := by
  obtain ⟨a, rfl, h2⟩ := h; exact h2
theorem Wp.of {x : Option α} {f : α → Option β} {a : α} (h : x = some a) (k : Wp (f a) Q) : Wp (Shade.ob x f) Q := by
  subst h; exact k
theorem Wp.call {x : Option α} {f : α → Option β} {R : α → Prop} (h : Wp x R) (k : ∀ a, R a → Wp (f a) Q) : Wp (Shade.ob x f) Q := by
  obtain ⟨a, rfl, h2⟩ := h; exact k a h2
theorem Wp.mono {x : Option β} {R : β → Prop} (h : Wp x R) (k : ∀ a, R a → Q a) : Wp x Q := by
  obtain ⟨a, rfl, h2⟩ := h; exact ⟨a, rfl, k a h2⟩
theorem Wp.dec {p : Prop} [Decidable p] {x y : Option β} (h1 : p → Wp x Q) (h2 : ¬ p → Wp y Q) : Wp (cnd (.bool (decide p)) x y) Q := by
  by_cases hp : p
  · rw [decide_eq_true hp, cnd_true]; exact h1 hp
  · rw [decide_eq_false hp, cnd_false]; exact h2 hp
theorem Wp.ndec {p : Prop} [Decidable p] {x y : Option β} (h1 : ¬ p → Wp x Q) (h2 : p → Wp y Q) : Wp (cnd (.bool (!decide p)) x y) Q := by
  by_cases hp : p
  · rw [decide_eq_true hp, Bool.not_true, cnd_false]; exact h2 hp
  · rw [decide_eq_false hp, Bool.not_false, cnd_true]; exact h1 hp
theorem Wp.cndb {b : Bool} {x y : Option β} (h1 : b = true → Wp x Q) (h2 : b = false → Wp y Q) : Wp (cnd (.bool b) x y) Q := by
  cases b
  · rw [cnd_false]; exact h2 rfl
  · rw [cnd_true]; exact h1 rfl
end
theorem wrap_i64 {x : Int} (h1 : -9223372036854775808 ≤ x) (h2 : x < 9223372036854775808) : IntKind.wrap .i64 x = x := by
  have h : IntKind.wrap .i64 x = if x % 18446744073709551616 ≥ 9223372036854775808 then x % 18446744073709551616 - 18446744073709551616 else x % 18446744073709551616 := by
    unfold IntKind.wrap; simp [IntKind.bits, IntKind.signed]
  rw [h]
  split <;> omega
end Go.Shade
/- CALL, part 3: what the functions of the layer 'call' come to. -/
namespace Go.Shade
set_option linter.unusedVariables false
set_option linter.unusedSimpArgs false
theorem within_s {cal : FuncId → Bool} {φ : Oracle} {N : Nat} (a lo hi : Int) (H : Heap) : callWithinS cal φ N (.int .i64 a) (.int .i64 lo) (.int .i64 hi) H = some (.bool (decide (lo ≤ a) && decide (a ≤ hi)), H) := by
  unfold callWithinS
  cases h1 : decide (lo ≤ a) <;> simp only [go_sem, h1]
/-- A call, as numbers and texts. -/
structure Cl where
  op : Int
  fd : Int
  fl : Int
  n : Int
  off : Int
  a : List UInt8
  b : List UInt8
  deriving DecidableEq
def Cl.cells (c : Cl) : List IV := [.int .i64 c.op, .int .i64 c.fd, .int .i64 c.fl, .int .i64 c.n, .int .i64 c.off, .str c.a, .str c.b]
def Cl.may (c : Cl) : Bool := (decide (1 ≤ c.op) && decide (c.op ≤ 20)) && ((decide (-4 ≤ c.fd) && decide (c.fd ≤ 35)) && ((decide (0 ≤ c.fl) && decide (c.fl ≤ 63)) && ((decide (-256 ≤ c.n) && decide (c.n ≤ 65279)) && ((decide (-256 ≤ c.off) && decide (c.off ≤ 65279)) && (decide ((c.a.length : Int) < 64) && decide ((c.b.length : Int) < 64))))))
def WithinOk (φ : Oracle) (w : FuncId) : Prop := ∀ (a lo hi : Int) (H : Heap), φ w [.int .i64 a, .int .i64 lo, .int .i64 hi] H = some (.bool (decide (lo ≤ a) && decide (a ≤ hi)), H)
theorem may_s {cal : FuncId → Bool} {φ : Oracle} {N : Nat} {w : FuncId} (hw : WithinOk φ w) (c : Cl) (H : Heap) : callMayS cal φ N w (.agg c.cells) H = some (.bool c.may, H ++ [IObj.row c.cells false]) := by
  unfold callMayS Cl.may
  have hb : lbox H (.agg c.cells) = some (.ptr H.length 0, H ++ [IObj.row c.cells false]) := lbox_agg rfl
  unfold WithinOk at hw
  simp only [hb, hw, go_sem]
  cases h1 : (decide (1 ≤ c.op) && decide (c.op ≤ 20))
  · simp only [go_sem, Cl.cells, hw, h1]
  cases h2 : (decide (-4 ≤ c.fd) && decide (c.fd ≤ 35))
  · simp only [go_sem, Cl.cells, hw, h1, h2]
  cases h3 : (decide (0 ≤ c.fl) && decide (c.fl ≤ 63))
  · simp only [go_sem, Cl.cells, hw, h1, h2, h3]
  cases h4 : (decide (-256 ≤ c.n) && decide (c.n ≤ 65279))
  · simp only [go_sem, Cl.cells, hw, h1, h2, h3, h4]
  cases h5 : (decide (-256 ≤ c.off) && decide (c.off ≤ 65279))
  · simp only [go_sem, Cl.cells, hw, h1, h2, h3, h4, h5]
  cases h6 : decide ((c.a.length : Int) < 64)
  · simp only [go_sem, Cl.cells, hw, h1, h2, h3, h4, h5, h6]
  simp only [go_sem, Cl.cells, hw, h1, h2, h3, h4, h5, h6]

/-! ### encoding -/
def ub (x : Int) : UInt8 := UInt8.ofNat (x % 256).toNat
theorem wrap_u8 (x : Int) : IntKind.wrap .u8 x = ((ub x).toNat : Int) := by
  have h : IntKind.wrap .u8 x = x % 256 := by unfold IntKind.wrap; simp [IntKind.bits, IntKind.signed]
  rw [h]
  simp only [ub, UInt8.toNat_ofNat']
  omega
theorem shr8 {a : Int} : lbin .shr (.int .i64 a) (.int .u64 8) = some (.int .i64 (a / 256)) := by
  simp only [lbin, ishift]
  rw [if_neg (by decide)]
  have : (2 : Int) ^ (min (8 : Int).toNat IntKind.i64.bits) = 256 := by simp [IntKind.bits]
  rw [this, Int.fdiv_eq_ediv_of_nonneg _ (by decide)]
def Cl.enc (c : Cl) : List UInt8 := [ub (c.op - 1), ub (c.fd + 4), ub c.fl, ub ((c.n + 256) / 256), ub (c.n + 256), ub ((c.off + 256) / 256), ub (c.off + 256), ub c.a.length] ++ c.a ++ ([ub c.b.length] ++ c.b)
def MayOk (φ : Oracle) (f : FuncId) : Prop := ∀ (c : Cl) (H : Heap), φ f [.agg c.cells] H = some (.bool c.may, H)
theorem Cl.c0 (c : Cl) : c.cells[0]? = some (.int .i64 c.op) := rfl
theorem Cl.c1 (c : Cl) : c.cells[1]? = some (.int .i64 c.fd) := rfl
theorem Cl.c2 (c : Cl) : c.cells[2]? = some (.int .i64 c.fl) := rfl
theorem Cl.c3 (c : Cl) : c.cells[3]? = some (.int .i64 c.n) := rfl
theorem Cl.c4 (c : Cl) : c.cells[4]? = some (.int .i64 c.off) := rfl
theorem Cl.c5 (c : Cl) : c.cells[5]? = some (.str c.a) := rfl
theorem Cl.c6 (c : Cl) : c.cells[6]? = some (.str c.b) := rfl
theorem Cl.may_iff (c : Cl) : c.may = true ↔ (1 ≤ c.op ∧ c.op ≤ 20) ∧ (-4 ≤ c.fd ∧ c.fd ≤ 35) ∧ (0 ≤ c.fl ∧ c.fl ≤ 63) ∧ (-256 ≤ c.n ∧ c.n ≤ 65279) ∧ (-256 ≤ c.off ∧ c.off ≤ 65279) ∧ (c.a.length : Int) < 64 ∧ (c.b.length : Int) < 64 := by
  simp only [Cl.may, Bool.and_eq_true, decide_eq_true_eq]
theorem enc_no {cal : FuncId → Bool} {φ : Oracle} {N : Nat} {f : FuncId} (hm : MayOk φ f) {c : Cl} (h : c.may = false) (H : Heap) : callEncodeS cal φ N f (.agg c.cells) H = some (.tuple [.nilSlice, .int .i64 22], H ++ [IObj.row c.cells false]) := by
  unfold callEncodeS
  unfold MayOk at hm
  have hb : lbox H (.agg c.cells) = some (.ptr H.length 0, H ++ [IObj.row c.cells false]) := lbox_agg rfl
  have hl : lloadn (H ++ [IObj.row c.cells false]) 7 (.ptr H.length 0) = some (.agg c.cells) := by
    rw [lloadn_ptr, at_new]; rfl
  rw [hb, ob_some]
  simp only
  rw [hl, ob_some, hm, ob_some]
  simp only
  rw [h, iun_not, ob_some]
  rfl
theorem enc_yes {cal : FuncId → Bool} {φ : Oracle} {N : Nat} {f : FuncId} (hm : MayOk φ f) {c : Cl} (h : c.may = true) (H : Heap) :
    ∃ v H', callEncodeS cal φ N f (.agg c.cells) H = some (.tuple [v, .int .i64 0], H') ∧ Buf (H.length + 1) 1 H' v (bytes c.enc) ∧ Keep (H.length + 1) (H ++ [IObj.row c.cells false]) H' := by
  unfold callEncodeS
  unfold MayOk at hm
  obtain ⟨⟨m1, m2⟩, ⟨m3, m4⟩, ⟨m5, m6⟩, ⟨m7, m8⟩, ⟨m9, m10⟩, m11, m12⟩ := c.may_iff.1 h
  have hb : lbox H (.agg c.cells) = some (.ptr H.length 0, H ++ [IObj.row c.cells false]) := lbox_agg rfl
  have hl : lloadn (H ++ [IObj.row c.cells false]) 7 (.ptr H.length 0) = some (.agg c.cells) := by
    rw [lloadn_ptr, at_new]; rfl
  have hcell : ∀ {H' : Heap}, H'[H.length]? = some (.row c.cells false) → ∀ k, lload1 H' (.ptr H.length k) = c.cells[k]? := by
    intro H' e k; rw [lload1_ptr, e]; rfl
  have h0 : (H ++ [IObj.row c.cells false])[H.length]? = some (.row c.cells false) := by rw [at_new]; rfl
  have w1 : IntKind.wrap .i64 (c.n - (-256)) = c.n + 256 := by rw [wrap_i64 (by omega) (by omega)]; omega
  have w2 : IntKind.wrap .i64 (c.off - (-256)) = c.off + 256 := by rw [wrap_i64 (by omega) (by omega)]; omega
  have w3 : IntKind.wrap .i64 (c.op - 1) = c.op - 1 := wrap_i64 (by omega) (by omega)
  have w4 : IntKind.wrap .i64 (c.fd - (-4)) = c.fd + 4 := by rw [wrap_i64 (by omega) (by omega)]; omega
  rw [hb, ob_some]
  simp only
  rw [hl, ob_some, hm, ob_some]
  simp only
  rw [h, iun_not, ob_some]
  simp only [Bool.not_true]
  rw [cnd_false]
  simp only [loff_ptr, Nat.zero_add, ob_some, hcell h0, Cl.c0, Cl.c1, Cl.c2, Cl.c3, Cl.c4, Cl.c5, Cl.c6, lbin_sub, w1, w2, w3, w4]
  simp only [lcvt_int, ob_some, shr8, wrap_u8, llen_str]
  have hbl : lbldS (H ++ [IObj.row c.cells false]) 1 8 [.int .u8 0] [(0, .int .u8 ((ub (c.op - 1)).toNat : Int)), (1, .int .u8 ((ub (c.fd + 4)).toNat : Int)), (2, .int .u8 ((ub c.fl).toNat : Int)), (3, .int .u8 ((ub ((c.n + 256) / 256)).toNat : Int)), (4, .int .u8 ((ub (c.n + 256)).toNat : Int)), (5, .int .u8 ((ub ((c.off + 256) / 256)).toNat : Int)), (6, .int .u8 ((ub (c.off + 256)).toNat : Int)), (7, .int .u8 ((ub c.a.length).toNat : Int))] =
      some (.slice (H ++ [IObj.row c.cells false]).length 0 8 8 true 1, (H ++ [IObj.row c.cells false]) ++ [.row (bytes [ub (c.op - 1), ub (c.fd + 4), ub c.fl, ub ((c.n + 256) / 256), ub (c.n + 256), ub ((c.off + 256) / 256), ub (c.off + 256), ub c.a.length]) false]) := rfl
  rw [hbl, ob_some]
  have k0 : Keep (H.length + 1) (H ++ [IObj.row c.cells false]) ((H ++ [IObj.row c.cells false]) ++ [IObj.row (bytes [ub (c.op - 1), ub (c.fd + 4), ub c.fl, ub ((c.n + 256) / 256), ub (c.n + 256), ub ((c.off + 256) / 256), ub (c.off + 256), ub c.a.length]) false]) := Keep.push _ _ (by simp)
  have b0 : Buf (H.length + 1) 1 ((H ++ [IObj.row c.cells false]) ++ [IObj.row (bytes [ub (c.op - 1), ub (c.fd + 4), ub c.fl, ub ((c.n + 256) / 256), ub (c.n + 256), ub ((c.off + 256) / 256), ub (c.off + 256), ub c.a.length]) false]) (.slice (H ++ [IObj.row c.cells false]).length 0 8 8 true 1) (bytes [ub (c.op - 1), ub (c.fd + 4), ub c.fl, ub ((c.n + 256) / 256), ub (c.n + 256), ub ((c.off + 256) / 256), ub (c.off + 256), ub c.a.length]) :=
    .inr ⟨_, 8, true, rfl, by simp, by simp, rfl⟩
  generalize (H ++ [IObj.row c.cells false]) ++ [IObj.row (bytes [ub (c.op - 1), ub (c.fd + 4), ub c.fl, ub ((c.n + 256) / 256), ub (c.n + 256), ub ((c.off + 256) / 256), ub (c.off + 256), ub c.a.length]) false] = H1 at k0 b0 ⊢
  generalize (IV.slice (H ++ [IObj.row c.cells false]).length 0 8 8 true 1) = v1 at b0 ⊢
  have hB : ∀ {H' : Heap}, Keep (H.length + 1) (H ++ [IObj.row c.cells false]) H' → H.length + 1 ≤ H'.length := fun k => by have := k.2; simp at this; exact this
  have hC : ∀ {H' : Heap}, Keep (H.length + 1) (H ++ [IObj.row c.cells false]) H' → H'[H.length]? = some (.row c.cells false) := fun k => k.get (by omega) h0
  simp only [hcell (hC k0), Cl.c5, ob_some]
  obtain ⟨v2, H2, a1, b1, k1⟩ := app_str (b := 1) (l := c.a) b0 (hB k0) (by simp [bytes_length]; omega)
  have k1 := k0.trans k1
  rw [a1, ob_some]
  simp only [hcell (hC k1), Cl.c6, ob_some, llen_str, lcvt_int, wrap_u8]
  have hbl2 : lbldS H2 1 1 [.int .u8 0] [(0, .int .u8 ((ub c.b.length).toNat : Int))] = some (.slice H2.length 0 1 1 true 1, H2 ++ [.row (bytes [ub c.b.length]) false]) := rfl
  rw [hbl2, ob_some]
  have k2 : Keep (H.length + 1) H2 (H2 ++ [.row (bytes [ub c.b.length]) false]) := Keep.push _ _ (hB k1)
  have b2 : Buf 0 1 (H2 ++ [.row (bytes [ub c.b.length]) false]) (.slice H2.length 0 1 1 true 1) (bytes [ub c.b.length]) := .inr ⟨_, 1, true, rfl, by omega, by simp, rfl⟩
  have b1' : Buf (H.length + 1) 1 (H2 ++ [.row (bytes [ub c.b.length]) false]) v2 _ := b1.keep (Keep.push (B := H2.length) H2 [.row (bytes [ub c.b.length]) false] (Nat.le_refl _)) (fun r n m ex e => by
    rcases b1 with ⟨e', _⟩ | ⟨r', n', ex', e', _, hr, _⟩
    · rw [e] at e'; cases e'
    · rw [e] at e'; cases e'; exact (List.getElem?_eq_some_iff.1 hr).1)
  have k2' := k1.trans k2
  obtain ⟨v3, H3, a3, b3, k3⟩ := app_own (b := 1) b1' (hB k2') (by omega) b2 (bytes_one _) (by simp [bytes_length]; omega)
  have k3 := k2'.trans k3
  simp only at a3 ⊢
  rw [a3, ob_some]
  simp only [hcell (hC k3), Cl.c6, ob_some]
  obtain ⟨v4, H4, a4, b4, k4⟩ := app_str (b := 1) (l := c.b) b3 (hB k3) (by simp [bytes_length]; omega)
  rw [a4, ob_some]
  refine ⟨v4, H4, rfl, ?_, k3.trans k4⟩
  have : bytes c.enc = bytes [ub (c.op - 1), ub (c.fd + 4), ub c.fl, ub ((c.n + 256) / 256), ub (c.n + 256), ub ((c.off + 256) / 256), ub (c.off + 256), ub c.a.length] ++ bytes c.a ++ bytes [ub c.b.length] ++ bytes c.b := by
    simp only [Cl.enc, ← bytes_append, List.append_assoc]
  rw [this]; exact b4
end Go.Shade
/- CALL, part 4: decoding: the closures that read. -/
namespace Go.Shade
set_option linter.unusedVariables false
set_option linter.unusedSimpArgs false

/-- A slice of bytes, wherever it lies: its bytes. -/
def BS (H : Heap) (v : IV) (bs : List UInt8) : Prop :=
  (v = .nilSlice ∧ bs = []) ∨ ∃ b o n lb ex sz, v = .slice b o n lb ex sz ∧ n ≤ lb ∧ (sz = 0 ∨ sz = 1) ∧ bs.length = n ∧ (0 < n → ∃ cells ro, H[b]? = some (.row cells ro) ∧ ∀ i, i < n → cells[o + i]? = some (.int .u8 ((bs.getD i 0).toNat : Int)))
def tailN (k : Nat) : IV → IV
  | .slice b o n lb ex sz => .slice b (o + min k n) (n - min k n) (lb - min k n) ex sz
  | v => v
def off (H : Heap) (p : Nat) (v : IV) : Prop := ∀ b o n lb ex sz, v = .slice b o n lb ex sz → b ≠ p
theorem BS.tail {H : Heap} {v : IV} {bs : List UInt8} (h : BS H v bs) (k : Nat) : BS H (tailN k v) (bs.drop k) := by
  rcases h with ⟨rfl, rfl⟩ | ⟨b, o, n, lb, ex, sz, rfl, h1, h2, h3, h4⟩
  · exact .inl ⟨rfl, by simp⟩
  · refine .inr ⟨b, o + min k n, n - min k n, lb - min k n, ex, sz, rfl, by omega, h2, by simp; omega, fun hn => ?_⟩
    obtain ⟨cells, ro, g1, g2⟩ := h4 (by omega)
    refine ⟨cells, ro, g1, fun i hi => ?_⟩
    have := g2 (min k n + i) (by omega)
    rw [Nat.add_assoc, this]
    have e : min k n = k := by omega
    simp only [e, List.getD_eq_getElem?_getD, List.getElem?_drop]
theorem BS.set {H : Heap} {v : IV} {bs : List UInt8} (h : BS H v bs) {p : Nat} (o : IObj) (hp : off H p v) : BS (H.set p o) v bs := by
  rcases h with ⟨rfl, rfl⟩ | ⟨b, o', n, lb, ex, sz, rfl, h1, h2, h3, h4⟩
  · exact .inl ⟨rfl, rfl⟩
  · refine .inr ⟨b, o', n, lb, ex, sz, rfl, h1, h2, h3, fun hn => ?_⟩
    obtain ⟨cells, ro, g1, g2⟩ := h4 hn
    exact ⟨cells, ro, by rw [List.getElem?_set_ne (Ne.symm (hp _ _ _ _ _ _ rfl))]; exact g1, g2⟩
theorem BS.keep {H H' : Heap} {v : IV} {bs : List UInt8} (h : BS H v bs) (hk : ∀ (i : Nat) o, H[i]? = some o → H'[i]? = some o) : BS H' v bs := by
  rcases h with ⟨rfl, rfl⟩ | ⟨b, o', n, lb, ex, sz, rfl, h1, h2, h3, h4⟩
  · exact .inl ⟨rfl, rfl⟩
  · refine .inr ⟨b, o', n, lb, ex, sz, rfl, h1, h2, h3, fun hn => ?_⟩
    obtain ⟨cells, ro, g1, g2⟩ := h4 hn
    exact ⟨cells, ro, hk _ _ g1, g2⟩
theorem off_tail {H : Heap} {p k : Nat} {v : IV} (h : off H p v) : off H p (tailN k v) := by
  intro b o n lb ex sz e
  cases v <;> simp only [tailN] at e <;> first | (cases e; done) | skip
  cases e; exact h _ _ _ _ _ _ rfl
theorem tailN_tailN (j k : Nat) (v : IV) : tailN k (tailN j v) = tailN (j + k) v := by
  cases v <;> simp only [tailN]
  rename_i b o n lb ex sz
  congr 1 <;> omega
theorem tailN_zero (v : IV) : tailN 0 v = v := by cases v <;> simp [tailN]
/-- Reading one byte; 0 where there is none. -/
theorem one_s {cal : FuncId → Bool} {φ : Oracle} {N : Nat} {H : Heap} {p : Nat} {v : IV} {bs : List UInt8} (hp : H[p]? = some (.row [v] false)) (hb : BS H v bs) :
    callDecode1S cal φ N (.ptr p 0) H = some (.int .i64 ((bs.getD 0 0).toNat : Int), H.set p (.row [tailN 1 v] false)) := by
  unfold callDecode1S
  have hl : lload1 H (.ptr p 0) = some v := by rw [lload1_ptr, hp]; rfl
  have hself : H.set p (.row [v] false) = H := by
    apply List.ext_getElem?
    intro i
    rw [List.getElem?_set]
    split
    · rename_i e; subst e; split
      · exact hp.symm
      · rename_i hlt; rw [List.getElem?_eq_none (by omega)]
    · rfl
  rw [hl, ob_some]
  rcases hb with ⟨rfl, rfl⟩ | ⟨b, o, n, lb, ex, sz, rfl, h1, h2, h3, h4⟩
  · rw [llen_nil, ob_some, lbin_eql, ob_some]
    simp only [decide_true, cnd_true, tailN, hself]
    rfl
  · rw [llen_slice, ob_some, lbin_eql, ob_some]
    by_cases h0 : n = 0
    · subst h0
      have : bs = [] := List.length_eq_zero_iff.1 h3
      subst this
      simp only [Int.natCast_zero, decide_true, cnd_true, tailN, Nat.min_zero, Nat.add_zero, Nat.sub_zero, hself]
      rfl
    · have hd : decide ((n : Int) = 0) = false := decide_eq_false (by omega)
      rw [hd, cnd_false, ob_some, lix_slice, if_pos (by omega), ob_some]
      obtain ⟨cells, ro, g1, g2⟩ := h4 (by omega)
      have hx : lload1 H (.ptr b (o + (0 : Int).toNat * 1)) = some (.int .u8 ((bs.getD 0 0).toNat : Int)) := by
        rw [lload1_ptr, g1, og1_row]; exact g2 0 (by omega)
      rw [hx, ob_some, ob_some]
      have hs : lslice H (.slice 1) (.slice b o n lb ex sz) (some (.int .i64 1)) none none = some (.slice b (o + 1) (n - 1) (lb - 1) ex sz) := by
        have e1 : bnd n none = some n := rfl
        have e2 : bnd 0 (some (.int .i64 1)) = some 1 := rfl
        simp only [lslice, e1, e2, Option.bind_some]
        rw [if_neg (by omega), if_pos (by omega)]
      rw [hs, ob_some, lstV_ptr, hp, putO_one rfl (by simp), ob_some, ob_some, lcvt_int, ob_some]
      have hw : IntKind.wrap .i64 ((bs.getD 0 0).toNat : Int) = ((bs.getD 0 0).toNat : Int) := wrap_i64 (by omega) (by have := (bs.getD 0 0).toNat_lt; omega)
      simp only [hw, List.set_cons_zero, tailN, Nat.min_eq_left (show 1 ≤ n by omega)]

/-- The closures, as they are handed on: 'one' reads, 'two' and 'text' call it. -/
def OneOk (φ : Oracle) (f1 : FuncId) : Prop := ∀ (H : Heap) (p : Nat) (v : IV) (bs : List UInt8), H[p]? = some (.row [v] false) → BS H v bs → φ f1 [.ptr p 0] H = some (.int .i64 ((bs.getD 0 0).toNat : Int), H.set p (.row [tailN 1 v] false))
theorem set_same {H : Heap} {p : Nat} {o : IObj} (hp : H[p]? = some o) : H.set p o = H := by
  apply List.ext_getElem?
  intro i
  rw [List.getElem?_set]
  split
  · rename_i e; subst e; split
    · exact hp.symm
    · rename_i hlt; rw [List.getElem?_eq_none (by omega)]
  · rfl
theorem set_at {H : Heap} {p : Nat} {o o' : IObj} (hp : H[p]? = some o) : (H.set p o')[p]? = some o' := by
  rw [List.getElem?_set]; rw [if_pos rfl, if_pos (List.getElem?_eq_some_iff.1 hp).1]
theorem getD_drop (bs : List UInt8) (k : Nat) : (bs.drop k).getD 0 0 = bs.getD k 0 := by
  simp [List.getD_eq_getElem?_getD]
def OneF (f1 : FuncId) (p : Nat) : IV := .func (.func f1) [] [.ptr p 0]
theorem two_s {cal : FuncId → Bool} {φ : Oracle} {N : Nat} {H : Heap} {f1 p q : Nat} {v : IV} {bs : List UInt8} (hc : cal f1 = true) (h1 : OneOk φ f1) (hq : H[q]? = some (.row [OneF f1 p] false)) (hp : H[p]? = some (.row [v] false)) (hpq : q ≠ p) (ho : off H p v) (hb : BS H v bs) :
    callDecode2S cal φ N (.ptr q 0) H = some (.int .i64 (((bs.getD 0 0).toNat : Int) * 256 + ((bs.getD 1 0).toNat : Int) - 256), H.set p (.row [tailN 2 v] false)) := by
  unfold callDecode2S
  have hl : lload1 H (.ptr q 0) = some (OneF f1 p) := by rw [lload1_ptr, hq]; rfl
  have hcall : ∀ {H' : Heap}, lcallV cal φ H' (OneF f1 p) [] = φ f1 [.ptr p 0] H' := fun {H'} => by unfold OneF; rw [lcallV_func hc]; rfl
  rw [hl, ob_some, hcall, h1 H p v bs hp hb, ob_some]
  have hp1 : (H.set p (.row [tailN 1 v] false))[p]? = some (.row [tailN 1 v] false) := set_at hp
  have hb1 : BS (H.set p (.row [tailN 1 v] false)) (tailN 1 v) (bs.drop 1) := (hb.tail 1).set _ (off_tail (H := H) ho)
  have hl1 : lload1 (H.set p (.row [tailN 1 v] false)) (.ptr q 0) = some (OneF f1 p) := by rw [lload1_ptr, List.getElem?_set_ne (Ne.symm hpq), hq]; rfl
  have ht : (bs.getD 0 0).toNat < 256 := (bs.getD 0 0).toNat_lt
  have ht1 : (bs.getD 1 0).toNat < 256 := (bs.getD 1 0).toNat_lt
  have hshl : lbin .shl (.int .i64 ((bs.getD 0 0).toNat : Int)) (.int .u64 8) = some (.int .i64 (((bs.getD 0 0).toNat : Int) * 256)) := by
    simp only [lbin, ishift]
    rw [if_neg (by decide)]
    have : (2 : Int) ^ (min (8 : Int).toNat IntKind.i64.bits) = 256 := by simp [IntKind.bits]
    rw [this, wrap_i64 (by omega) (by omega)]
  simp only
  rw [hshl, ob_some, hl1, ob_some, hcall, h1 _ p _ _ hp1 hb1, ob_some]
  simp only
  have w1 : IntKind.wrap .i64 (((bs.getD 0 0).toNat : Int) * 256 + ((bs.getD 1 0).toNat : Int)) = ((bs.getD 0 0).toNat : Int) * 256 + ((bs.getD 1 0).toNat : Int) := wrap_i64 (by omega) (by omega)
  have w2 : IntKind.wrap .i64 (((bs.getD 0 0).toNat : Int) * 256 + ((bs.getD 1 0).toNat : Int) + -256) = ((bs.getD 0 0).toNat : Int) * 256 + ((bs.getD 1 0).toNat : Int) - 256 := wrap_i64 (by omega) (by omega)
  rw [lbin_add, ob_some, lbin_add, ob_some, getD_drop, w1, w2, tailN_tailN, List.set_set]

def low (B : Nat) (v : IV) : Prop := ∀ b o n lb ex sz, v = .slice b o n lb ex sz → b < B
theorem low_tail {B k : Nat} {v : IV} (h : low B v) : low B (tailN k v) := by
  intro b o n lb ex sz e
  cases v <;> simp only [tailN] at e <;> first | (cases e; done) | skip
  cases e; exact h _ _ _ _ _ _ rfl
theorem BS.keepB {B : Nat} {H H' : Heap} {v : IV} {bs : List UInt8} (h : BS H v bs) (hl : low B v) (hk : ∀ i, i < B → H'[i]? = H[i]?) : BS H' v bs := by
  rcases h with ⟨rfl, rfl⟩ | ⟨b, o', n, lb, ex, sz, rfl, h1, h2, h3, h4⟩
  · exact .inl ⟨rfl, rfl⟩
  · refine .inr ⟨b, o', n, lb, ex, sz, rfl, h1, h2, h3, fun hn => ?_⟩
    obtain ⟨cells, ro, g1, g2⟩ := h4 hn
    exact ⟨cells, ro, by rw [hk b (hl _ _ _ _ _ _ rfl)]; exact g1, g2⟩
theorem keep_set {B p : Nat} {H H' : Heap} {o : IObj} (h : ∀ i, i < B → i ≠ p → H'[i]? = H[i]?) (hl : H.length ≤ H'.length) (hp : p < H.length) : Keep B (H.set p o) (H'.set p o) := by
  refine ⟨fun i hi => ?_, by simpa using hl⟩
  rw [List.getElem?_set, List.getElem?_set]
  by_cases e : p = i
  · subst e; rw [if_pos rfl, if_pos rfl, if_pos (by omega), if_pos hp]
  · rw [if_neg e, if_neg e]; exact h i hi (Ne.symm e)
theorem ub_toNat (x : UInt8) : ub (x.toNat : Int) = x := by
  unfold ub
  have := x.toNat_lt
  have e : ((x.toNat : Int) % 256).toNat = x.toNat := by omega
  rw [e]; simp
theorem text_loop {cal : FuncId → Bool} {φ : Oracle} {N : Nat} {f1 p q B : Nat} {gE0 : IV → Heap → Option (IV × Heap)} (hc : cal f1 = true) (h1 : OneOk φ f1) (hpq : q ≠ p) (hpB : p < B) (hqB : q < B) :
    ∀ (k n : Nat) (H : Heap) (v v2 : IV) (bs acc : List UInt8), k < n → H[q]? = some (.row [OneF f1 p] false) → H[p]? = some (.row [v] false) → B ≤ H.length → off H p v → low B v → BS H v bs → Buf B 1 H v2 (bytes acc) → acc.length + k ≤ 1000 →
    ∃ v2' H', callDecode3C0S cal φ N gE0 n (.ptr q 0) v2 (.int .i64 (k : Int)) H = gE0 v2' H' ∧ Buf B 1 H' v2' (bytes (acc ++ (List.range k).map fun i => bs.getD i 0)) ∧ Keep B (H.set p (.row [tailN k v] false)) H' := by
  intro k
  induction k with
  | zero =>
    intro n H v v2 bs acc hn hq hp hB ho hlow hb hv2 hk
    obtain ⟨n, rfl⟩ : ∃ m, n = m + 1 := ⟨n - 1, by omega⟩
    refine ⟨v2, H, ?_, by simpa using hv2, ?_⟩
    · rw [callDecode3C0S, lbin_gtr, ob_some]; rfl
    · rw [tailN_zero, set_same hp]; exact Keep.refl _ _
  | succ k ih =>
    intro n H v v2 bs acc hn hq hp hB ho hlow hb hv2 hk
    obtain ⟨n, rfl⟩ : ∃ m, n = m + 1 := ⟨n - 1, by omega⟩
    have hl : lload1 H (.ptr q 0) = some (OneF f1 p) := by rw [lload1_ptr, hq]; rfl
    have hcall : ∀ {H' : Heap}, lcallV cal φ H' (OneF f1 p) [] = φ f1 [.ptr p 0] H' := fun {H'} => by unfold OneF; rw [lcallV_func hc]; rfl
    have hplt : p < H.length := by omega
    have hgt : decide ((0 : Int) < ((k + 1 : Nat) : Int)) = true := decide_eq_true (by omega)
    rw [callDecode3C0S, lbin_gtr, ob_some, hgt, cnd_true, hl, ob_some, hcall, h1 H p v bs hp hb, ob_some]
    simp only
    rw [lcvt_int, ob_some, wrap_u8, ub_toNat]
    generalize hH1 : H.set p (.row [tailN 1 v] false) = H1
    have hH1p : H1[p]? = some (.row [tailN 1 v] false) := by rw [← hH1]; exact set_at hp
    have hH1len : H1.length = H.length := by rw [← hH1]; simp
    have hH1i : ∀ i, i ≠ p → H1[i]? = H[i]? := fun i hi => by rw [← hH1, List.getElem?_set_ne (Ne.symm hi)]
    have hbl : lbldS H1 1 1 [.int .u8 0] [(0, .int .u8 ((bs.getD 0 0).toNat : Int))] = some (.slice H1.length 0 1 1 true 1, H1 ++ [.row (bytes [bs.getD 0 0]) false]) := rfl
    rw [hbl, ob_some]
    have hv2' : Buf B 1 (H1 ++ [.row (bytes [bs.getD 0 0]) false]) v2 (bytes acc) := by
      rcases hv2 with h | ⟨r, m, ex, e, g1, g2, g3⟩
      · exact .inl h
      · refine .inr ⟨r, m, ex, e, g1, ?_, g3⟩
        have hr := (List.getElem?_eq_some_iff.1 g2).1
        rw [List.getElem?_append_left (by omega), hH1i r (by omega)]; exact g2
    have hx : Buf 0 1 (H1 ++ [.row (bytes [bs.getD 0 0]) false]) (.slice H1.length 0 1 1 true 1) (bytes [bs.getD 0 0]) := .inr ⟨_, 1, true, rfl, by omega, by simp, rfl⟩
    obtain ⟨v3, H3, a3, b3, k3⟩ := app_own (b := 1) hv2' (by simp; omega) (by omega) hx (bytes_one _) (by simp [bytes_length]; omega)
    simp only at a3 ⊢
    rw [a3, ob_some, lbin_sub, ob_some]
    have hki : IntKind.wrap .i64 (((k + 1 : Nat) : Int) - 1) = (k : Int) := by rw [wrap_i64 (by omega) (by omega)]; omega
    rw [hki]
    have h3i : ∀ i, i < B → H3[i]? = H1[i]? := fun i hi => by rw [k3.1 i hi, List.getElem?_append_left (by omega)]
    have h3len : H.length ≤ H3.length := by have := k3.2; simp at this; omega
    rw [← bytes_append] at b3
    obtain ⟨v4, H4, a4, b4, k4⟩ := ih n H3 (tailN 1 v) v3 (bs.drop 1) (acc ++ [bs.getD 0 0]) (by omega) (by rw [h3i q hqB, hH1i q hpq]; exact hq) (by rw [h3i p hpB]; exact hH1p) (by omega) (off_tail (H := H) ho) (low_tail hlow)
      (((hb.tail 1).set (.row [tailN 1 v] false) (off_tail (H := H) ho)).keepB (low_tail hlow) (by rw [hH1]; exact h3i)) b3 (by simp; omega)
    refine ⟨v4, H4, a4, ?_, ?_⟩
    · have e : acc ++ [bs.getD 0 0] ++ (List.range k).map (fun i => (bs.drop 1).getD i 0) = acc ++ (List.range (k + 1)).map (fun i => bs.getD i 0) := by
        rw [List.append_assoc, List.range_succ_eq_map]
        congr 1
        simp only [List.map_cons, List.map_map, List.cons_append, List.nil_append]
        congr 1
        apply List.map_congr_left
        intro i _
        simp [List.getD_eq_getElem?_getD, Nat.add_comm]
      rw [← e]; exact b4
    · rw [tailN_tailN, Nat.add_comm 1 k] at k4
      refine Keep.trans ?_ k4
      exact keep_set (fun i hi hne => by rw [h3i i hi, hH1i i hne]) h3len hplt

theorem b2s_buf {B : Nat} {H : Heap} {v : IV} {l : List UInt8} (h : Buf B 1 H v (bytes l)) : lb2s H v = some (.str l) := by
  rcases h with ⟨rfl, e⟩ | ⟨r, n, ex, rfl, g1, g2, g3⟩
  · have : l = [] := by cases l <;> simp [bytes] at e ⊢
    subst this; rfl
  · have := Buf.cells (B := B) (s := 1) (H := H) (v := .slice r 0 n n ex 1) (cs := bytes l) (.inr ⟨r, n, ex, rfl, g1, g2, g3⟩) (n := n) rfl
    simp only [lb2s, this, Option.bind_some, ibytes_bytes]
/-- What a text's bytes tell. -/
def rdText (bs : List UInt8) : List UInt8 := (List.range ((bs.getD 0 0).toNat % 64)).map fun i => bs.getD (i + 1) 0
def TextN (bs : List UInt8) : Nat := (bs.getD 0 0).toNat % 64 + 1
theorem text_s {cal : FuncId → Bool} {φ : Oracle} {N : Nat} {f1 p q : Nat} {H : Heap} {v : IV} {bs : List UInt8} (hN : 64 < N) (hc : cal f1 = true) (h1 : OneOk φ f1) (hpq : q ≠ p) (hq : H[q]? = some (.row [OneF f1 p] false)) (hp : H[p]? = some (.row [v] false)) (ho : off H p v) (hlow : low H.length v) (hb : BS H v bs) :
    ∃ H', callDecode3S cal φ N (.ptr q 0) H = some (.str (rdText bs), H') ∧ Keep H.length (H.set p (.row [tailN (TextN bs) v] false)) H' := by
  have hpl := (List.getElem?_eq_some_iff.1 hp).1
  have hql := (List.getElem?_eq_some_iff.1 hq).1
  have hl : lload1 H (.ptr q 0) = some (OneF f1 p) := by rw [lload1_ptr, hq]; rfl
  have hcall : ∀ {H' : Heap}, lcallV cal φ H' (OneF f1 p) [] = φ f1 [.ptr p 0] H' := fun {H'} => by unfold OneF; rw [lcallV_func hc]; rfl
  unfold callDecode3S callDecode3C5S callDecode3C4S callDecode3C3S callDecode3C2S callDecode3C1S
  rw [hl, ob_some, hcall, h1 H p v bs hp hb, ob_some]
  simp only
  rw [lbin_rem (by decide), ob_some]
  have hmod : ((bs.getD 0 0).toNat : Int).tmod 64 = (((bs.getD 0 0).toNat % 64 : Nat) : Int) := by
    rw [Int.tmod_eq_emod_of_nonneg (by omega)]; omega
  rw [hmod]
  generalize hH1 : H.set p (.row [tailN 1 v] false) = H1
  have hH1p : H1[p]? = some (.row [tailN 1 v] false) := by rw [← hH1]; exact set_at hp
  have hH1len : H1.length = H.length := by rw [← hH1]; simp
  have hH1i : ∀ i, i ≠ p → H1[i]? = H[i]? := fun i hi => by rw [← hH1, List.getElem?_set_ne (Ne.symm hi)]
  obtain ⟨v4, H4, a4, b4, k4⟩ := text_loop (cal := cal) (φ := φ) (N := N) (gE0 := fun v2 H => ob (lb2s H v2) fun t1 => some (t1, H)) (B := H.length) hc h1 hpq hpl hql ((bs.getD 0 0).toNat % 64) N H1 (tailN 1 v) .nilSlice (bs.drop 1) [] (by omega)
    (by rw [hH1i q hpq]; exact hq) hH1p (by omega) (off_tail (H := H) ho) (low_tail hlow) (by rw [← hH1]; exact (hb.tail 1).set _ (off_tail (H := H) ho)) (.inl ⟨rfl, rfl⟩) (by simp; omega)
  refine ⟨H4, ?_, ?_⟩
  · rw [a4]
    simp only [b2s_buf b4, ob_some]
    congr 3
    simp only [List.nil_append, rdText]
    congr 1
    funext i
    simp [List.getD_eq_getElem?_getD, Nat.add_comm]
  · rw [← hH1, List.set_set, tailN_tailN] at k4
    have : TextN bs = 1 + (bs.getD 0 0).toNat % 64 := by unfold TextN; omega
    rw [this]; exact k4
end Go.Shade
/- CALL, part 5: decoding: the loop. -/
namespace Go.Shade
set_option linter.unusedVariables false
set_option linter.unusedSimpArgs false

def TwoOk (φ : Oracle) (f1 f2 : FuncId) : Prop := ∀ (H : Heap) (p q : Nat) (v : IV) (bs : List UInt8), q ≠ p → H[q]? = some (.row [OneF f1 p] false) → H[p]? = some (.row [v] false) → off H p v → low H.length v → BS H v bs →
  φ f2 [.ptr q 0] H = some (.int .i64 (((bs.getD 0 0).toNat : Int) * 256 + ((bs.getD 1 0).toNat : Int) - 256), H.set p (.row [tailN 2 v] false))
def TextOk (φ : Oracle) (f1 f3 : FuncId) : Prop := ∀ (H : Heap) (p q : Nat) (v : IV) (bs : List UInt8), q ≠ p → H[q]? = some (.row [OneF f1 p] false) → H[p]? = some (.row [v] false) → off H p v → low H.length v → BS H v bs →
  φ f3 [.ptr q 0] H = some (.str (rdText bs), H.set p (.row [tailN (TextN bs) v] false))
/-- One call's bytes: the call, and how many bytes it takes. -/
def rd1 (bs : List UInt8) : List UInt8 := bs.drop 7
def rd2 (bs : List UInt8) : List UInt8 := (rd1 bs).drop (TextN (rd1 bs))
def rdCl (bs : List UInt8) : Cl := { op := ((bs.getD 0 0).toNat : Int) % 20 + 1, fd := ((bs.getD 1 0).toNat : Int) % 40 - 4, fl := ((bs.getD 2 0).toNat : Int) % 64, n := ((bs.getD 3 0).toNat : Int) * 256 + ((bs.getD 4 0).toNat : Int) - 256, off := ((bs.getD 5 0).toNat : Int) * 256 + ((bs.getD 6 0).toNat : Int) - 256, a := rdText (rd1 bs), b := rdText (rd2 bs) }
def rdN (bs : List UInt8) : Nat := 7 + TextN (rd1 bs) + TextN (rd2 bs)
def dec : Nat → List UInt8 → List Cl
  | 0, _ => []
  | k + 1, bs => if bs = [] then [] else rdCl bs :: dec k (bs.drop (rdN bs))
def flat7 (l : List Cl) : List IV := (l.map Cl.cells).flatten
theorem flat7_length (l : List Cl) : (flat7 l).length = l.length * 7 := by
  induction l with
  | nil => rfl
  | cons c l ih => simp only [flat7, List.map_cons, List.flatten_cons, List.length_append] at ih ⊢; rw [ih]; simp [Cl.cells]; omega
theorem flat7_append (a b : List Cl) : flat7 (a ++ b) = flat7 a ++ flat7 b := by simp [flat7]
/-- The heap while one call is read. -/
def GH (H : Heap) (p : Nat) (v : IV) (cs : List IV) : Heap := H.set p (.row [v] false) ++ [.row cs false]
section
variable {H : Heap} {p q : Nat} {v v' : IV} {cs cs' : List IV} {bs : List UInt8}
theorem GH_p (hp : p < H.length) : (GH H p v cs)[p]? = some (.row [v] false) := by
  unfold GH
  rw [List.getElem?_append_left (by simpa using hp), List.getElem?_set, if_pos rfl, if_pos hp]
theorem GH_o {i : Nat} (hi : i < H.length) (hne : i ≠ p) : (GH H p v cs)[i]? = H[i]? := by
  unfold GH
  rw [List.getElem?_append_left (by simpa using hi), List.getElem?_set_ne (Ne.symm hne)]
theorem GH_b : (GH H p v cs)[H.length]? = some (.row cs false) := by
  unfold GH
  rw [List.getElem?_append_right (by simp)]; simp
theorem GH_len : (GH H p v cs).length = H.length + 1 := by simp [GH]
theorem GH_setp (hp : p < H.length) : (GH H p v cs).set p (.row [v'] false) = GH H p v' cs := by
  unfold GH
  rw [List.set_append_left _ _ (by simpa using hp), List.set_set]
theorem GH_setb : (GH H p v cs).set H.length (.row cs' false) = GH H p v cs' := by
  unfold GH
  rw [List.set_append_right _ _ (by simp)]; simp
theorem GH_bs (hp : p < H.length) (h : BS H v bs) (ho : off H p v) (hl : low H.length v) : BS (GH H p v' cs) v bs := by
  rcases h with ⟨rfl, rfl⟩ | ⟨b, o', n, lb, ex, sz, rfl, h1, h2, h3, h4⟩
  · exact .inl ⟨rfl, rfl⟩
  · refine .inr ⟨b, o', n, lb, ex, sz, rfl, h1, h2, h3, fun hn => ?_⟩
    obtain ⟨cells, ro, g1, g2⟩ := h4 hn
    exact ⟨cells, ro, by rw [GH_o (hl _ _ _ _ _ _ rfl) (ho _ _ _ _ _ _ rfl)]; exact g1, g2⟩
end
theorem low_mono {B C : Nat} {v : IV} (h : low B v) (hc : B ≤ C) : low C v := fun b o n lb ex sz e => Nat.lt_of_lt_of_le (h b o n lb ex sz e) hc
/-- What is known at the head of the loop. -/
structure DecSt (H : Heap) (f1 p q : Nat) (v : IV) (bs : List UInt8) : Prop where
  hpq : q ≠ p
  hq : H[q]? = some (.row [OneF f1 p] false)
  hp : H[p]? = some (.row [v] false)
  ho : off H p v
  hl : low H.length v
  hb : BS H v bs
theorem dec_step {cal : FuncId → Bool} {φ : Oracle} {f1 f2 f3 : FuncId} (hc1 : cal f1 = true) (hc2 : cal f2 = true) (hc3 : cal f3 = true) (h1 : OneOk φ f1) (h2 : TwoOk φ f1 f2) (h3 : TextOk φ f1 f3) {H : Heap} {p q : Nat} {v : IV} {bs : List UInt8} (hs : DecSt H f1 p q v bs) {R : Type} (k : IV → Heap → Option R) :
    (ob (lzbox H (.agg [(.int .i64 0), (.int .i64 0), (.int .i64 0), (.int .i64 0), (.int .i64 0), (.str []), (.str [])])) fun r8 =>
    ob (lload1 r8.2 (.ptr q 0)) fun t9 =>
    ob (lcallV cal φ r8.2 t9 []) fun r10 =>
    ob (lbin .rem r10.1 (.int .i64 20)) fun t11 =>
    ob (lbin .add t11 (.int .i64 1)) fun t12 =>
    ob (loff r8.1 0) fun t13 =>
    ob (lstV r10.2 1 t13 t12) fun r14 =>
    ob (lload1 r14.2 (.ptr q 0)) fun t15 =>
    ob (lcallV cal φ r14.2 t15 []) fun r16 =>
    ob (lbin .rem r16.1 (.int .i64 40)) fun t17 =>
    ob (lbin .add t17 (.int .i64 (-4))) fun t18 =>
    ob (loff r8.1 1) fun t19 =>
    ob (lstV r16.2 1 t19 t18) fun r20 =>
    ob (lload1 r20.2 (.ptr q 0)) fun t21 =>
    ob (lcallV cal φ r20.2 t21 []) fun r22 =>
    ob (lbin .rem r22.1 (.int .i64 64)) fun t23 =>
    ob (loff r8.1 2) fun t24 =>
    ob (lstV r22.2 1 t24 t23) fun r25 =>
    ob (lcallV cal φ r25.2 (.func (.func f2) [] [.ptr q 0]) []) fun r26 =>
    ob (loff r8.1 3) fun t27 =>
    ob (lstV r26.2 1 t27 r26.1) fun r28 =>
    ob (lcallV cal φ r28.2 (.func (.func f2) [] [.ptr q 0]) []) fun r29 =>
    ob (loff r8.1 4) fun t30 =>
    ob (lstV r29.2 1 t30 r29.1) fun r31 =>
    ob (lcallV cal φ r31.2 (.func (.func f3) [] [.ptr q 0]) []) fun r32 =>
    ob (loff r8.1 5) fun t33 =>
    ob (lstV r32.2 1 t33 r32.1) fun r34 =>
    ob (lcallV cal φ r34.2 (.func (.func f3) [] [.ptr q 0]) []) fun r35 =>
    ob (loff r8.1 6) fun t36 =>
    ob (lstV r35.2 1 t36 r35.1) fun r37 => k r8.1 r37.2) = k (.ptr H.length 0) (GH H p (tailN (rdN bs) v) (rdCl bs).cells) := by
  obtain ⟨hpq, hq, hp, ho, hl, hb⟩ := hs
  have hpl := (List.getElem?_eq_some_iff.1 hp).1
  have hql := (List.getElem?_eq_some_iff.1 hq).1
  have start : lzbox H (.agg [(.int .i64 0), (.int .i64 0), (.int .i64 0), (.int .i64 0), (.int .i64 0), (.str []), (.str [])]) = some (.ptr H.length 0, GH H p v [(.int .i64 0), (.int .i64 0), (.int .i64 0), (.int .i64 0), (.int .i64 0), (.str []), (.str [])]) := by
    unfold lzbox GH; rw [set_same hp]; rfl
  have ld : ∀ {v cs}, lload1 (GH H p v cs) (.ptr q 0) = some (OneF f1 p) := fun {v cs} => by rw [lload1_ptr, GH_o hql hpq, hq]; rfl
  have ok : ∀ {j cs}, BS (GH H p (tailN j v) cs) (tailN j v) (bs.drop j) := fun {j cs} => GH_bs hpl (hb.tail j) (off_tail (H := H) ho) (low_tail hl)
  have c1 : ∀ {j cs}, lcallV cal φ (GH H p (tailN j v) cs) (OneF f1 p) [] = some (.int .i64 ((bs.getD j 0).toNat : Int), GH H p (tailN (j + 1) v) cs) := fun {j cs} => by
    unfold OneF; rw [lcallV_func hc1]
    show φ f1 [.ptr p 0] _ = _
    rw [h1 _ p _ _ (GH_p hpl) ok, GH_setp hpl, tailN_tailN, getD_drop]
  have c2 : ∀ {j cs}, lcallV cal φ (GH H p (tailN j v) cs) (.func (.func f2) [] [.ptr q 0]) [] = some (.int .i64 (((bs.getD j 0).toNat : Int) * 256 + ((bs.getD (j + 1) 0).toNat : Int) - 256), GH H p (tailN (j + 2) v) cs) := fun {j cs} => by
    rw [lcallV_func hc2]
    show φ f2 [.ptr q 0] _ = _
    rw [h2 _ p q _ _ hpq (by rw [GH_o hql hpq]; exact hq) (GH_p hpl) (off_tail (H := H) ho) (low_mono (low_tail hl) (by rw [GH_len]; omega)) ok, GH_setp hpl, tailN_tailN, getD_drop]
    have : (bs.drop j).getD 1 0 = bs.getD (j + 1) 0 := by simp [List.getD_eq_getElem?_getD]
    rw [this]
  have c3 : ∀ {j cs}, lcallV cal φ (GH H p (tailN j v) cs) (.func (.func f3) [] [.ptr q 0]) [] = some (.str (rdText (bs.drop j)), GH H p (tailN (j + TextN (bs.drop j)) v) cs) := fun {j cs} => by
    rw [lcallV_func hc3]
    show φ f3 [.ptr q 0] _ = _
    rw [h3 _ p q _ _ hpq (by rw [GH_o hql hpq]; exact hq) (GH_p hpl) (off_tail (H := H) ho) (low_mono (low_tail hl) (by rw [GH_len]; omega)) ok, GH_setp hpl, tailN_tailN]
  have st : ∀ {v cs i x}, x.one = true → i < cs.length → lstV (GH H p v cs) 1 (.ptr H.length i) x = some (.tuple [], GH H p v (cs.set i x)) := fun {v cs i x} hx hi => by
    rw [lstV_ptr, GH_b, putO_one hx hi, ob_some, GH_setb]
  have m : ∀ (x : UInt8) (n : Int), 0 < n → (x.toNat : Int).tmod n = (x.toNat : Int) % n := fun x n hn => Int.tmod_eq_emod_of_nonneg (by omega)
  have e0 : v = tailN 0 v := (tailN_zero v).symm
  rw [start, ob_some]
  simp only
  rw [ld, ob_some]
  conv => lhs; rw [e0]
  rw [c1, ob_some]
  simp only
  rw [lbin_rem (by decide), ob_some, m _ _ (by decide), lbin_add, ob_some, wrap_i64 (by omega) (by omega), loff_ptr, ob_some, st rfl (by simp), ob_some]
  simp only
  rw [ld, ob_some, c1, ob_some]
  simp only
  rw [lbin_rem (by decide), ob_some, m _ _ (by decide), lbin_add, ob_some, wrap_i64 (by omega) (by omega), loff_ptr, ob_some, st rfl (by simp), ob_some]
  simp only
  rw [ld, ob_some, c1, ob_some]
  simp only
  rw [lbin_rem (by decide), ob_some, m _ _ (by decide), loff_ptr, ob_some, st rfl (by simp), ob_some]
  simp only
  rw [c2, ob_some, loff_ptr, ob_some, st rfl (by simp), ob_some]
  simp only
  rw [c2, ob_some, loff_ptr, ob_some, st rfl (by simp), ob_some]
  simp only
  rw [c3, ob_some, loff_ptr, ob_some, st rfl (by simp), ob_some]
  simp only
  rw [c3, ob_some, loff_ptr, ob_some, st rfl (by simp), ob_some]
  simp only
  congr 1
  have ed : bs.drop (0 + 1 + 1 + 1 + 2 + 2 + TextN (bs.drop (0 + 1 + 1 + 1 + 2 + 2))) = rd2 bs := by
    simp only [rd2, rd1, List.drop_drop]
  have ed1 : bs.drop (0 + 1 + 1 + 1 + 2 + 2) = rd1 bs := rfl
  rw [ed, ed1]
  have en : 0 + 1 + 1 + 1 + 2 + 2 + TextN (rd1 bs) + TextN (rd2 bs) = rdN bs := by unfold rdN; omega
  rw [en]
  rfl

theorem BS.len {H : Heap} {v : IV} {bs : List UInt8} (h : BS H v bs) : llen H .slice v = some (.int .i64 (bs.length : Nat)) := by
  rcases h with ⟨rfl, rfl⟩ | ⟨b, o', n, lb, ex, sz, rfl, h1, h2, h3, h4⟩
  · rfl
  · subst h3; rfl
theorem dec_loop {cal : FuncId → Bool} {φ : Oracle} {N : Nat} {f1 f2 f3 p q B : Nat} {gE0 : IV → Heap → Option (IV × Heap)} (hc1 : cal f1 = true) (hc2 : cal f2 = true) (hc3 : cal f3 = true) (h1 : OneOk φ f1) (h2 : TwoOk φ f1 f2) (h3 : TextOk φ f1 f3) (hpB : p < B) (hqB : q < B) :
    ∀ (k n : Nat) (H : Heap) (v v6 : IV) (bs : List UInt8) (acc : List Cl), k < n → acc.length + k = 200 → DecSt H f1 p q v bs → B ≤ H.length → low B v → Buf B 7 H v6 (flat7 acc) →
    ∃ v6' H', callDecodeC0S cal φ N f1 f2 f3 gE0 n (.ptr p 0) (.ptr q 0) (.func (.func f2) [] [.ptr q 0]) (.func (.func f3) [] [.ptr q 0]) v6 H = gE0 v6' H' ∧ Buf B 7 H' v6' (flat7 (acc ++ dec k bs)) ∧ (∀ i, i < B → i ≠ p → H'[i]? = H[i]?) ∧ H.length ≤ H'.length ∧ (dec k bs = [] → v6' = v6) := by
  intro k
  induction k with
  | zero =>
    intro n H v v6 bs acc hn hk hs hB hlow hv6
    obtain ⟨n, rfl⟩ : ∃ m, n = m + 1 := ⟨n - 1, by omega⟩
    have hl : lload1 H (.ptr p 0) = some v := by rw [lload1_ptr, hs.hp]; rfl
    refine ⟨v6, H, ?_, by simpa [dec] using hv6, fun _ _ _ => rfl, Nat.le_refl _, fun _ => rfl⟩
    rw [callDecodeC0S, hl, ob_some, hs.hb.len, ob_some, lbin_gtr, ob_some]
    obtain ⟨m, _, hm, hlen⟩ := hv6.len (by omega)
    rw [flat7_length] at hm
    have hm' : m = 200 := by omega
    subst hm'
    cases hd : decide ((0 : Int) < (bs.length : Nat))
    · simp only [isB_ft, gq_false, ob_some, lpick_false, cnd_false]
    · have : decide (((200 : Nat) : Int) < 200) = false := rfl
      simp only [isB_tt, gq_true, ob_some, hlen, lbin_lss, this, lpick_true, cnd_false]
  | succ k ih =>
    intro n H v v6 bs acc hn hk hs hB hlow hv6
    obtain ⟨n, rfl⟩ : ∃ m, n = m + 1 := ⟨n - 1, by omega⟩
    have hl : lload1 H (.ptr p 0) = some v := by rw [lload1_ptr, hs.hp]; rfl
    rw [callDecodeC0S, hl, ob_some, hs.hb.len, ob_some, lbin_gtr, ob_some]
    by_cases hbs : bs = []
    · subst hbs
      refine ⟨v6, H, ?_, by simpa [dec] using hv6, fun _ _ _ => rfl, Nat.le_refl _, fun _ => rfl⟩
      have hd : decide ((0 : Int) < (([] : List UInt8).length : Nat)) = false := rfl
      simp only [hd, isB_ft, gq_false, ob_some, lpick_false, cnd_false]
    · have hpos : 0 < bs.length := List.length_pos_iff.2 hbs
      have hd : decide ((0 : Int) < (bs.length : Nat)) = true := decide_eq_true (by omega)
      obtain ⟨m, _, hm, hlen⟩ := hv6.len (by omega)
      rw [flat7_length] at hm
      have hm' : m = acc.length := by omega
      subst hm'
      have hd2 : decide (((acc.length : Nat) : Int) < 200) = true := decide_eq_true (by omega)
      rw [hd]
      simp only [isB_tt, gq_true, ob_some, hlen, lbin_lss, hd2, lpick_true, cnd_true]
      have hpl := (List.getElem?_eq_some_iff.1 hs.hp).1
      have hql := (List.getElem?_eq_some_iff.1 hs.hq).1
      rw [dec_step hc1 hc2 hc3 h1 h2 h3 hs (fun px Hx => ob (lloadn Hx 7 px) fun t38 =>
        ob (lbldS Hx 7 1 [(.int .i64 0), (.int .i64 0), (.int .i64 0), (.int .i64 0), (.int .i64 0), (.str []), (.str [])] [(0, t38)]) fun r39 =>
        ob (lapp r39.2 7 72 v6 r39.1) fun r40 =>
        callDecodeC0S cal φ N f1 f2 f3 gE0 n (.ptr p 0) (.ptr q 0) (.func (.func f2) [] [.ptr q 0]) (.func (.func f3) [] [.ptr q 0]) r40.1 r40.2)]
      generalize hG : GH H p (tailN (rdN bs) v) (rdCl bs).cells = G
      have hGb : G[H.length]? = some (.row (rdCl bs).cells false) := by rw [← hG]; exact GH_b
      have hGlen : G.length = H.length + 1 := by rw [← hG]; exact GH_len
      have hGi : ∀ i, i < H.length → i ≠ p → G[i]? = H[i]? := fun i hi hne => by rw [← hG]; exact GH_o hi hne
      have hGp : G[p]? = some (.row [tailN (rdN bs) v] false) := by rw [← hG]; exact GH_p hpl
      have hln : lloadn G 7 (.ptr H.length 0) = some (.agg (rdCl bs).cells) := by rw [lloadn_ptr, hGb]; rfl
      have hbl : lbldS G 7 1 [(.int .i64 0), (.int .i64 0), (.int .i64 0), (.int .i64 0), (.int .i64 0), (.str []), (.str [])] [(0, .agg (rdCl bs).cells)] = some (.slice G.length 0 1 1 true 7, G ++ [.row (rdCl bs).cells false]) := rfl
      simp only [hln, ob_some, hbl]
      have hv6' : Buf B 7 (G ++ [.row (rdCl bs).cells false]) v6 (flat7 acc) := by
        rcases hv6 with h | ⟨r, m, ex, e, g1, g2, g3⟩
        · exact .inl h
        · refine .inr ⟨r, m, ex, e, g1, ?_, g3⟩
          have hr := (List.getElem?_eq_some_iff.1 g2).1
          rw [List.getElem?_append_left (by omega), hGi r hr (by omega)]; exact g2
      have hx : Buf 0 7 (G ++ [.row (rdCl bs).cells false]) (.slice G.length 0 1 1 true 7) (rdCl bs).cells := .inr ⟨_, 1, true, rfl, by omega, by simp, rfl⟩
      obtain ⟨v7, H7, a7, b7, k7⟩ := app_own (b := 72) hv6' (by simp; omega) (by omega) hx rfl (by rw [flat7_length]; simp [Cl.cells]; omega)
      rw [a7, ob_some]
      have hfl : flat7 acc ++ (rdCl bs).cells = flat7 (acc ++ [rdCl bs]) := by rw [flat7_append]; simp [flat7]
      rw [hfl] at b7
      have h7i : ∀ i, i < B → H7[i]? = G[i]? := fun i hi => by rw [k7.1 i hi, List.getElem?_append_left (by omega)]
      have h7len : G.length ≤ H7.length := by have := k7.2; simp at this; omega
      have hst : DecSt H7 f1 p q (tailN (rdN bs) v) (bs.drop (rdN bs)) := by
        refine ⟨hs.hpq, by rw [h7i q hqB, hGi q hql hs.hpq]; exact hs.hq, by rw [h7i p hpB]; exact hGp, off_tail (H := H) hs.ho, low_mono (low_tail hs.hl) (by omega), ?_⟩
        exact (GH_bs (v' := tailN (rdN bs) v) (cs := (rdCl bs).cells) hpl (hs.hb.tail _) (off_tail (H := H) hs.ho) (low_tail hs.hl)).keepB (low_tail hlow) (by rw [hG]; exact h7i)
      obtain ⟨v8, H8, a8, b8, i8, l8, _⟩ := ih n H7 (tailN (rdN bs) v) v7 (bs.drop (rdN bs)) (acc ++ [rdCl bs]) (by omega) (by simp; omega) hst (by omega) (low_tail hlow) b7
      refine ⟨v8, H8, a8, ?_, fun i hi hne => by rw [i8 i hi hne, h7i i hi, hGi i (by omega) hne], by omega, fun e => by simp [dec, hbs] at e⟩
      have : acc ++ dec (k + 1) bs = acc ++ [rdCl bs] ++ dec k (bs.drop (rdN bs)) := by simp [dec, hbs]
      rw [this]; exact b8
theorem dec_s {cal : FuncId → Bool} {φ : Oracle} {N : Nat} {f1 f2 f3 : FuncId} (hN : 200 < N) (hc1 : cal f1 = true) (hc2 : cal f2 = true) (hc3 : cal f3 = true) (h1 : OneOk φ f1) (h2 : TwoOk φ f1 f2) (h3 : TextOk φ f1 f3) {H : Heap} {v : IV} {bs : List UInt8} (hv : v.one = true) (hl : low H.length v) (hb : BS H v bs) :
    ∃ v' H', callDecodeS cal φ N f1 f2 f3 v H = some (v', H') ∧ Buf H.length 7 H' v' (flat7 (dec 200 bs)) ∧ (∀ i, i < H.length → H'[i]? = H[i]?) ∧ (dec 200 bs = [] → v' = .nilSlice) := by
  unfold callDecodeS callDecodeC7S callDecodeC6S callDecodeC5S callDecodeC4S callDecodeC3S callDecodeC2S callDecodeC1S
  rw [lbox_one hv, ob_some, ob_some, lzbox_eq, ob_some]
  simp only
  have hq : ((H ++ [IObj.row [v] false]) ++ [IObj.row (IV.nilFunc).cells false])[(H ++ [IObj.row [v] false]).length]? = some (IObj.row [.nilFunc] false) := by simp [IV.cells]
  rw [lstV_ptr, hq, putO_one rfl (by simp), ob_some, ob_some, ob_some, ob_some]
  simp only
  have hset : (H ++ [IObj.row [v] false] ++ [IObj.row (IV.nilFunc).cells false]).set (H ++ [IObj.row [v] false]).length (IObj.row ([IV.nilFunc].set 0 (.func (.func f1) [] [.ptr H.length 0])) false) = H ++ [IObj.row [v] false] ++ [IObj.row [OneF f1 H.length] false] := by
    rw [List.set_append_right _ _ (Nat.le_refl _), Nat.sub_self]; rfl
  rw [hset]
  generalize hK : H ++ [IObj.row [v] false] ++ [IObj.row [OneF f1 H.length] false] = K
  have hKlen : K.length = H.length + 2 := by rw [← hK]; simp
  have hKi : ∀ i, i < H.length → K[i]? = H[i]? := fun i hi => by rw [← hK, List.append_assoc, List.getElem?_append_left hi]
  have hKp : K[H.length]? = some (IObj.row [v] false) := by rw [← hK]; simp
  have hKq : K[H.length + 1]? = some (IObj.row [OneF f1 H.length] false) := by rw [← hK]; simp
  have hlen : (H ++ [IObj.row [v] false]).length = H.length + 1 := by simp
  rw [hlen]
  obtain ⟨v6, H6, a6, b6, i6, l6, n6⟩ := dec_loop (cal := cal) (φ := φ) (N := N) (p := H.length) (q := H.length + 1) (B := H.length + 2) (gE0 := fun v6 H => some (v6, H)) hc1 hc2 hc3 h1 h2 h3 (by omega) (by omega) 200 N K v .nilSlice bs [] (by omega) rfl
    ⟨by omega, hKq, hKp, fun b o n lb ex sz e => by have := hl b o n lb ex sz e; omega, low_mono hl (by omega), hb.keepB hl hKi⟩ (by omega) (low_mono hl (by omega)) (.inl ⟨rfl, rfl⟩)
  refine ⟨v6, H6, a6, ?_, fun i hi => by rw [i6 i (by omega) (by omega), hKi i hi], n6⟩
  rcases b6 with h | ⟨r, m, ex, e, g1, g2, g3⟩
  · exact .inl h
  · exact .inr ⟨r, m, ex, e, by omega, g2, g3⟩
end Go.Shade
/- CALL, part 6: slices of calls; whether two are the same. -/
namespace Go.Shade
set_option linter.unusedVariables false
set_option linter.unusedSimpArgs false

/-- A slice of calls, wherever it lies: its calls. -/
def CS (H : Heap) (v : IV) (l : List Cl) : Prop :=
  (v = .nilSlice ∧ l = []) ∨ ∃ b o n lb ex sz, v = .slice b o n lb ex sz ∧ n ≤ lb ∧ (sz = 0 ∨ sz = 7) ∧ l.length = n ∧ ∀ i c, l[i]? = some c → lloadn H 7 (.ptr b (o + i * 7)) = some (.agg c.cells)
theorem CS.len {H : Heap} {v : IV} {l : List Cl} (h : CS H v l) : llen H .slice v = some (.int .i64 (l.length : Nat)) := by
  rcases h with ⟨rfl, rfl⟩ | ⟨b, o, n, lb, ex, sz, rfl, h1, h2, h3, h4⟩
  · rfl
  · subst h3; rfl
theorem CS.at {H : Heap} {v : IV} {l : List Cl} (h : CS H v l) {i : Nat} {c : Cl} (hi : l[i]? = some c) : ∃ b o, lix 7 v (.int .i64 (i : Nat)) = some (.ptr b o) ∧ lloadn H 7 (.ptr b o) = some (.agg c.cells) := by
  rcases h with ⟨rfl, rfl⟩ | ⟨b, o, n, lb, ex, sz, rfl, h1, h2, h3, h4⟩
  · simp at hi
  · have := (List.getElem?_eq_some_iff.1 hi).1
    refine ⟨b, o + i * 7, ?_, h4 i c hi⟩
    rw [lix_slice, if_pos (by omega)]
    simp
theorem lloadn_keep {H H' : Heap} {b o n : Nat} (h : H'[b]? = H[b]?) : lloadn H' n (.ptr b o) = lloadn H n (.ptr b o) := by rw [lloadn_ptr, lloadn_ptr, h]
theorem CS.keepB {B : Nat} {H H' : Heap} {v : IV} {l : List Cl} (h : CS H v l) (hl : low B v) (hk : ∀ i, i < B → H'[i]? = H[i]?) : CS H' v l := by
  rcases h with ⟨rfl, rfl⟩ | ⟨b, o', n, lb, ex, sz, rfl, h1, h2, h3, h4⟩
  · exact .inl ⟨rfl, rfl⟩
  · exact .inr ⟨b, o', n, lb, ex, sz, rfl, h1, h2, h3, fun i c hi => by rw [lloadn_keep (hk b (hl _ _ _ _ _ _ rfl))]; exact h4 i c hi⟩
theorem flat7_get : ∀ (l : List Cl) (i : Nat) (c : Cl), l[i]? = some c → ((flat7 l).drop (i * 7)).take 7 = c.cells
  | [], i, c, h => by simp at h
  | d :: l, 0, c, h => by
    simp at h; subst h
    simp only [flat7, List.map_cons, List.flatten_cons, Nat.zero_mul, List.drop_zero]
    rw [List.take_append_of_le_length (by simp [Cl.cells])]; rfl
  | d :: l, i + 1, c, h => by
    have := flat7_get l i c (by simpa using h)
    simp only [flat7, List.map_cons, List.flatten_cons] at this ⊢
    have e : (i + 1) * 7 = d.cells.length + i * 7 := by simp [Cl.cells]; omega
    rw [e, ← List.drop_drop, List.drop_left']
    · exact this
    · rfl
/-- One's own slice of calls. -/
theorem Buf.calls {B : Nat} {H : Heap} {v : IV} {l : List Cl} (h : Buf B 7 H v (flat7 l)) : CS H v l := by
  rcases h with ⟨rfl, e⟩ | ⟨r, n, ex, rfl, g1, g2, g3⟩
  · refine .inl ⟨rfl, ?_⟩
    have := flat7_length l
    rw [e] at this; simp at this; exact List.length_eq_zero_iff.1 (by omega)
  · rw [flat7_length] at g3
    refine .inr ⟨r, 0, n, n, ex, 7, rfl, Nat.le_refl _, .inr rfl, by omega, fun i c hi => ?_⟩
    have hil := (List.getElem?_eq_some_iff.1 hi).1
    rw [lloadn_ptr, g2, ogn_row, if_pos (by rw [flat7_length]; omega), Nat.zero_add, flat7_get l i c hi]
theorem call_eq (c d : Cl) : leq (.struct [(0, .int), (1, .int), (2, .int), (3, .int), (4, .int), (5, .str), (6, .str)]) (.agg c.cells) (.agg d.cells) = some (decide (c = d)) := by
  have : leq (.struct [(0, .int), (1, .int), (2, .int), (3, .int), (4, .int), (5, .str), (6, .str)]) (.agg c.cells) (.agg d.cells) = some ((c.op == d.op) && ((c.fd == d.fd) && ((c.fl == d.fl) && ((c.n == d.n) && ((c.off == d.off) && ((c.a == d.a) && ((c.b == d.b) && true))))))) := rfl
  rw [this]
  congr 1
  rw [Bool.eq_iff_iff]
  simp only [Bool.and_eq_true, beq_iff_eq, decide_eq_true_eq, and_true]
  obtain ⟨a1, a2, a3, a4, a5, a6, a7⟩ := c
  obtain ⟨b1, b2, b3, b4, b5, b6, b7⟩ := d
  simp
theorem same_loop {cal : FuncId → Bool} {φ : Oracle} {N : Nat} {H : Heap} {v1 v2 : IV} {l1 l2 : List Cl} (h1 : CS H v1 l1) (h2 : CS H v2 l2) (hl : l1.length = l2.length) (hb : l1.length < 4611686018427387904) : ∀ (k i n : Nat), i + k = l1.length → k < n →
    veneerlaw08SameC0S cal φ N (fun H => some (.bool true, H)) n v1 v2 (.int .i64 (l1.length : Nat)) (.int .i64 (i : Nat)) H = some (.bool (decide (l1.drop i = l2.drop i)), H) := by
  intro k
  induction k with
  | zero =>
    intro i n hi hn
    obtain ⟨n, rfl⟩ : ∃ m, n = m + 1 := ⟨n - 1, by omega⟩
    have hd : decide (((i : Nat) : Int) < (l1.length : Nat)) = false := decide_eq_false (by omega)
    rw [veneerlaw08SameC0S, lbin_lss, ob_some, hd, cnd_false, List.drop_of_length_le (by omega), List.drop_of_length_le (by omega)]
    rfl
  | succ k ih =>
    intro i n hi hn
    obtain ⟨n, rfl⟩ : ∃ m, n = m + 1 := ⟨n - 1, by omega⟩
    have hd : decide (((i : Nat) : Int) < (l1.length : Nat)) = true := decide_eq_true (by omega)
    have e1 := List.getElem?_eq_getElem (l := l1) (i := i) (by omega)
    have e2 := List.getElem?_eq_getElem (l := l2) (i := i) (by omega)
    obtain ⟨b1, o1, x1, y1⟩ := h1.at e1
    obtain ⟨b2, o2, x2, y2⟩ := h2.at e2
    have d1 : l1.drop i = l1[i] :: l1.drop (i + 1) := List.drop_eq_getElem_cons (by omega)
    have d2 : l2.drop i = l2[i] :: l2.drop (i + 1) := List.drop_eq_getElem_cons (by omega)
    have hd' : (l1.drop i = l2.drop i) ↔ (l1[i] = l2[i] ∧ l1.drop (i + 1) = l2.drop (i + 1)) := by rw [d1, d2, List.cons.injEq]
    rw [veneerlaw08SameC0S, lbin_lss, ob_some, hd, cnd_true, x1, ob_some, y1, ob_some, x2, ob_some, y2, ob_some, call_eq, leqv_t, ob_some]
    by_cases he : l1[i] = l2[i]
    · rw [decide_eq_true he, Bool.not_true, cnd_false, lbin_add, ob_some, wrap_i64 (by omega) (by omega)]
      have := ih (i + 1) n (by omega) (by omega)
      rw [show (((i : Nat) : Int) + 1) = ((i + 1 : Nat) : Int) by omega, this]
      simp only [hd', he, true_and]
    · rw [decide_eq_false he, Bool.not_false, cnd_true]
      simp only [hd', he, false_and, decide_false]
theorem same_s {cal : FuncId → Bool} {φ : Oracle} {N : Nat} {H : Heap} {v1 v2 : IV} {l1 l2 : List Cl} (h1 : CS H v1 l1) (h2 : CS H v2 l2) (hN : l1.length < N) (hb : l1.length < 4611686018427387904) :
    veneerlaw08SameS cal φ N v1 v2 H = some (.bool (decide (l1 = l2)), H) := by
  unfold veneerlaw08SameS veneerlaw08SameC5S veneerlaw08SameC4S veneerlaw08SameC3S veneerlaw08SameC2S veneerlaw08SameC1S
  rw [h1.len, ob_some, h2.len, ob_some, lbin_neq, ob_some]
  by_cases hl : l1.length = l2.length
  · have : decide (((l1.length : Nat) : Int) = (l2.length : Nat)) = true := decide_eq_true (by omega)
    rw [this, Bool.not_true, cnd_false, ob_some]
    have := same_loop (cal := cal) (φ := φ) (N := N) h1 h2 hl hb l1.length 0 N (by omega) hN
    simpa using this
  · have : decide (((l1.length : Nat) : Int) = (l2.length : Nat)) = false := decide_eq_false (by omega)
    rw [this, Bool.not_false, cnd_true]
    have : ¬ l1 = l2 := fun e => hl (by rw [e])
    rw [decide_eq_false this]
end Go.Shade
