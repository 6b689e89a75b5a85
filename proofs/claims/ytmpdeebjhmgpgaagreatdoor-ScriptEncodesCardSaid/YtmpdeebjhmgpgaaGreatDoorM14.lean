/- Part 14 of the proof. -/
import Derived.Test.YtmpdeebjhmgpgaaGreatDoorM2
import Derived.KernelRfl
import Derived.Test.YtmpdeebjhmgpgaaGreatDoorM3
set_option linter.all false
namespace Go.Shade
variable {k : KT (IV × Heap)}
def callWithin :LFun:=⟨(.seq (.reg [
  ⟨(some 6),(.mv (.k (.bool false))),none⟩])
 (.seq (.reg [
  ⟨(some 7),(.mv (.t 0)),none⟩,
  ⟨(some 8),(.mv (.t 1)),none⟩,
  ⟨(some 9),(.bin .geq (.t 7) (.t 8)),none⟩,
  ⟨(some 10),(.mv (.t 9)),none⟩,
  ⟨(some 11),(.mv (.t 0)),(some (10,true))⟩,
  ⟨(some 12),(.mv (.t 2)),(some (10,true))⟩,
  ⟨(some 13),(.bin .leq (.t 11) (.t 12)),(some (10,true))⟩,
  ⟨(some 14),(.pick (.t 10) (.t 13) (.k (.bool false))),none⟩,
  ⟨(some 6),(.mv (.t 14)),none⟩])
 .ret)),[(.tmp 6)],15⟩
def callWithinS (cal:FuncId->Bool)(O:Oracle)(N:Nat)(v0 v1 v2:IV)(H:Heap):Option (IV×Heap) :=
  ob (lbin .geq v0 v1) fun t1 =>
  ob (gq (isB t1 true) (some v0)) fun t2 =>
  ob (gq (isB t1 true) (some v2)) fun t3 =>
  ob (gq (isB t1 true) (lbin .leq t2 t3)) fun t4 =>
  ob (lpick t1 t4 (.bool false)) fun t5 =>
  some (t5,H)
theorem callWithinEq (cal:FuncId->Bool)(O:Oracle)(N:Nat)(v0 v1 v2:IV)(H:Heap):lrunK cal O N (callWithin) [v0,v1,v2] H=callWithinS cal O N v0 v1 v2 H:=by
 kernel_rfl
def callMay (cCallWithin:FuncId):LFun:=⟨(.seq (.reg [
  ⟨(some 1),(.box (.t 0)),none⟩,
  ⟨(some 2),(.mv (.k (.bool false))),none⟩])
 (.seq (.reg [
  ⟨(some 3),(.off (.t 1) 0),none⟩,
  ⟨(some 4),(.ld1 (.t 3)),none⟩,
  ⟨(some 5),(.callF cCallWithin [(.t 4),(.k (.int .i64 1)),(.k (.int .i64 20))]),none⟩,
  ⟨(some 6),(.mv (.t 5)),none⟩,
  ⟨(some 7),(.off (.t 1) 1),(some (6,true))⟩,
  ⟨(some 8),(.ld1 (.t 7)),(some (6,true))⟩,
  ⟨(some 9),(.callF cCallWithin [(.t 8),(.k (.int .i64 (-4))),(.k (.int .i64 35))]),(some (6,true))⟩,
  ⟨(some 10),(.pick (.t 6) (.t 9) (.k (.bool false))),none⟩,
  ⟨(some 11),(.mv (.t 10)),none⟩,
  ⟨(some 12),(.off (.t 1) 2),(some (11,true))⟩,
  ⟨(some 13),(.ld1 (.t 12)),(some (11,true))⟩,
  ⟨(some 14),(.callF cCallWithin [(.t 13),(.k (.int .i64 0)),(.k (.int .i64 63))]),(some (11,true))⟩,
  ⟨(some 15),(.pick (.t 11) (.t 14) (.k (.bool false))),none⟩,
  ⟨(some 16),(.mv (.t 15)),none⟩,
  ⟨(some 17),(.off (.t 1) 3),(some (16,true))⟩,
  ⟨(some 18),(.ld1 (.t 17)),(some (16,true))⟩,
  ⟨(some 19),(.callF cCallWithin [(.t 18),(.k (.int .i64 (-256))),(.k (.int .i64 65279))]),(some (16,true))⟩,
  ⟨(some 20),(.pick (.t 16) (.t 19) (.k (.bool false))),none⟩,
  ⟨(some 21),(.mv (.t 20)),none⟩,
  ⟨(some 22),(.off (.t 1) 4),(some (21,true))⟩,
  ⟨(some 23),(.ld1 (.t 22)),(some (21,true))⟩,
  ⟨(some 24),(.callF cCallWithin [(.t 23),(.k (.int .i64 (-256))),(.k (.int .i64 65279))]),(some (21,true))⟩,
  ⟨(some 25),(.pick (.t 21) (.t 24) (.k (.bool false))),none⟩,
  ⟨(some 26),(.mv (.t 25)),none⟩,
  ⟨(some 27),(.off (.t 1) 5),(some (26,true))⟩,
  ⟨(some 28),(.ld1 (.t 27)),(some (26,true))⟩,
  ⟨(some 29),(.len .str (.t 28)),(some (26,true))⟩,
  ⟨(some 30),(.bin .lss (.t 29) (.k (.int .i64 64))),(some (26,true))⟩,
  ⟨(some 31),(.pick (.t 26) (.t 30) (.k (.bool false))),none⟩,
  ⟨(some 32),(.mv (.t 31)),none⟩,
  ⟨(some 33),(.off (.t 1) 6),(some (32,true))⟩,
  ⟨(some 34),(.ld1 (.t 33)),(some (32,true))⟩,
  ⟨(some 35),(.len .str (.t 34)),(some (32,true))⟩,
  ⟨(some 36),(.bin .lss (.t 35) (.k (.int .i64 64))),(some (32,true))⟩,
  ⟨(some 37),(.pick (.t 32) (.t 36) (.k (.bool false))),none⟩,
  ⟨(some 2),(.mv (.t 37)),none⟩])
 .ret)),[(.tmp 2)],38⟩
def callMayS (cal:FuncId->Bool)(O:Oracle)(N:Nat)(cCallWithin:FuncId)(v0:IV)(H:Heap):Option (IV×Heap) :=
  ob (lbox H v0) fun r1 =>
  ob (loff r1.1 0) fun t2 =>
  ob (lload1 r1.2 t2) fun t3 =>
  ob (O cCallWithin [t3,(.int .i64 1),(.int .i64 20)] r1.2) fun r4 =>
  ob (gq (isB r4.1 true) (loff r1.1 1)) fun t5 =>
  ob (gq (isB r4.1 true) (lload1 r4.2 t5)) fun t6 =>
  ob (ge (isB r4.1 true) r4.2 (O cCallWithin [t6,(.int .i64 (-4)),(.int .i64 35)] r4.2)) fun r7 =>
  ob (lpick r4.1 r7.1 (.bool false)) fun t8 =>
  ob (gq (isB t8 true) (loff r1.1 2)) fun t9 =>
  ob (gq (isB t8 true) (lload1 r7.2 t9)) fun t10 =>
  ob (ge (isB t8 true) r7.2 (O cCallWithin [t10,(.int .i64 0),(.int .i64 63)] r7.2)) fun r11 =>
  ob (lpick t8 r11.1 (.bool false)) fun t12 =>
  ob (gq (isB t12 true) (loff r1.1 3)) fun t13 =>
  ob (gq (isB t12 true) (lload1 r11.2 t13)) fun t14 =>
  ob (ge (isB t12 true) r11.2 (O cCallWithin [t14,(.int .i64 (-256)),(.int .i64 65279)] r11.2)) fun r15 =>
  ob (lpick t12 r15.1 (.bool false)) fun t16 =>
  ob (gq (isB t16 true) (loff r1.1 4)) fun t17 =>
  ob (gq (isB t16 true) (lload1 r15.2 t17)) fun t18 =>
  ob (ge (isB t16 true) r15.2 (O cCallWithin [t18,(.int .i64 (-256)),(.int .i64 65279)] r15.2)) fun r19 =>
  ob (lpick t16 r19.1 (.bool false)) fun t20 =>
  ob (gq (isB t20 true) (loff r1.1 5)) fun t21 =>
  ob (gq (isB t20 true) (lload1 r19.2 t21)) fun t22 =>
  ob (gq (isB t20 true) (llen r19.2 .str t22)) fun t23 =>
  ob (gq (isB t20 true) (lbin .lss t23 (.int .i64 64))) fun t24 =>
  ob (lpick t20 t24 (.bool false)) fun t25 =>
  ob (gq (isB t25 true) (loff r1.1 6)) fun t26 =>
  ob (gq (isB t25 true) (lload1 r19.2 t26)) fun t27 =>
  ob (gq (isB t25 true) (llen r19.2 .str t27)) fun t28 =>
  ob (gq (isB t25 true) (lbin .lss t28 (.int .i64 64))) fun t29 =>
  ob (lpick t25 t29 (.bool false)) fun t30 =>
  some (t30,r19.2)
theorem callMayEq (cal:FuncId->Bool)(O:Oracle)(N:Nat)(cCallWithin:FuncId)(v0:IV)(H:Heap):lrunK cal O N (callMay cCallWithin) [v0] H=callMayS cal O N cCallWithin v0 H:=by
 kernel_rfl
def callEncode (cCallMay:FuncId):LFun:=⟨(.seq (.reg [
  ⟨(some 1),(.box (.t 0)),none⟩,
  ⟨(some 2),(.mv (.k .nilSlice)),none⟩,
  ⟨(some 3),(.mv (.k (.int .i64 0))),none⟩])
 (.seq (.seq (.reg [
  ⟨(some 7),(.ldn 7 (.t 1)),none⟩,
  ⟨(some 8),(.callF cCallMay [(.t 7)]),none⟩,
  ⟨(some 9),(.un .not (.t 8)),none⟩])
 (.cond (.t 9) (.seq (.reg [
  ⟨(some 2),(.mv (.k .nilSlice)),none⟩,
  ⟨(some 3),(.mv (.k (.int .i64 22))),none⟩])
 .ret)
 .skip))
 (.seq (.drw [
  ⟨(some 10),(.off (.t 1) 3),none⟩,
  ⟨(some 11),(.ld1 (.t 10)),none⟩,
  ⟨(some 12),(.bin .sub (.t 11) (.k (.int .i64 (-256)))),none⟩,
  ⟨(some 13),(.off (.t 1) 4),none⟩,
  ⟨(some 14),(.ld1 (.t 13)),none⟩,
  ⟨(some 15),(.bin .sub (.t 14) (.k (.int .i64 (-256)))),none⟩,
  ⟨(some 4),(.mv (.t 12)),none⟩,
  ⟨(some 5),(.mv (.t 15)),none⟩] [])
 (.seq (.reg [
  ⟨(some 16),(.off (.t 1) 0),none⟩,
  ⟨(some 17),(.ld1 (.t 16)),none⟩,
  ⟨(some 18),(.bin .sub (.t 17) (.k (.int .i64 1))),none⟩,
  ⟨(some 19),(.cvt .u8 (.t 18)),none⟩,
  ⟨(some 20),(.off (.t 1) 1),none⟩,
  ⟨(some 21),(.ld1 (.t 20)),none⟩,
  ⟨(some 22),(.bin .sub (.t 21) (.k (.int .i64 (-4)))),none⟩,
  ⟨(some 23),(.cvt .u8 (.t 22)),none⟩,
  ⟨(some 24),(.off (.t 1) 2),none⟩,
  ⟨(some 25),(.ld1 (.t 24)),none⟩,
  ⟨(some 26),(.cvt .u8 (.t 25)),none⟩,
  ⟨(some 27),(.mv (.t 4)),none⟩,
  ⟨(some 28),(.bin .shr (.t 27) (.k (.int .u64 8))),none⟩,
  ⟨(some 29),(.cvt .u8 (.t 28)),none⟩,
  ⟨(some 30),(.mv (.t 4)),none⟩,
  ⟨(some 31),(.cvt .u8 (.t 30)),none⟩,
  ⟨(some 32),(.mv (.t 5)),none⟩,
  ⟨(some 33),(.bin .shr (.t 32) (.k (.int .u64 8))),none⟩,
  ⟨(some 34),(.cvt .u8 (.t 33)),none⟩,
  ⟨(some 35),(.mv (.t 5)),none⟩,
  ⟨(some 36),(.cvt .u8 (.t 35)),none⟩,
  ⟨(some 37),(.off (.t 1) 5),none⟩,
  ⟨(some 38),(.ld1 (.t 37)),none⟩,
  ⟨(some 39),(.len .str (.t 38)),none⟩,
  ⟨(some 40),(.cvt .u8 (.t 39)),none⟩,
  ⟨(some 41),(.bldS 1 8 [(.int .u8 0)] [(0,(.t 19)),(1,(.t 23)),(2,(.t 26)),(3,(.t 29)),(4,(.t 31)),(5,(.t 34)),(6,(.t 36)),(7,(.t 40))]),none⟩,
  ⟨(some 6),(.mv (.t 41)),none⟩])
 (.seq (.reg [
  ⟨(some 42),(.mv (.t 6)),none⟩,
  ⟨(some 43),(.off (.t 1) 5),none⟩,
  ⟨(some 44),(.ld1 (.t 43)),none⟩,
  ⟨(some 45),(.app 1 1 (.t 42) (.t 44)),none⟩,
  ⟨(some 6),(.mv (.t 45)),none⟩])
 (.seq (.reg [
  ⟨(some 46),(.mv (.t 6)),none⟩,
  ⟨(some 47),(.off (.t 1) 6),none⟩,
  ⟨(some 48),(.ld1 (.t 47)),none⟩,
  ⟨(some 49),(.len .str (.t 48)),none⟩,
  ⟨(some 50),(.cvt .u8 (.t 49)),none⟩,
  ⟨(some 51),(.bldS 1 1 [(.int .u8 0)] [(0,(.t 50))]),none⟩,
  ⟨(some 52),(.app 1 1 (.t 46) (.t 51)),none⟩,
  ⟨(some 6),(.mv (.t 52)),none⟩])
 (.seq (.reg [
  ⟨(some 53),(.mv (.t 6)),none⟩,
  ⟨(some 54),(.off (.t 1) 6),none⟩,
  ⟨(some 55),(.ld1 (.t 54)),none⟩,
  ⟨(some 56),(.app 1 1 (.t 53) (.t 55)),none⟩,
  ⟨(some 2),(.mv (.t 56)),none⟩,
  ⟨(some 3),(.mv (.k (.int .i64 0))),none⟩])
 .ret))))))),[(.tmp 2),(.tmp 3)],57⟩
def callEncodeS (cal:FuncId->Bool)(O:Oracle)(N:Nat)(cCallMay:FuncId)(v0:IV)(H:Heap):Option (IV×Heap) :=
  ob (lbox H v0) fun r1 =>
  ob (lloadn r1.2 7 r1.1) fun t2 =>
  ob (O cCallMay [t2] r1.2) fun r3 =>
  ob (iun .not r3.1) fun t4 =>
  cnd t4
  (some ((.tuple [.nilSlice,(.int .i64 22)]),r3.2))
  (ob (loff r1.1 3) fun t5 =>
  ob (lload1 r3.2 t5) fun t6 =>
  ob (lbin .sub t6 (.int .i64 (-256))) fun t7 =>
  ob (loff r1.1 4) fun t8 =>
  ob (lload1 r3.2 t8) fun t9 =>
  ob (lbin .sub t9 (.int .i64 (-256))) fun t10 =>
  ob (loff r1.1 0) fun t11 =>
  ob (lload1 r3.2 t11) fun t12 =>
  ob (lbin .sub t12 (.int .i64 1)) fun t13 =>
  ob (lcvt .u8 t13) fun t14 =>
  ob (loff r1.1 1) fun t15 =>
  ob (lload1 r3.2 t15) fun t16 =>
  ob (lbin .sub t16 (.int .i64 (-4))) fun t17 =>
  ob (lcvt .u8 t17) fun t18 =>
  ob (loff r1.1 2) fun t19 =>
  ob (lload1 r3.2 t19) fun t20 =>
  ob (lcvt .u8 t20) fun t21 =>
  ob (lbin .shr t7 (.int .u64 8)) fun t22 =>
  ob (lcvt .u8 t22) fun t23 =>
  ob (lcvt .u8 t7) fun t24 =>
  ob (lbin .shr t10 (.int .u64 8)) fun t25 =>
  ob (lcvt .u8 t25) fun t26 =>
  ob (lcvt .u8 t10) fun t27 =>
  ob (loff r1.1 5) fun t28 =>
  ob (lload1 r3.2 t28) fun t29 =>
  ob (llen r3.2 .str t29) fun t30 =>
  ob (lcvt .u8 t30) fun t31 =>
  ob (lbldS r3.2 1 8 [(.int .u8 0)] [(0,t14),(1,t18),(2,t21),(3,t23),(4,t24),(5,t26),(6,t27),(7,t31)]) fun r32 =>
  ob (loff r1.1 5) fun t33 =>
  ob (lload1 r32.2 t33) fun t34 =>
  ob (lapp r32.2 1 1 r32.1 t34) fun r35 =>
  ob (loff r1.1 6) fun t36 =>
  ob (lload1 r35.2 t36) fun t37 =>
  ob (llen r35.2 .str t37) fun t38 =>
  ob (lcvt .u8 t38) fun t39 =>
  ob (lbldS r35.2 1 1 [(.int .u8 0)] [(0,t39)]) fun r40 =>
  ob (lapp r40.2 1 1 r35.1 r40.1) fun r41 =>
  ob (loff r1.1 6) fun t42 =>
  ob (lload1 r41.2 t42) fun t43 =>
  ob (lapp r41.2 1 1 r41.1 t43) fun r44 =>
  some ((.tuple [r44.1,(.int .i64 0)]),r44.2))
theorem callEncodeEq (cal:FuncId->Bool)(O:Oracle)(N:Nat)(cCallMay:FuncId)(v0:IV)(H:Heap):lrunK cal O N (callEncode cCallMay) [v0] H=callEncodeS cal O N cCallMay v0 H:=by
 kernel_rfl
def callScriptC0 (cCallEncode:FuncId):LC:=.loop (.seq (.reg [
  ⟨(some 15),(.bin .lss (.t 14) (.t 13)),none⟩])
 (.seq (.cond (.t 15) .skip
 (.exit 0))
 (.seq (.block 1 (.seq (.reg [
  ⟨(some 16),(.ix 7 (.t 12) (.t 14)),none⟩,
  ⟨(some 17),(.ldn 7 (.t 16)),none⟩,
  ⟨(some 6),(.zbox (.agg [(.int .i64 0),(.int .i64 0),(.int .i64 0),(.int .i64 0),(.int .i64 0),(.str []),(.str [])])),none⟩,
  ⟨none,(.st 7 (.t 6) (.t 17)),none⟩])
 (.seq (.reg [
  ⟨(some 19),(.ldn 7 (.t 6)),none⟩,
  ⟨(some 20),(.callF cCallEncode [(.t 19)]),none⟩,
  ⟨(some 18),(.mv (.t 20)),none⟩,
  ⟨(some 21),(.ext (.t 18) 0),none⟩,
  ⟨(some 22),(.ext (.t 18) 1),none⟩,
  ⟨(some 7),(.mv (.t 21)),none⟩,
  ⟨(some 8),(.mv (.t 22)),none⟩])
 (.seq (.seq (.reg [
  ⟨(some 23),(.mv (.t 8)),none⟩,
  ⟨(some 24),(.bin .neq (.t 23) (.k (.int .i64 0))),none⟩])
 (.cond (.t 24) (.seq (.reg [
  ⟨(some 25),(.mv (.t 8)),none⟩,
  ⟨(some 2),(.mv (.k .nilSlice)),none⟩,
  ⟨(some 3),(.mv (.t 25)),none⟩])
 .ret)
 .skip))
 (.reg [
  ⟨(some 26),(.mv (.t 4)),none⟩,
  ⟨(some 27),(.mv (.t 7)),none⟩,
  ⟨(some 28),(.app 1 1 (.t 26) (.t 27)),none⟩,
  ⟨(some 4),(.mv (.t 28)),none⟩])))))
 (.reg [
  ⟨(some 29),(.bin .add (.t 14) (.k (.int .i64 1))),none⟩,
  ⟨(some 14),(.mv (.t 29)),none⟩]))))
def callScriptC1 (cCallEncode:FuncId):LC:=.block 0 (callScriptC0 cCallEncode)
def callScriptC2 (cCallEncode:FuncId):LC:=.seq (.reg [
  ⟨(some 12),(.mv (.t 0)),none⟩,
  ⟨(some 13),(.len .slice (.t 12)),none⟩,
  ⟨(some 14),(.mv (.k (.int .i64 0))),none⟩]) (callScriptC1 cCallEncode)
def callScriptC3 (cCallEncode:FuncId):LC:=.seq (callScriptC2 cCallEncode) (.seq (.reg [
  ⟨(some 30),(.mv (.t 4)),none⟩,
  ⟨(some 2),(.mv (.t 30)),none⟩,
  ⟨(some 3),(.mv (.k (.int .i64 0))),none⟩])
 .ret)
def callScriptC4 (cCallEncode:FuncId):LC:=.seq (.reg [
  ⟨(some 4),(.mv (.k .nilSlice)),none⟩]) (callScriptC3 cCallEncode)
def callScriptC5 (cCallEncode:FuncId):LC:=.seq (.seq (.reg [
  ⟨(some 9),(.mv (.t 0)),none⟩,
  ⟨(some 10),(.len .slice (.t 9)),none⟩,
  ⟨(some 11),(.bin .gtr (.t 10) (.k (.int .i64 200))),none⟩])
 (.cond (.t 11) (.seq (.reg [
  ⟨(some 2),(.mv (.k .nilSlice)),none⟩,
  ⟨(some 3),(.mv (.k (.int .i64 22))),none⟩])
 .ret)
 .skip)) (callScriptC4 cCallEncode)
def callScriptC6 (cCallEncode:FuncId):LC:=.seq (.reg [
  ⟨(some 2),(.mv (.k .nilSlice)),none⟩,
  ⟨(some 3),(.mv (.k (.int .i64 0))),none⟩]) (callScriptC5 cCallEncode)
def callScriptC0S (cal:FuncId->Bool)(O:Oracle)(N:Nat)(cCallEncode:FuncId)(gE0:IV->Heap->Option (IV×Heap)):Nat->IV->IV->IV->IV->Heap->Option (IV×Heap)
 | 0,_,_,_,_,_=>none
 | n+1,v4,v12,v13,v14,H =>
  ob (lbin .lss v14 v13) fun t1 =>
  cnd t1
  (ob (lix 7 v12 v14) fun t2 =>
  ob (lloadn H 7 t2) fun t3 =>
  ob (lzbox H (.agg [(.int .i64 0),(.int .i64 0),(.int .i64 0),(.int .i64 0),(.int .i64 0),(.str []),(.str [])])) fun r4 =>
  ob (lstV r4.2 7 r4.1 t3) fun r5 =>
  ob (lloadn r5.2 7 r4.1) fun t6 =>
  ob (O cCallEncode [t6] r5.2) fun r7 =>
  ob (iextract r7.1 0) fun t8 =>
  ob (iextract r7.1 1) fun t9 =>
  ob (lbin .neq t9 (.int .i64 0)) fun t10 =>
  cnd t10
  (some ((.tuple [.nilSlice,t9]),r7.2))
  (ob (lapp r7.2 1 1 v4 t8) fun r11 =>
  ob (lbin .add v14 (.int .i64 1)) fun t12 =>
  callScriptC0S cal O N cCallEncode gE0 n r11.1 v12 v13 t12 r11.2))
  (gE0 v4 H)
theorem callScriptC0Eq (cal:FuncId->Bool)(O:Oracle)(N:Nat)(cCallEncode:FuncId)(gE0:IV->Heap->Option (IV×Heap))(hgE0:∀E H,k (.exit 0) E H=gE0 (lk E 4) H)(hR:∀E H,k .ret E H=resK [(.tmp 2),(.tmp 3)] [] E H):∀(n:Nat) (E:Sg) (H:Heap),itK (lxK cal O N (.seq (.reg [
  ⟨(some 15),(.bin .lss (.t 14) (.t 13)),none⟩])
 (.seq (.cond (.t 15) .skip
 (.exit 0))
 (.seq (.block 1 (.seq (.reg [
  ⟨(some 16),(.ix 7 (.t 12) (.t 14)),none⟩,
  ⟨(some 17),(.ldn 7 (.t 16)),none⟩,
  ⟨(some 6),(.zbox (.agg [(.int .i64 0),(.int .i64 0),(.int .i64 0),(.int .i64 0),(.int .i64 0),(.str []),(.str [])])),none⟩,
  ⟨none,(.st 7 (.t 6) (.t 17)),none⟩])
 (.seq (.reg [
  ⟨(some 19),(.ldn 7 (.t 6)),none⟩,
  ⟨(some 20),(.callF cCallEncode [(.t 19)]),none⟩,
  ⟨(some 18),(.mv (.t 20)),none⟩,
  ⟨(some 21),(.ext (.t 18) 0),none⟩,
  ⟨(some 22),(.ext (.t 18) 1),none⟩,
  ⟨(some 7),(.mv (.t 21)),none⟩,
  ⟨(some 8),(.mv (.t 22)),none⟩])
 (.seq (.seq (.reg [
  ⟨(some 23),(.mv (.t 8)),none⟩,
  ⟨(some 24),(.bin .neq (.t 23) (.k (.int .i64 0))),none⟩])
 (.cond (.t 24) (.seq (.reg [
  ⟨(some 25),(.mv (.t 8)),none⟩,
  ⟨(some 2),(.mv (.k .nilSlice)),none⟩,
  ⟨(some 3),(.mv (.t 25)),none⟩])
 .ret)
 .skip))
 (.reg [
  ⟨(some 26),(.mv (.t 4)),none⟩,
  ⟨(some 27),(.mv (.t 7)),none⟩,
  ⟨(some 28),(.app 1 1 (.t 26) (.t 27)),none⟩,
  ⟨(some 4),(.mv (.t 28)),none⟩])))))
 (.reg [
  ⟨(some 29),(.bin .add (.t 14) (.k (.int .i64 1))),none⟩,
  ⟨(some 14),(.mv (.t 29)),none⟩]))))) n E H k=callScriptC0S cal O N cCallEncode gE0 n (lk E 4) (lk E 12) (lk E 13) (lk E 14) H:=by
 have hk:k=(kE 0 (fun E H=>gE0 (lk E 4) H) (kR (resK [(.tmp 2),(.tmp 3)] []) k)):=(kE_mk hgE0 (kR_mk hR rfl));intro n
 induction n with
 | zero=>intro E H;rfl
 | succ n ih =>
  intro E H;rw[itK_succ,seqK_mk (g:=fun E H=>callScriptC0S cal O N cCallEncode gE0 n (lk E 4) (lk E 12) (lk E 13) (lk E 14) H) ih,hk];kernel_rfl
def callScriptC1S (cal:FuncId->Bool)(O:Oracle)(N:Nat)(cCallEncode:FuncId)(gN:IV->Heap->Option (IV×Heap))(v4 v12 v13 v14:IV)(H:Heap):Option (IV×Heap) :=
  callScriptC0S cal O N cCallEncode (fun v4 H=>gN v4 H) N v4 v12 v13 v14 H
theorem callScriptC1Eq (cal:FuncId->Bool)(O:Oracle)(N:Nat)(cCallEncode:FuncId)(gN:IV->Heap->Option (IV×Heap))(hgN:∀E H,k .normal E H=gN (lk E 4) H)(hR:∀E H,k .ret E H=resK [(.tmp 2),(.tmp 3)] [] E H):∀(E:Sg) (H:Heap),lxK cal O N (callScriptC1 cCallEncode) E H k=callScriptC1S cal O N cCallEncode gN (lk E 4) (lk E 12) (lk E 13) (lk E 14) H:=by
 have hk:k=(kN (fun E H=>gN (lk E 4) H) (kR (resK [(.tmp 2),(.tmp 3)] []) k)):=(kN_mk hgN (kR_mk hR rfl));intro E H;rw[hk];show lxK cal O N (callScriptC0 cCallEncode) E H (blockK 0 (kN (fun E H=>gN (lk E 4) H) (kR (resK [(.tmp 2),(.tmp 3)] []) k)))=_;exact callScriptC0Eq cal O N cCallEncode (k:=(blockK 0 (kN (fun E H=>gN (lk E 4) H) (kR (resK [(.tmp 2),(.tmp 3)] []) k)))) (fun v4 H=>gN v4 H) (fun _ _=>rfl) (fun _ _=>rfl) N E H
def callScriptC2S (cal:FuncId->Bool)(O:Oracle)(N:Nat)(cCallEncode:FuncId)(gN:IV->Heap->Option (IV×Heap))(v0 v4:IV)(H:Heap):Option (IV×Heap) :=
  ob (llen H .slice v0) fun t1 =>
  callScriptC1S cal O N cCallEncode (fun v4 H=>gN v4 H) v4 v0 t1 (.int .i64 0) H
theorem callScriptC2Eq (cal:FuncId->Bool)(O:Oracle)(N:Nat)(cCallEncode:FuncId)(gN:IV->Heap->Option (IV×Heap))(hgN:∀E H,k .normal E H=gN (lk E 4) H)(hR:∀E H,k .ret E H=resK [(.tmp 2),(.tmp 3)] [] E H):∀(E:Sg) (H:Heap),lxK cal O N (callScriptC2 cCallEncode) E H k=callScriptC2S cal O N cCallEncode gN (lk E 0) (lk E 4) H:=by
 have hk:k=(kN (fun E H=>gN (lk E 4) H) (kR (resK [(.tmp 2),(.tmp 3)] []) k)):=(kN_mk hgN (kR_mk hR rfl));intro E H;rw[hk];show lxK cal O N (.reg [
  ⟨(some 12),(.mv (.t 0)),none⟩,
  ⟨(some 13),(.len .slice (.t 12)),none⟩,
  ⟨(some 14),(.mv (.k (.int .i64 0))),none⟩]) E H (seqK (lxK cal O N (callScriptC1 cCallEncode)) (kN (fun E H=>gN (lk E 4) H) (kR (resK [(.tmp 2),(.tmp 3)] []) k)))=_
 rw[seqK_mk (g:=fun E H=>callScriptC1S cal O N cCallEncode (fun v4 H=>gN v4 H) (lk E 4) (lk E 12) (lk E 13) (lk E 14) H) (callScriptC1Eq cal O N cCallEncode (k:=(kN (fun E H=>gN (lk E 4) H) (kR (resK [(.tmp 2),(.tmp 3)] []) k))) (fun v4 H=>gN v4 H) (fun _ _=>rfl) (fun _ _=>rfl))];kernel_rfl
def callScriptC3S (cal:FuncId->Bool)(O:Oracle)(N:Nat)(cCallEncode:FuncId)(v0 v4:IV)(H:Heap):Option (IV×Heap) :=
  callScriptC2S cal O N cCallEncode (fun v4 H=>some ((.tuple [v4,(.int .i64 0)]),H)) v0 v4 H
theorem callScriptC3Eq (cal:FuncId->Bool)(O:Oracle)(N:Nat)(cCallEncode:FuncId)(hR:∀E H,k .ret E H=resK [(.tmp 2),(.tmp 3)] [] E H):∀(E:Sg) (H:Heap),lxK cal O N (callScriptC3 cCallEncode) E H k=callScriptC3S cal O N cCallEncode (lk E 0) (lk E 4) H:=by
 have hk:k=(kR (resK [(.tmp 2),(.tmp 3)] []) k):=(kR_mk hR rfl);intro E H;rw[hk];show lxK cal O N (callScriptC2 cCallEncode) E H (seqK (lxK cal O N (.seq (.reg [
  ⟨(some 30),(.mv (.t 4)),none⟩,
  ⟨(some 2),(.mv (.t 30)),none⟩,
  ⟨(some 3),(.mv (.k (.int .i64 0))),none⟩])
 .ret)) (kR (resK [(.tmp 2),(.tmp 3)] []) k))=_
 exact callScriptC2Eq cal O N cCallEncode (k:=(seqK (lxK cal O N (.seq (.reg [
  ⟨(some 30),(.mv (.t 4)),none⟩,
  ⟨(some 2),(.mv (.t 30)),none⟩,
  ⟨(some 3),(.mv (.k (.int .i64 0))),none⟩])
 .ret)) (kR (resK [(.tmp 2),(.tmp 3)] []) k))) (fun v4 H=>some ((.tuple [v4,(.int .i64 0)]),H)) (fun _ _=>rfl) (fun _ _=>rfl) E H
def callScriptC4S (cal:FuncId->Bool)(O:Oracle)(N:Nat)(cCallEncode:FuncId)(v0:IV)(H:Heap):Option (IV×Heap) :=
  callScriptC3S cal O N cCallEncode v0 .nilSlice H
theorem callScriptC4Eq (cal:FuncId->Bool)(O:Oracle)(N:Nat)(cCallEncode:FuncId)(hR:∀E H,k .ret E H=resK [(.tmp 2),(.tmp 3)] [] E H):∀(E:Sg) (H:Heap),lxK cal O N (callScriptC4 cCallEncode) E H k=callScriptC4S cal O N cCallEncode (lk E 0) H:=by
 have hk:k=(kR (resK [(.tmp 2),(.tmp 3)] []) k):=(kR_mk hR rfl);intro E H;rw[hk];show lxK cal O N (.reg [
  ⟨(some 4),(.mv (.k .nilSlice)),none⟩]) E H (seqK (lxK cal O N (callScriptC3 cCallEncode)) (kR (resK [(.tmp 2),(.tmp 3)] []) k))=_
 rw[seqK_mk (g:=fun E H=>callScriptC3S cal O N cCallEncode (lk E 0) (lk E 4) H) (callScriptC3Eq cal O N cCallEncode (k:=(kR (resK [(.tmp 2),(.tmp 3)] []) k)) (fun _ _=>rfl))];kernel_rfl
def callScriptC5S (cal:FuncId->Bool)(O:Oracle)(N:Nat)(cCallEncode:FuncId)(v0:IV)(H:Heap):Option (IV×Heap) :=
  ob (llen H .slice v0) fun t1 =>
  ob (lbin .gtr t1 (.int .i64 200)) fun t2 =>
  cnd t2
  (some ((.tuple [.nilSlice,(.int .i64 22)]),H))
  (callScriptC4S cal O N cCallEncode v0 H)
theorem callScriptC5Eq (cal:FuncId->Bool)(O:Oracle)(N:Nat)(cCallEncode:FuncId)(hR:∀E H,k .ret E H=resK [(.tmp 2),(.tmp 3)] [] E H):∀(E:Sg) (H:Heap),lxK cal O N (callScriptC5 cCallEncode) E H k=callScriptC5S cal O N cCallEncode (lk E 0) H:=by
 have hk:k=(kR (resK [(.tmp 2),(.tmp 3)] []) k):=(kR_mk hR rfl);intro E H;rw[hk];show lxK cal O N (.seq (.reg [
  ⟨(some 9),(.mv (.t 0)),none⟩,
  ⟨(some 10),(.len .slice (.t 9)),none⟩,
  ⟨(some 11),(.bin .gtr (.t 10) (.k (.int .i64 200))),none⟩])
 (.cond (.t 11) (.seq (.reg [
  ⟨(some 2),(.mv (.k .nilSlice)),none⟩,
  ⟨(some 3),(.mv (.k (.int .i64 22))),none⟩])
 .ret)
 .skip)) E H (seqK (lxK cal O N (callScriptC4 cCallEncode)) (kR (resK [(.tmp 2),(.tmp 3)] []) k))=_
 rw[seqK_mk (g:=fun E H=>callScriptC4S cal O N cCallEncode (lk E 0) H) (callScriptC4Eq cal O N cCallEncode (k:=(kR (resK [(.tmp 2),(.tmp 3)] []) k)) (fun _ _=>rfl))];kernel_rfl
def callScriptC6S (cal:FuncId->Bool)(O:Oracle)(N:Nat)(cCallEncode:FuncId)(v0:IV)(H:Heap):Option (IV×Heap) :=
  callScriptC5S cal O N cCallEncode v0 H
theorem callScriptC6Eq (cal:FuncId->Bool)(O:Oracle)(N:Nat)(cCallEncode:FuncId)(hR:∀E H,k .ret E H=resK [(.tmp 2),(.tmp 3)] [] E H):∀(E:Sg) (H:Heap),lxK cal O N (callScriptC6 cCallEncode) E H k=callScriptC6S cal O N cCallEncode (lk E 0) H:=by
 have hk:k=(kR (resK [(.tmp 2),(.tmp 3)] []) k):=(kR_mk hR rfl);intro E H;rw[hk];show lxK cal O N (.reg [
  ⟨(some 2),(.mv (.k .nilSlice)),none⟩,
  ⟨(some 3),(.mv (.k (.int .i64 0))),none⟩]) E H (seqK (lxK cal O N (callScriptC5 cCallEncode)) (kR (resK [(.tmp 2),(.tmp 3)] []) k))=_
 rw[seqK_mk (g:=fun E H=>callScriptC5S cal O N cCallEncode (lk E 0) H) (callScriptC5Eq cal O N cCallEncode (k:=(kR (resK [(.tmp 2),(.tmp 3)] []) k)) (fun _ _=>rfl))];kernel_rfl
def callScript (cCallEncode:FuncId):LFun:=⟨(callScriptC6 cCallEncode),[(.tmp 2),(.tmp 3)],31⟩
def callScriptS (cal:FuncId->Bool)(O:Oracle)(N:Nat)(cCallEncode:FuncId)(v0:IV)(H:Heap):Option (IV×Heap) :=
  callScriptC6S cal O N cCallEncode v0 H
theorem callScriptEq (cal:FuncId->Bool)(O:Oracle)(N:Nat)(cCallEncode:FuncId)(v0:IV)(H:Heap):lrunK cal O N (callScript cCallEncode) [v0] H=callScriptS cal O N cCallEncode v0 H:=by
 show lxK cal O N (callScriptC6 cCallEncode) (initFrom 0 [v0]) H (endK [(.tmp 2),(.tmp 3)])=_;exact callScriptC6Eq cal O N cCallEncode (k:=(endK [(.tmp 2),(.tmp 3)])) (fun _ _=>rfl) (initFrom 0 [v0]) H
def callDecodeC0 (cCallDecode1 cCallDecode2 cCallDecode3:FuncId):LC:=.loop (.seq (.seq (.reg [
  ⟨(some 11),(.ld1 (.t 1)),none⟩,
  ⟨(some 12),(.len .slice (.t 11)),none⟩,
  ⟨(some 13),(.bin .gtr (.t 12) (.k (.int .i64 0))),none⟩,
  ⟨(some 14),(.mv (.t 13)),none⟩,
  ⟨(some 15),(.mv (.t 6)),(some (14,true))⟩,
  ⟨(some 16),(.len .slice (.t 15)),(some (14,true))⟩,
  ⟨(some 17),(.bin .lss (.t 16) (.k (.int .i64 200))),(some (14,true))⟩,
  ⟨(some 18),(.pick (.t 14) (.t 17) (.k (.bool false))),none⟩])
 (.cond (.t 18) .skip
 (.exit 0)))
 (.block 1 (.seq (.reg [
  ⟨(some 7),(.zbox (.agg [(.int .i64 0),(.int .i64 0),(.int .i64 0),(.int .i64 0),(.int .i64 0),(.str []),(.str [])])),none⟩])
 (.seq (.reg [
  ⟨(some 19),(.ld1 (.t 3)),none⟩,
  ⟨(some 20),(.callV (.t 19) []),none⟩,
  ⟨(some 21),(.bin .rem (.t 20) (.k (.int .i64 20))),none⟩,
  ⟨(some 22),(.bin .add (.t 21) (.k (.int .i64 1))),none⟩,
  ⟨(some 23),(.off (.t 7) 0),none⟩,
  ⟨none,(.st 1 (.t 23) (.t 22)),none⟩])
 (.seq (.reg [
  ⟨(some 24),(.ld1 (.t 3)),none⟩,
  ⟨(some 25),(.callV (.t 24) []),none⟩,
  ⟨(some 26),(.bin .rem (.t 25) (.k (.int .i64 40))),none⟩,
  ⟨(some 27),(.bin .add (.t 26) (.k (.int .i64 (-4)))),none⟩,
  ⟨(some 28),(.off (.t 7) 1),none⟩,
  ⟨none,(.st 1 (.t 28) (.t 27)),none⟩])
 (.seq (.reg [
  ⟨(some 29),(.ld1 (.t 3)),none⟩,
  ⟨(some 30),(.callV (.t 29) []),none⟩,
  ⟨(some 31),(.bin .rem (.t 30) (.k (.int .i64 64))),none⟩,
  ⟨(some 32),(.off (.t 7) 2),none⟩,
  ⟨none,(.st 1 (.t 32) (.t 31)),none⟩])
 (.seq (.reg [
  ⟨(some 33),(.mv (.t 4)),none⟩,
  ⟨(some 34),(.callV (.t 33) []),none⟩,
  ⟨(some 35),(.off (.t 7) 3),none⟩,
  ⟨none,(.st 1 (.t 35) (.t 34)),none⟩])
 (.seq (.reg [
  ⟨(some 36),(.mv (.t 4)),none⟩,
  ⟨(some 37),(.callV (.t 36) []),none⟩,
  ⟨(some 38),(.off (.t 7) 4),none⟩,
  ⟨none,(.st 1 (.t 38) (.t 37)),none⟩])
 (.seq (.reg [
  ⟨(some 39),(.mv (.t 5)),none⟩,
  ⟨(some 40),(.callV (.t 39) []),none⟩,
  ⟨(some 41),(.off (.t 7) 5),none⟩,
  ⟨none,(.st 1 (.t 41) (.t 40)),none⟩])
 (.seq (.reg [
  ⟨(some 42),(.mv (.t 5)),none⟩,
  ⟨(some 43),(.callV (.t 42) []),none⟩,
  ⟨(some 44),(.off (.t 7) 6),none⟩,
  ⟨none,(.st 1 (.t 44) (.t 43)),none⟩])
 (.reg [
  ⟨(some 45),(.mv (.t 6)),none⟩,
  ⟨(some 46),(.ldn 7 (.t 7)),none⟩,
  ⟨(some 47),(.bldS 7 1 [(.int .i64 0),(.int .i64 0),(.int .i64 0),(.int .i64 0),(.int .i64 0),(.str []),(.str [])] [(0,(.t 46))]),none⟩,
  ⟨(some 48),(.app 7 72 (.t 45) (.t 47)),none⟩,
  ⟨(some 6),(.mv (.t 48)),none⟩])))))))))))
def callDecodeC1 (cCallDecode1 cCallDecode2 cCallDecode3:FuncId):LC:=.block 0 (callDecodeC0 cCallDecode1 cCallDecode2 cCallDecode3)
def callDecodeC2 (cCallDecode1 cCallDecode2 cCallDecode3:FuncId):LC:=.seq (callDecodeC1 cCallDecode1 cCallDecode2 cCallDecode3) (.seq (.reg [
  ⟨(some 49),(.mv (.t 6)),none⟩,
  ⟨(some 2),(.mv (.t 49)),none⟩])
 .ret)
def callDecodeC3 (cCallDecode1 cCallDecode2 cCallDecode3:FuncId):LC:=.seq (.reg [
  ⟨(some 6),(.mv (.k .nilSlice)),none⟩]) (callDecodeC2 cCallDecode1 cCallDecode2 cCallDecode3)
def callDecodeC4 (cCallDecode1 cCallDecode2 cCallDecode3:FuncId):LC:=.seq (.reg [
  ⟨(some 10),(.mkF (.func cCallDecode3) [] [(.t 3)]),none⟩,
  ⟨(some 5),(.mv (.t 10)),none⟩]) (callDecodeC3 cCallDecode1 cCallDecode2 cCallDecode3)
def callDecodeC5 (cCallDecode1 cCallDecode2 cCallDecode3:FuncId):LC:=.seq (.reg [
  ⟨(some 9),(.mkF (.func cCallDecode2) [] [(.t 3)]),none⟩,
  ⟨(some 4),(.mv (.t 9)),none⟩]) (callDecodeC4 cCallDecode1 cCallDecode2 cCallDecode3)
def callDecodeC6 (cCallDecode1 cCallDecode2 cCallDecode3:FuncId):LC:=.seq (.reg [
  ⟨(some 8),(.mkF (.func cCallDecode1) [] [(.t 1)]),none⟩,
  ⟨(some 3),(.zbox .nilFunc),none⟩,
  ⟨none,(.st 1 (.t 3) (.t 8)),none⟩]) (callDecodeC5 cCallDecode1 cCallDecode2 cCallDecode3)
def callDecodeC7 (cCallDecode1 cCallDecode2 cCallDecode3:FuncId):LC:=.seq (.reg [
  ⟨(some 1),(.box (.t 0)),none⟩,
  ⟨(some 2),(.mv (.k .nilSlice)),none⟩]) (callDecodeC6 cCallDecode1 cCallDecode2 cCallDecode3)
def callDecodeC0S (cal:FuncId->Bool)(O:Oracle)(N:Nat)(cCallDecode1 cCallDecode2 cCallDecode3:FuncId)(gE0:IV->Heap->Option (IV×Heap)):Nat->IV->IV->IV->IV->IV->Heap->Option (IV×Heap)
 | 0,_,_,_,_,_,_=>none
 | n+1,v1,v3,v4,v5,v6,H =>
  ob (lload1 H v1) fun t1 =>
  ob (llen H .slice t1) fun t2 =>
  ob (lbin .gtr t2 (.int .i64 0)) fun t3 =>
  ob (gq (isB t3 true) (some v6)) fun t4 =>
  ob (gq (isB t3 true) (llen H .slice t4)) fun t5 =>
  ob (gq (isB t3 true) (lbin .lss t5 (.int .i64 200))) fun t6 =>
  ob (lpick t3 t6 (.bool false)) fun t7 =>
  cnd t7
  (ob (lzbox H (.agg [(.int .i64 0),(.int .i64 0),(.int .i64 0),(.int .i64 0),(.int .i64 0),(.str []),(.str [])])) fun r8 =>
  ob (lload1 r8.2 v3) fun t9 =>
  ob (lcallV cal O r8.2 t9 []) fun r10 =>
  ob (lbin .rem r10.1 (.int .i64 20)) fun t11 =>
  ob (lbin .add t11 (.int .i64 1)) fun t12 =>
  ob (loff r8.1 0) fun t13 =>
  ob (lstV r10.2 1 t13 t12) fun r14 =>
  ob (lload1 r14.2 v3) fun t15 =>
  ob (lcallV cal O r14.2 t15 []) fun r16 =>
  ob (lbin .rem r16.1 (.int .i64 40)) fun t17 =>
  ob (lbin .add t17 (.int .i64 (-4))) fun t18 =>
  ob (loff r8.1 1) fun t19 =>
  ob (lstV r16.2 1 t19 t18) fun r20 =>
  ob (lload1 r20.2 v3) fun t21 =>
  ob (lcallV cal O r20.2 t21 []) fun r22 =>
  ob (lbin .rem r22.1 (.int .i64 64)) fun t23 =>
  ob (loff r8.1 2) fun t24 =>
  ob (lstV r22.2 1 t24 t23) fun r25 =>
  ob (lcallV cal O r25.2 v4 []) fun r26 =>
  ob (loff r8.1 3) fun t27 =>
  ob (lstV r26.2 1 t27 r26.1) fun r28 =>
  ob (lcallV cal O r28.2 v4 []) fun r29 =>
  ob (loff r8.1 4) fun t30 =>
  ob (lstV r29.2 1 t30 r29.1) fun r31 =>
  ob (lcallV cal O r31.2 v5 []) fun r32 =>
  ob (loff r8.1 5) fun t33 =>
  ob (lstV r32.2 1 t33 r32.1) fun r34 =>
  ob (lcallV cal O r34.2 v5 []) fun r35 =>
  ob (loff r8.1 6) fun t36 =>
  ob (lstV r35.2 1 t36 r35.1) fun r37 =>
  ob (lloadn r37.2 7 r8.1) fun t38 =>
  ob (lbldS r37.2 7 1 [(.int .i64 0),(.int .i64 0),(.int .i64 0),(.int .i64 0),(.int .i64 0),(.str []),(.str [])] [(0,t38)]) fun r39 =>
  ob (lapp r39.2 7 72 v6 r39.1) fun r40 =>
  callDecodeC0S cal O N cCallDecode1 cCallDecode2 cCallDecode3 gE0 n v1 v3 v4 v5 r40.1 r40.2)
  (gE0 v6 H)
theorem callDecodeC0Eq (cal:FuncId->Bool)(O:Oracle)(N:Nat)(cCallDecode1 cCallDecode2 cCallDecode3:FuncId)(gE0:IV->Heap->Option (IV×Heap))(hgE0:∀E H,k (.exit 0) E H=gE0 (lk E 6) H):∀(n:Nat) (E:Sg) (H:Heap),itK (lxK cal O N (.seq (.seq (.reg [
  ⟨(some 11),(.ld1 (.t 1)),none⟩,
  ⟨(some 12),(.len .slice (.t 11)),none⟩,
  ⟨(some 13),(.bin .gtr (.t 12) (.k (.int .i64 0))),none⟩,
  ⟨(some 14),(.mv (.t 13)),none⟩,
  ⟨(some 15),(.mv (.t 6)),(some (14,true))⟩,
  ⟨(some 16),(.len .slice (.t 15)),(some (14,true))⟩,
  ⟨(some 17),(.bin .lss (.t 16) (.k (.int .i64 200))),(some (14,true))⟩,
  ⟨(some 18),(.pick (.t 14) (.t 17) (.k (.bool false))),none⟩])
 (.cond (.t 18) .skip
 (.exit 0)))
 (.block 1 (.seq (.reg [
  ⟨(some 7),(.zbox (.agg [(.int .i64 0),(.int .i64 0),(.int .i64 0),(.int .i64 0),(.int .i64 0),(.str []),(.str [])])),none⟩])
 (.seq (.reg [
  ⟨(some 19),(.ld1 (.t 3)),none⟩,
  ⟨(some 20),(.callV (.t 19) []),none⟩,
  ⟨(some 21),(.bin .rem (.t 20) (.k (.int .i64 20))),none⟩,
  ⟨(some 22),(.bin .add (.t 21) (.k (.int .i64 1))),none⟩,
  ⟨(some 23),(.off (.t 7) 0),none⟩,
  ⟨none,(.st 1 (.t 23) (.t 22)),none⟩])
 (.seq (.reg [
  ⟨(some 24),(.ld1 (.t 3)),none⟩,
  ⟨(some 25),(.callV (.t 24) []),none⟩,
  ⟨(some 26),(.bin .rem (.t 25) (.k (.int .i64 40))),none⟩,
  ⟨(some 27),(.bin .add (.t 26) (.k (.int .i64 (-4)))),none⟩,
  ⟨(some 28),(.off (.t 7) 1),none⟩,
  ⟨none,(.st 1 (.t 28) (.t 27)),none⟩])
 (.seq (.reg [
  ⟨(some 29),(.ld1 (.t 3)),none⟩,
  ⟨(some 30),(.callV (.t 29) []),none⟩,
  ⟨(some 31),(.bin .rem (.t 30) (.k (.int .i64 64))),none⟩,
  ⟨(some 32),(.off (.t 7) 2),none⟩,
  ⟨none,(.st 1 (.t 32) (.t 31)),none⟩])
 (.seq (.reg [
  ⟨(some 33),(.mv (.t 4)),none⟩,
  ⟨(some 34),(.callV (.t 33) []),none⟩,
  ⟨(some 35),(.off (.t 7) 3),none⟩,
  ⟨none,(.st 1 (.t 35) (.t 34)),none⟩])
 (.seq (.reg [
  ⟨(some 36),(.mv (.t 4)),none⟩,
  ⟨(some 37),(.callV (.t 36) []),none⟩,
  ⟨(some 38),(.off (.t 7) 4),none⟩,
  ⟨none,(.st 1 (.t 38) (.t 37)),none⟩])
 (.seq (.reg [
  ⟨(some 39),(.mv (.t 5)),none⟩,
  ⟨(some 40),(.callV (.t 39) []),none⟩,
  ⟨(some 41),(.off (.t 7) 5),none⟩,
  ⟨none,(.st 1 (.t 41) (.t 40)),none⟩])
 (.seq (.reg [
  ⟨(some 42),(.mv (.t 5)),none⟩,
  ⟨(some 43),(.callV (.t 42) []),none⟩,
  ⟨(some 44),(.off (.t 7) 6),none⟩,
  ⟨none,(.st 1 (.t 44) (.t 43)),none⟩])
 (.reg [
  ⟨(some 45),(.mv (.t 6)),none⟩,
  ⟨(some 46),(.ldn 7 (.t 7)),none⟩,
  ⟨(some 47),(.bldS 7 1 [(.int .i64 0),(.int .i64 0),(.int .i64 0),(.int .i64 0),(.int .i64 0),(.str []),(.str [])] [(0,(.t 46))]),none⟩,
  ⟨(some 48),(.app 7 72 (.t 45) (.t 47)),none⟩,
  ⟨(some 6),(.mv (.t 48)),none⟩])))))))))))) n E H k=callDecodeC0S cal O N cCallDecode1 cCallDecode2 cCallDecode3 gE0 n (lk E 1) (lk E 3) (lk E 4) (lk E 5) (lk E 6) H:=by
 have hk:k=(kE 0 (fun E H=>gE0 (lk E 6) H) k):=(kE_mk hgE0 rfl);intro n
 induction n with
 | zero=>intro E H;rfl
 | succ n ih =>
  intro E H;rw[itK_succ,seqK_mk (g:=fun E H=>callDecodeC0S cal O N cCallDecode1 cCallDecode2 cCallDecode3 gE0 n (lk E 1) (lk E 3) (lk E 4) (lk E 5) (lk E 6) H) ih,hk];kernel_rfl
def callDecodeC1S (cal:FuncId->Bool)(O:Oracle)(N:Nat)(cCallDecode1 cCallDecode2 cCallDecode3:FuncId)(gN:IV->Heap->Option (IV×Heap))(v1 v3 v4 v5 v6:IV)(H:Heap):Option (IV×Heap) :=
  callDecodeC0S cal O N cCallDecode1 cCallDecode2 cCallDecode3 (fun v6 H=>gN v6 H) N v1 v3 v4 v5 v6 H
theorem callDecodeC1Eq (cal:FuncId->Bool)(O:Oracle)(N:Nat)(cCallDecode1 cCallDecode2 cCallDecode3:FuncId)(gN:IV->Heap->Option (IV×Heap))(hgN:∀E H,k .normal E H=gN (lk E 6) H):∀(E:Sg) (H:Heap),lxK cal O N (callDecodeC1 cCallDecode1 cCallDecode2 cCallDecode3) E H k=callDecodeC1S cal O N cCallDecode1 cCallDecode2 cCallDecode3 gN (lk E 1) (lk E 3) (lk E 4) (lk E 5) (lk E 6) H:=by
 have hk:k=(kN (fun E H=>gN (lk E 6) H) k):=(kN_mk hgN rfl);intro E H;rw[hk];show lxK cal O N (callDecodeC0 cCallDecode1 cCallDecode2 cCallDecode3) E H (blockK 0 (kN (fun E H=>gN (lk E 6) H) k))=_;exact callDecodeC0Eq cal O N cCallDecode1 cCallDecode2 cCallDecode3 (k:=(blockK 0 (kN (fun E H=>gN (lk E 6) H) k))) (fun v6 H=>gN v6 H) (fun _ _=>rfl) N E H
def callDecodeC2S (cal:FuncId->Bool)(O:Oracle)(N:Nat)(cCallDecode1 cCallDecode2 cCallDecode3:FuncId)(v1 v3 v4 v5 v6:IV)(H:Heap):Option (IV×Heap) :=
  callDecodeC1S cal O N cCallDecode1 cCallDecode2 cCallDecode3 (fun v6 H=>some (v6,H)) v1 v3 v4 v5 v6 H
theorem callDecodeC2Eq (cal:FuncId->Bool)(O:Oracle)(N:Nat)(cCallDecode1 cCallDecode2 cCallDecode3:FuncId)(hR:∀E H,k .ret E H=resK [(.tmp 2)] [] E H):∀(E:Sg) (H:Heap),lxK cal O N (callDecodeC2 cCallDecode1 cCallDecode2 cCallDecode3) E H k=callDecodeC2S cal O N cCallDecode1 cCallDecode2 cCallDecode3 (lk E 1) (lk E 3) (lk E 4) (lk E 5) (lk E 6) H:=by
 have hk:k=(kR (resK [(.tmp 2)] []) k):=(kR_mk hR rfl);intro E H;rw[hk];show lxK cal O N (callDecodeC1 cCallDecode1 cCallDecode2 cCallDecode3) E H (seqK (lxK cal O N (.seq (.reg [
  ⟨(some 49),(.mv (.t 6)),none⟩,
  ⟨(some 2),(.mv (.t 49)),none⟩])
 .ret)) (kR (resK [(.tmp 2)] []) k))=_
 exact callDecodeC1Eq cal O N cCallDecode1 cCallDecode2 cCallDecode3 (k:=(seqK (lxK cal O N (.seq (.reg [
  ⟨(some 49),(.mv (.t 6)),none⟩,
  ⟨(some 2),(.mv (.t 49)),none⟩])
 .ret)) (kR (resK [(.tmp 2)] []) k))) (fun v6 H=>some (v6,H)) (fun _ _=>rfl) E H
def callDecodeC3S (cal:FuncId->Bool)(O:Oracle)(N:Nat)(cCallDecode1 cCallDecode2 cCallDecode3:FuncId)(v1 v3 v4 v5:IV)(H:Heap):Option (IV×Heap) :=
  callDecodeC2S cal O N cCallDecode1 cCallDecode2 cCallDecode3 v1 v3 v4 v5 .nilSlice H
theorem callDecodeC3Eq (cal:FuncId->Bool)(O:Oracle)(N:Nat)(cCallDecode1 cCallDecode2 cCallDecode3:FuncId)(hR:∀E H,k .ret E H=resK [(.tmp 2)] [] E H):∀(E:Sg) (H:Heap),lxK cal O N (callDecodeC3 cCallDecode1 cCallDecode2 cCallDecode3) E H k=callDecodeC3S cal O N cCallDecode1 cCallDecode2 cCallDecode3 (lk E 1) (lk E 3) (lk E 4) (lk E 5) H:=by
 have hk:k=(kR (resK [(.tmp 2)] []) k):=(kR_mk hR rfl);intro E H;rw[hk];show lxK cal O N (.reg [
  ⟨(some 6),(.mv (.k .nilSlice)),none⟩]) E H (seqK (lxK cal O N (callDecodeC2 cCallDecode1 cCallDecode2 cCallDecode3)) (kR (resK [(.tmp 2)] []) k))=_
 rw[seqK_mk (g:=fun E H=>callDecodeC2S cal O N cCallDecode1 cCallDecode2 cCallDecode3 (lk E 1) (lk E 3) (lk E 4) (lk E 5) (lk E 6) H) (callDecodeC2Eq cal O N cCallDecode1 cCallDecode2 cCallDecode3 (k:=(kR (resK [(.tmp 2)] []) k)) (fun _ _=>rfl))];kernel_rfl
def callDecodeC4S (cal:FuncId->Bool)(O:Oracle)(N:Nat)(cCallDecode1 cCallDecode2 cCallDecode3:FuncId)(v1 v3 v4:IV)(H:Heap):Option (IV×Heap) :=
  ob (some (.func (.func cCallDecode3) [] [v3])) fun t1 =>
  callDecodeC3S cal O N cCallDecode1 cCallDecode2 cCallDecode3 v1 v3 v4 t1 H
theorem callDecodeC4Eq (cal:FuncId->Bool)(O:Oracle)(N:Nat)(cCallDecode1 cCallDecode2 cCallDecode3:FuncId)(hR:∀E H,k .ret E H=resK [(.tmp 2)] [] E H):∀(E:Sg) (H:Heap),lxK cal O N (callDecodeC4 cCallDecode1 cCallDecode2 cCallDecode3) E H k=callDecodeC4S cal O N cCallDecode1 cCallDecode2 cCallDecode3 (lk E 1) (lk E 3) (lk E 4) H:=by
 have hk:k=(kR (resK [(.tmp 2)] []) k):=(kR_mk hR rfl);intro E H;rw[hk];show lxK cal O N (.reg [
  ⟨(some 10),(.mkF (.func cCallDecode3) [] [(.t 3)]),none⟩,
  ⟨(some 5),(.mv (.t 10)),none⟩]) E H (seqK (lxK cal O N (callDecodeC3 cCallDecode1 cCallDecode2 cCallDecode3)) (kR (resK [(.tmp 2)] []) k))=_
 rw[seqK_mk (g:=fun E H=>callDecodeC3S cal O N cCallDecode1 cCallDecode2 cCallDecode3 (lk E 1) (lk E 3) (lk E 4) (lk E 5) H) (callDecodeC3Eq cal O N cCallDecode1 cCallDecode2 cCallDecode3 (k:=(kR (resK [(.tmp 2)] []) k)) (fun _ _=>rfl))];kernel_rfl
def callDecodeC5S (cal:FuncId->Bool)(O:Oracle)(N:Nat)(cCallDecode1 cCallDecode2 cCallDecode3:FuncId)(v1 v3:IV)(H:Heap):Option (IV×Heap) :=
  ob (some (.func (.func cCallDecode2) [] [v3])) fun t1 =>
  callDecodeC4S cal O N cCallDecode1 cCallDecode2 cCallDecode3 v1 v3 t1 H
theorem callDecodeC5Eq (cal:FuncId->Bool)(O:Oracle)(N:Nat)(cCallDecode1 cCallDecode2 cCallDecode3:FuncId)(hR:∀E H,k .ret E H=resK [(.tmp 2)] [] E H):∀(E:Sg) (H:Heap),lxK cal O N (callDecodeC5 cCallDecode1 cCallDecode2 cCallDecode3) E H k=callDecodeC5S cal O N cCallDecode1 cCallDecode2 cCallDecode3 (lk E 1) (lk E 3) H:=by
 have hk:k=(kR (resK [(.tmp 2)] []) k):=(kR_mk hR rfl);intro E H;rw[hk];show lxK cal O N (.reg [
  ⟨(some 9),(.mkF (.func cCallDecode2) [] [(.t 3)]),none⟩,
  ⟨(some 4),(.mv (.t 9)),none⟩]) E H (seqK (lxK cal O N (callDecodeC4 cCallDecode1 cCallDecode2 cCallDecode3)) (kR (resK [(.tmp 2)] []) k))=_
 rw[seqK_mk (g:=fun E H=>callDecodeC4S cal O N cCallDecode1 cCallDecode2 cCallDecode3 (lk E 1) (lk E 3) (lk E 4) H) (callDecodeC4Eq cal O N cCallDecode1 cCallDecode2 cCallDecode3 (k:=(kR (resK [(.tmp 2)] []) k)) (fun _ _=>rfl))];kernel_rfl
def callDecodeC6S (cal:FuncId->Bool)(O:Oracle)(N:Nat)(cCallDecode1 cCallDecode2 cCallDecode3:FuncId)(v1:IV)(H:Heap):Option (IV×Heap) :=
  ob (some (.func (.func cCallDecode1) [] [v1])) fun t1 =>
  ob (lzbox H .nilFunc) fun r2 =>
  ob (lstV r2.2 1 r2.1 t1) fun r3 =>
  callDecodeC5S cal O N cCallDecode1 cCallDecode2 cCallDecode3 v1 r2.1 r3.2
theorem callDecodeC6Eq (cal:FuncId->Bool)(O:Oracle)(N:Nat)(cCallDecode1 cCallDecode2 cCallDecode3:FuncId)(hR:∀E H,k .ret E H=resK [(.tmp 2)] [] E H):∀(E:Sg) (H:Heap),lxK cal O N (callDecodeC6 cCallDecode1 cCallDecode2 cCallDecode3) E H k=callDecodeC6S cal O N cCallDecode1 cCallDecode2 cCallDecode3 (lk E 1) H:=by
 have hk:k=(kR (resK [(.tmp 2)] []) k):=(kR_mk hR rfl);intro E H;rw[hk];show lxK cal O N (.reg [
  ⟨(some 8),(.mkF (.func cCallDecode1) [] [(.t 1)]),none⟩,
  ⟨(some 3),(.zbox .nilFunc),none⟩,
  ⟨none,(.st 1 (.t 3) (.t 8)),none⟩]) E H (seqK (lxK cal O N (callDecodeC5 cCallDecode1 cCallDecode2 cCallDecode3)) (kR (resK [(.tmp 2)] []) k))=_
 rw[seqK_mk (g:=fun E H=>callDecodeC5S cal O N cCallDecode1 cCallDecode2 cCallDecode3 (lk E 1) (lk E 3) H) (callDecodeC5Eq cal O N cCallDecode1 cCallDecode2 cCallDecode3 (k:=(kR (resK [(.tmp 2)] []) k)) (fun _ _=>rfl))];kernel_rfl
def callDecodeC7S (cal:FuncId->Bool)(O:Oracle)(N:Nat)(cCallDecode1 cCallDecode2 cCallDecode3:FuncId)(v0:IV)(H:Heap):Option (IV×Heap) :=
  ob (lbox H v0) fun r1 =>
  callDecodeC6S cal O N cCallDecode1 cCallDecode2 cCallDecode3 r1.1 r1.2
theorem callDecodeC7Eq (cal:FuncId->Bool)(O:Oracle)(N:Nat)(cCallDecode1 cCallDecode2 cCallDecode3:FuncId)(hR:∀E H,k .ret E H=resK [(.tmp 2)] [] E H):∀(E:Sg) (H:Heap),lxK cal O N (callDecodeC7 cCallDecode1 cCallDecode2 cCallDecode3) E H k=callDecodeC7S cal O N cCallDecode1 cCallDecode2 cCallDecode3 (lk E 0) H:=by
 have hk:k=(kR (resK [(.tmp 2)] []) k):=(kR_mk hR rfl);intro E H;rw[hk];show lxK cal O N (.reg [
  ⟨(some 1),(.box (.t 0)),none⟩,
  ⟨(some 2),(.mv (.k .nilSlice)),none⟩]) E H (seqK (lxK cal O N (callDecodeC6 cCallDecode1 cCallDecode2 cCallDecode3)) (kR (resK [(.tmp 2)] []) k))=_
 rw[seqK_mk (g:=fun E H=>callDecodeC6S cal O N cCallDecode1 cCallDecode2 cCallDecode3 (lk E 1) H) (callDecodeC6Eq cal O N cCallDecode1 cCallDecode2 cCallDecode3 (k:=(kR (resK [(.tmp 2)] []) k)) (fun _ _=>rfl))];kernel_rfl
def callDecode (cCallDecode1 cCallDecode2 cCallDecode3:FuncId):LFun:=⟨(callDecodeC7 cCallDecode1 cCallDecode2 cCallDecode3),[(.tmp 2)],50⟩
def callDecodeS (cal:FuncId->Bool)(O:Oracle)(N:Nat)(cCallDecode1 cCallDecode2 cCallDecode3:FuncId)(v0:IV)(H:Heap):Option (IV×Heap) :=
  callDecodeC7S cal O N cCallDecode1 cCallDecode2 cCallDecode3 v0 H
theorem callDecodeEq (cal:FuncId->Bool)(O:Oracle)(N:Nat)(cCallDecode1 cCallDecode2 cCallDecode3:FuncId)(v0:IV)(H:Heap):lrunK cal O N (callDecode cCallDecode1 cCallDecode2 cCallDecode3) [v0] H=callDecodeS cal O N cCallDecode1 cCallDecode2 cCallDecode3 v0 H:=by
 show lxK cal O N (callDecodeC7 cCallDecode1 cCallDecode2 cCallDecode3) (initFrom 0 [v0]) H (endK [(.tmp 2)])=_;exact callDecodeC7Eq cal O N cCallDecode1 cCallDecode2 cCallDecode3 (k:=(endK [(.tmp 2)])) (fun _ _=>rfl) (initFrom 0 [v0]) H
def callDecode1 :LFun:=⟨(.seq (.reg [
  ⟨(some 1),(.mv (.k (.int .i64 0))),none⟩])
 (.seq (.seq (.reg [
  ⟨(some 3),(.ld1 (.t 0)),none⟩,
  ⟨(some 4),(.len .slice (.t 3)),none⟩,
  ⟨(some 5),(.bin .eql (.t 4) (.k (.int .i64 0))),none⟩])
 (.cond (.t 5) (.seq (.reg [
  ⟨(some 1),(.mv (.k (.int .i64 0))),none⟩])
 .ret)
 .skip))
 (.seq (.reg [
  ⟨(some 6),(.ld1 (.t 0)),none⟩,
  ⟨(some 7),(.ix 1 (.t 6) (.k (.int .i64 0))),none⟩,
  ⟨(some 8),(.ld1 (.t 7)),none⟩,
  ⟨(some 2),(.mv (.t 8)),none⟩])
 (.seq (.reg [
  ⟨(some 9),(.ld1 (.t 0)),none⟩,
  ⟨(some 10),(.slc (.slice 1) (.t 9) (some (.k (.int .i64 1))) none none),none⟩,
  ⟨none,(.st 1 (.t 0) (.t 10)),none⟩])
 (.seq (.reg [
  ⟨(some 11),(.mv (.t 2)),none⟩,
  ⟨(some 12),(.cvt .i64 (.t 11)),none⟩,
  ⟨(some 1),(.mv (.t 12)),none⟩])
 .ret))))),[(.tmp 1)],13⟩
def callDecode1S (cal:FuncId->Bool)(O:Oracle)(N:Nat)(v0:IV)(H:Heap):Option (IV×Heap) :=
  ob (lload1 H v0) fun t1 =>
  ob (llen H .slice t1) fun t2 =>
  ob (lbin .eql t2 (.int .i64 0)) fun t3 =>
  cnd t3
  (some ((.int .i64 0),H))
  (ob (lload1 H v0) fun t4 =>
  ob (lix 1 t4 (.int .i64 0)) fun t5 =>
  ob (lload1 H t5) fun t6 =>
  ob (lload1 H v0) fun t7 =>
  ob (lslice H (.slice 1) t7 (some (.int .i64 1)) none none) fun t8 =>
  ob (lstV H 1 v0 t8) fun r9 =>
  ob (lcvt .i64 t6) fun t10 =>
  some (t10,r9.2))
theorem callDecode1Eq (cal:FuncId->Bool)(O:Oracle)(N:Nat)(v0:IV)(H:Heap):lrunK cal O N (callDecode1) [v0] H=callDecode1S cal O N v0 H:=by
 kernel_rfl
def callDecode2 :LFun:=⟨(.seq (.reg [
  ⟨(some 1),(.mv (.k (.int .i64 0))),none⟩])
 (.seq (.reg [
  ⟨(some 3),(.ld1 (.t 0)),none⟩,
  ⟨(some 4),(.callV (.t 3) []),none⟩,
  ⟨(some 2),(.mv (.t 4)),none⟩])
 (.seq (.reg [
  ⟨(some 5),(.mv (.t 2)),none⟩,
  ⟨(some 6),(.bin .shl (.t 5) (.k (.int .u64 8))),none⟩,
  ⟨(some 7),(.ld1 (.t 0)),none⟩,
  ⟨(some 8),(.callV (.t 7) []),none⟩,
  ⟨(some 9),(.bin .add (.t 6) (.t 8)),none⟩,
  ⟨(some 10),(.bin .add (.t 9) (.k (.int .i64 (-256)))),none⟩,
  ⟨(some 1),(.mv (.t 10)),none⟩])
 .ret))),[(.tmp 1)],11⟩
def callDecode2S (cal:FuncId->Bool)(O:Oracle)(N:Nat)(v0:IV)(H:Heap):Option (IV×Heap) :=
  ob (lload1 H v0) fun t1 =>
  ob (lcallV cal O H t1 []) fun r2 =>
  ob (lbin .shl r2.1 (.int .u64 8)) fun t3 =>
  ob (lload1 r2.2 v0) fun t4 =>
  ob (lcallV cal O r2.2 t4 []) fun r5 =>
  ob (lbin .add t3 r5.1) fun t6 =>
  ob (lbin .add t6 (.int .i64 (-256))) fun t7 =>
  some (t7,r5.2)
theorem callDecode2Eq (cal:FuncId->Bool)(O:Oracle)(N:Nat)(v0:IV)(H:Heap):lrunK cal O N (callDecode2) [v0] H=callDecode2S cal O N v0 H:=by
 kernel_rfl
def callDecode3C0 :LC:=.loop (.seq (.seq (.reg [
  ⟨(some 7),(.mv (.t 3)),none⟩,
  ⟨(some 8),(.bin .gtr (.t 7) (.k (.int .i64 0))),none⟩])
 (.cond (.t 8) .skip
 (.exit 0)))
 (.seq (.block 1 (.reg [
  ⟨(some 11),(.mv (.t 2)),none⟩,
  ⟨(some 12),(.ld1 (.t 0)),none⟩,
  ⟨(some 13),(.callV (.t 12) []),none⟩,
  ⟨(some 14),(.cvt .u8 (.t 13)),none⟩,
  ⟨(some 15),(.bldS 1 1 [(.int .u8 0)] [(0,(.t 14))]),none⟩,
  ⟨(some 16),(.app 1 1 (.t 11) (.t 15)),none⟩,
  ⟨(some 2),(.mv (.t 16)),none⟩]))
 (.reg [
  ⟨(some 9),(.mv (.t 3)),none⟩,
  ⟨(some 10),(.bin .sub (.t 9) (.k (.int .i64 1))),none⟩,
  ⟨(some 3),(.mv (.t 10)),none⟩])))
def callDecode3C1 :LC:=.block 0 callDecode3C0
def callDecode3C2 :LC:=.seq (.reg [
  ⟨(some 4),(.ld1 (.t 0)),none⟩,
  ⟨(some 5),(.callV (.t 4) []),none⟩,
  ⟨(some 6),(.bin .rem (.t 5) (.k (.int .i64 64))),none⟩,
  ⟨(some 3),(.mv (.t 6)),none⟩]) callDecode3C1
def callDecode3C3 :LC:=.seq callDecode3C2 (.seq (.reg [
  ⟨(some 17),(.mv (.t 2)),none⟩,
  ⟨(some 18),(.b2s (.t 17)),none⟩,
  ⟨(some 1),(.mv (.t 18)),none⟩])
 .ret)
def callDecode3C4 :LC:=.seq (.reg [
  ⟨(some 2),(.mv (.k .nilSlice)),none⟩]) callDecode3C3
def callDecode3C5 :LC:=.seq (.reg [
  ⟨(some 1),(.mv (.k (.str []))),none⟩]) callDecode3C4
def callDecode3C0S (cal:FuncId->Bool)(O:Oracle)(N:Nat)(gE0:IV->Heap->Option (IV×Heap)):Nat->IV->IV->IV->Heap->Option (IV×Heap)
 | 0,_,_,_,_=>none
 | n+1,v0,v2,v3,H =>
  ob (lbin .gtr v3 (.int .i64 0)) fun t1 =>
  cnd t1
  (ob (lload1 H v0) fun t2 =>
  ob (lcallV cal O H t2 []) fun r3 =>
  ob (lcvt .u8 r3.1) fun t4 =>
  ob (lbldS r3.2 1 1 [(.int .u8 0)] [(0,t4)]) fun r5 =>
  ob (lapp r5.2 1 1 v2 r5.1) fun r6 =>
  ob (lbin .sub v3 (.int .i64 1)) fun t7 =>
  callDecode3C0S cal O N gE0 n v0 r6.1 t7 r6.2)
  (gE0 v2 H)
theorem callDecode3C0Eq (cal:FuncId->Bool)(O:Oracle)(N:Nat)(gE0:IV->Heap->Option (IV×Heap))(hgE0:∀E H,k (.exit 0) E H=gE0 (lk E 2) H):∀(n:Nat) (E:Sg) (H:Heap),itK (lxK cal O N (.seq (.seq (.reg [
  ⟨(some 7),(.mv (.t 3)),none⟩,
  ⟨(some 8),(.bin .gtr (.t 7) (.k (.int .i64 0))),none⟩])
 (.cond (.t 8) .skip
 (.exit 0)))
 (.seq (.block 1 (.reg [
  ⟨(some 11),(.mv (.t 2)),none⟩,
  ⟨(some 12),(.ld1 (.t 0)),none⟩,
  ⟨(some 13),(.callV (.t 12) []),none⟩,
  ⟨(some 14),(.cvt .u8 (.t 13)),none⟩,
  ⟨(some 15),(.bldS 1 1 [(.int .u8 0)] [(0,(.t 14))]),none⟩,
  ⟨(some 16),(.app 1 1 (.t 11) (.t 15)),none⟩,
  ⟨(some 2),(.mv (.t 16)),none⟩]))
 (.reg [
  ⟨(some 9),(.mv (.t 3)),none⟩,
  ⟨(some 10),(.bin .sub (.t 9) (.k (.int .i64 1))),none⟩,
  ⟨(some 3),(.mv (.t 10)),none⟩])))) n E H k=callDecode3C0S cal O N gE0 n (lk E 0) (lk E 2) (lk E 3) H:=by
 have hk:k=(kE 0 (fun E H=>gE0 (lk E 2) H) k):=(kE_mk hgE0 rfl);intro n
 induction n with
 | zero=>intro E H;rfl
 | succ n ih =>
  intro E H;rw[itK_succ,seqK_mk (g:=fun E H=>callDecode3C0S cal O N gE0 n (lk E 0) (lk E 2) (lk E 3) H) ih,hk];kernel_rfl
def callDecode3C1S (cal:FuncId->Bool)(O:Oracle)(N:Nat)(gN:IV->Heap->Option (IV×Heap))(v0 v2 v3:IV)(H:Heap):Option (IV×Heap) :=
  callDecode3C0S cal O N (fun v2 H=>gN v2 H) N v0 v2 v3 H
theorem callDecode3C1Eq (cal:FuncId->Bool)(O:Oracle)(N:Nat)(gN:IV->Heap->Option (IV×Heap))(hgN:∀E H,k .normal E H=gN (lk E 2) H):∀(E:Sg) (H:Heap),lxK cal O N callDecode3C1 E H k=callDecode3C1S cal O N gN (lk E 0) (lk E 2) (lk E 3) H:=by
 have hk:k=(kN (fun E H=>gN (lk E 2) H) k):=(kN_mk hgN rfl);intro E H;rw[hk];show lxK cal O N callDecode3C0 E H (blockK 0 (kN (fun E H=>gN (lk E 2) H) k))=_;exact callDecode3C0Eq cal O N (k:=(blockK 0 (kN (fun E H=>gN (lk E 2) H) k))) (fun v2 H=>gN v2 H) (fun _ _=>rfl) N E H
def callDecode3C2S (cal:FuncId->Bool)(O:Oracle)(N:Nat)(gN:IV->Heap->Option (IV×Heap))(v0 v2:IV)(H:Heap):Option (IV×Heap) :=
  ob (lload1 H v0) fun t1 =>
  ob (lcallV cal O H t1 []) fun r2 =>
  ob (lbin .rem r2.1 (.int .i64 64)) fun t3 =>
  callDecode3C1S cal O N (fun v2 H=>gN v2 H) v0 v2 t3 r2.2
theorem callDecode3C2Eq (cal:FuncId->Bool)(O:Oracle)(N:Nat)(gN:IV->Heap->Option (IV×Heap))(hgN:∀E H,k .normal E H=gN (lk E 2) H):∀(E:Sg) (H:Heap),lxK cal O N callDecode3C2 E H k=callDecode3C2S cal O N gN (lk E 0) (lk E 2) H:=by
 have hk:k=(kN (fun E H=>gN (lk E 2) H) k):=(kN_mk hgN rfl);intro E H;rw[hk];show lxK cal O N (.reg [
  ⟨(some 4),(.ld1 (.t 0)),none⟩,
  ⟨(some 5),(.callV (.t 4) []),none⟩,
  ⟨(some 6),(.bin .rem (.t 5) (.k (.int .i64 64))),none⟩,
  ⟨(some 3),(.mv (.t 6)),none⟩]) E H (seqK (lxK cal O N callDecode3C1) (kN (fun E H=>gN (lk E 2) H) k))=_
 rw[seqK_mk (g:=fun E H=>callDecode3C1S cal O N (fun v2 H=>gN v2 H) (lk E 0) (lk E 2) (lk E 3) H) (callDecode3C1Eq cal O N (k:=(kN (fun E H=>gN (lk E 2) H) k)) (fun v2 H=>gN v2 H) (fun _ _=>rfl))];kernel_rfl
def callDecode3C3S (cal:FuncId->Bool)(O:Oracle)(N:Nat)(v0 v2:IV)(H:Heap):Option (IV×Heap) :=
  callDecode3C2S cal O N (fun v2 H=>ob (lb2s H v2) fun t1 =>
  some (t1,H)) v0 v2 H
theorem callDecode3C3Eq (cal:FuncId->Bool)(O:Oracle)(N:Nat)(hR:∀E H,k .ret E H=resK [(.tmp 1)] [] E H):∀(E:Sg) (H:Heap),lxK cal O N callDecode3C3 E H k=callDecode3C3S cal O N (lk E 0) (lk E 2) H:=by
 have hk:k=(kR (resK [(.tmp 1)] []) k):=(kR_mk hR rfl);intro E H;rw[hk];show lxK cal O N callDecode3C2 E H (seqK (lxK cal O N (.seq (.reg [
  ⟨(some 17),(.mv (.t 2)),none⟩,
  ⟨(some 18),(.b2s (.t 17)),none⟩,
  ⟨(some 1),(.mv (.t 18)),none⟩])
 .ret)) (kR (resK [(.tmp 1)] []) k))=_
 exact callDecode3C2Eq cal O N (k:=(seqK (lxK cal O N (.seq (.reg [
  ⟨(some 17),(.mv (.t 2)),none⟩,
  ⟨(some 18),(.b2s (.t 17)),none⟩,
  ⟨(some 1),(.mv (.t 18)),none⟩])
 .ret)) (kR (resK [(.tmp 1)] []) k))) (fun v2 H=>ob (lb2s H v2) fun t1 =>
some (t1,H)) (fun _ _=>rfl) E H
def callDecode3C4S (cal:FuncId->Bool)(O:Oracle)(N:Nat)(v0:IV)(H:Heap):Option (IV×Heap) :=
  callDecode3C3S cal O N v0 .nilSlice H
theorem callDecode3C4Eq (cal:FuncId->Bool)(O:Oracle)(N:Nat)(hR:∀E H,k .ret E H=resK [(.tmp 1)] [] E H):∀(E:Sg) (H:Heap),lxK cal O N callDecode3C4 E H k=callDecode3C4S cal O N (lk E 0) H:=by
 have hk:k=(kR (resK [(.tmp 1)] []) k):=(kR_mk hR rfl);intro E H;rw[hk];show lxK cal O N (.reg [
  ⟨(some 2),(.mv (.k .nilSlice)),none⟩]) E H (seqK (lxK cal O N callDecode3C3) (kR (resK [(.tmp 1)] []) k))=_
 rw[seqK_mk (g:=fun E H=>callDecode3C3S cal O N (lk E 0) (lk E 2) H) (callDecode3C3Eq cal O N (k:=(kR (resK [(.tmp 1)] []) k)) (fun _ _=>rfl))];kernel_rfl
def callDecode3C5S (cal:FuncId->Bool)(O:Oracle)(N:Nat)(v0:IV)(H:Heap):Option (IV×Heap) :=
  callDecode3C4S cal O N v0 H
theorem callDecode3C5Eq (cal:FuncId->Bool)(O:Oracle)(N:Nat)(hR:∀E H,k .ret E H=resK [(.tmp 1)] [] E H):∀(E:Sg) (H:Heap),lxK cal O N callDecode3C5 E H k=callDecode3C5S cal O N (lk E 0) H:=by
 have hk:k=(kR (resK [(.tmp 1)] []) k):=(kR_mk hR rfl);intro E H;rw[hk];show lxK cal O N (.reg [
  ⟨(some 1),(.mv (.k (.str []))),none⟩]) E H (seqK (lxK cal O N callDecode3C4) (kR (resK [(.tmp 1)] []) k))=_
 rw[seqK_mk (g:=fun E H=>callDecode3C4S cal O N (lk E 0) H) (callDecode3C4Eq cal O N (k:=(kR (resK [(.tmp 1)] []) k)) (fun _ _=>rfl))];kernel_rfl
def callDecode3 :LFun:=⟨callDecode3C5,[(.tmp 1)],19⟩
def callDecode3S (cal:FuncId->Bool)(O:Oracle)(N:Nat)(v0:IV)(H:Heap):Option (IV×Heap) :=
  callDecode3C5S cal O N v0 H
theorem callDecode3Eq (cal:FuncId->Bool)(O:Oracle)(N:Nat)(v0:IV)(H:Heap):lrunK cal O N (callDecode3) [v0] H=callDecode3S cal O N v0 H:=by
 show lxK cal O N callDecode3C5 (initFrom 0 [v0]) H (endK [(.tmp 1)])=_;exact callDecode3C5Eq cal O N (k:=(endK [(.tmp 1)])) (fun _ _=>rfl) (initFrom 0 [v0]) H
def vr08At :LFun:=⟨(.seq (.reg [
  ⟨(some 4),(.mv (.k (.int .i64 0))),none⟩])
 (.seq (.seq (.reg [
  ⟨(some 5),(.mv (.t 1)),none⟩,
  ⟨(some 6),(.mv (.t 0)),none⟩,
  ⟨(some 7),(.len .slice (.t 6)),none⟩,
  ⟨(some 8),(.bin .lss (.t 5) (.t 7)),none⟩])
 (.cond (.t 8) (.seq (.reg [
  ⟨(some 9),(.mv (.t 0)),none⟩,
  ⟨(some 10),(.mv (.t 1)),none⟩,
  ⟨(some 11),(.ix 1 (.t 9) (.t 10)),none⟩,
  ⟨(some 12),(.ld1 (.t 11)),none⟩,
  ⟨(some 13),(.cvt .i64 (.t 12)),none⟩,
  ⟨(some 4),(.mv (.t 13)),none⟩])
 .ret)
 .skip))
 (.seq (.reg [
  ⟨(some 4),(.mv (.k (.int .i64 0))),none⟩])
 .ret))),[(.tmp 4)],14⟩
def vr08AtS (cal:FuncId->Bool)(O:Oracle)(N:Nat)(v0 v1:IV)(H:Heap):Option (IV×Heap) :=
  ob (llen H .slice v0) fun t1 =>
  ob (lbin .lss v1 t1) fun t2 =>
  cnd t2
  (ob (lix 1 v0 v1) fun t3 =>
  ob (lload1 H t3) fun t4 =>
  ob (lcvt .i64 t4) fun t5 =>
  some (t5,H))
  (some ((.int .i64 0),H))
theorem vr08AtEq (cal:FuncId->Bool)(O:Oracle)(N:Nat)(v0 v1:IV)(H:Heap):lrunK cal O N (vr08At) [v0,v1] H=vr08AtS cal O N v0 v1 H:=by
 kernel_rfl
def vr08TextC0 (cvr08At:FuncId):LC:=.loop (.seq (.seq (.reg [
  ⟨(some 10),(.mv (.t 8)),none⟩,
  ⟨(some 11),(.mv (.t 2)),none⟩,
  ⟨(some 12),(.bin .lss (.t 10) (.t 11)),none⟩])
 (.cond (.t 12) .skip
 (.exit 0)))
 (.seq (.block 1 (.reg [
  ⟨(some 15),(.mv (.t 7)),none⟩,
  ⟨(some 16),(.mv (.t 0)),none⟩,
  ⟨(some 17),(.mv (.t 1)),none⟩,
  ⟨(some 18),(.mv (.t 8)),none⟩,
  ⟨(some 19),(.bin .add (.t 17) (.t 18)),none⟩,
  ⟨(some 20),(.callF cvr08At [(.t 16),(.t 19)]),none⟩,
  ⟨(some 21),(.cvt .u8 (.t 20)),none⟩,
  ⟨(some 22),(.bldS 1 1 [(.int .u8 0)] [(0,(.t 21))]),none⟩,
  ⟨(some 23),(.app 1 1 (.t 15) (.t 22)),none⟩,
  ⟨(some 7),(.mv (.t 23)),none⟩]))
 (.reg [
  ⟨(some 13),(.mv (.t 8)),none⟩,
  ⟨(some 14),(.bin .add (.t 13) (.k (.int .i64 1))),none⟩,
  ⟨(some 8),(.mv (.t 14)),none⟩])))
def vr08TextC1 (cvr08At:FuncId):LC:=.block 0 (vr08TextC0 cvr08At)
def vr08TextC2 (cvr08At:FuncId):LC:=.seq (.reg [
  ⟨(some 8),(.mv (.k (.int .i64 0))),none⟩]) (vr08TextC1 cvr08At)
def vr08TextC3 (cvr08At:FuncId):LC:=.seq (vr08TextC2 cvr08At) (.seq (.reg [
  ⟨(some 24),(.mv (.t 7)),none⟩,
  ⟨(some 25),(.b2s (.t 24)),none⟩,
  ⟨(some 6),(.mv (.t 25)),none⟩])
 .ret)
def vr08TextC4 (cvr08At:FuncId):LC:=.seq (.reg [
  ⟨(some 9),(.bldS 1 0 [(.int .u8 0)] []),none⟩,
  ⟨(some 7),(.mv (.t 9)),none⟩]) (vr08TextC3 cvr08At)
def vr08TextC5 (cvr08At:FuncId):LC:=.seq (.reg [
  ⟨(some 6),(.mv (.k (.str []))),none⟩]) (vr08TextC4 cvr08At)
def vr08TextC0S (cal:FuncId->Bool)(O:Oracle)(N:Nat)(cvr08At:FuncId)(gE0:IV->Heap->Option (IV×Heap)):Nat->IV->IV->IV->IV->IV->Heap->Option (IV×Heap)
 | 0,_,_,_,_,_,_=>none
 | n+1,v0,v1,v2,v7,v8,H =>
  ob (lbin .lss v8 v2) fun t1 =>
  cnd t1
  (ob (lbin .add v1 v8) fun t2 =>
  ob (O cvr08At [v0,t2] H) fun r3 =>
  ob (lcvt .u8 r3.1) fun t4 =>
  ob (lbldS r3.2 1 1 [(.int .u8 0)] [(0,t4)]) fun r5 =>
  ob (lapp r5.2 1 1 v7 r5.1) fun r6 =>
  ob (lbin .add v8 (.int .i64 1)) fun t7 =>
  vr08TextC0S cal O N cvr08At gE0 n v0 v1 v2 r6.1 t7 r6.2)
  (gE0 v7 H)
theorem vr08TextC0Eq (cal:FuncId->Bool)(O:Oracle)(N:Nat)(cvr08At:FuncId)(gE0:IV->Heap->Option (IV×Heap))(hgE0:∀E H,k (.exit 0) E H=gE0 (lk E 7) H):∀(n:Nat) (E:Sg) (H:Heap),itK (lxK cal O N (.seq (.seq (.reg [
  ⟨(some 10),(.mv (.t 8)),none⟩,
  ⟨(some 11),(.mv (.t 2)),none⟩,
  ⟨(some 12),(.bin .lss (.t 10) (.t 11)),none⟩])
 (.cond (.t 12) .skip
 (.exit 0)))
 (.seq (.block 1 (.reg [
  ⟨(some 15),(.mv (.t 7)),none⟩,
  ⟨(some 16),(.mv (.t 0)),none⟩,
  ⟨(some 17),(.mv (.t 1)),none⟩,
  ⟨(some 18),(.mv (.t 8)),none⟩,
  ⟨(some 19),(.bin .add (.t 17) (.t 18)),none⟩,
  ⟨(some 20),(.callF cvr08At [(.t 16),(.t 19)]),none⟩,
  ⟨(some 21),(.cvt .u8 (.t 20)),none⟩,
  ⟨(some 22),(.bldS 1 1 [(.int .u8 0)] [(0,(.t 21))]),none⟩,
  ⟨(some 23),(.app 1 1 (.t 15) (.t 22)),none⟩,
  ⟨(some 7),(.mv (.t 23)),none⟩]))
 (.reg [
  ⟨(some 13),(.mv (.t 8)),none⟩,
  ⟨(some 14),(.bin .add (.t 13) (.k (.int .i64 1))),none⟩,
  ⟨(some 8),(.mv (.t 14)),none⟩])))) n E H k=vr08TextC0S cal O N cvr08At gE0 n (lk E 0) (lk E 1) (lk E 2) (lk E 7) (lk E 8) H:=by
 have hk:k=(kE 0 (fun E H=>gE0 (lk E 7) H) k):=(kE_mk hgE0 rfl);intro n
 induction n with
 | zero=>intro E H;rfl
 | succ n ih =>
  intro E H;rw[itK_succ,seqK_mk (g:=fun E H=>vr08TextC0S cal O N cvr08At gE0 n (lk E 0) (lk E 1) (lk E 2) (lk E 7) (lk E 8) H) ih,hk];kernel_rfl
def vr08TextC1S (cal:FuncId->Bool)(O:Oracle)(N:Nat)(cvr08At:FuncId)(gN:IV->Heap->Option (IV×Heap))(v0 v1 v2 v7 v8:IV)(H:Heap):Option (IV×Heap) :=
  vr08TextC0S cal O N cvr08At (fun v7 H=>gN v7 H) N v0 v1 v2 v7 v8 H
theorem vr08TextC1Eq (cal:FuncId->Bool)(O:Oracle)(N:Nat)(cvr08At:FuncId)(gN:IV->Heap->Option (IV×Heap))(hgN:∀E H,k .normal E H=gN (lk E 7) H):∀(E:Sg) (H:Heap),lxK cal O N (vr08TextC1 cvr08At) E H k=vr08TextC1S cal O N cvr08At gN (lk E 0) (lk E 1) (lk E 2) (lk E 7) (lk E 8) H:=by
 have hk:k=(kN (fun E H=>gN (lk E 7) H) k):=(kN_mk hgN rfl);intro E H;rw[hk];show lxK cal O N (vr08TextC0 cvr08At) E H (blockK 0 (kN (fun E H=>gN (lk E 7) H) k))=_;exact vr08TextC0Eq cal O N cvr08At (k:=(blockK 0 (kN (fun E H=>gN (lk E 7) H) k))) (fun v7 H=>gN v7 H) (fun _ _=>rfl) N E H
def vr08TextC2S (cal:FuncId->Bool)(O:Oracle)(N:Nat)(cvr08At:FuncId)(gN:IV->Heap->Option (IV×Heap))(v0 v1 v2 v7:IV)(H:Heap):Option (IV×Heap) :=
  vr08TextC1S cal O N cvr08At (fun v7 H=>gN v7 H) v0 v1 v2 v7 (.int .i64 0) H
theorem vr08TextC2Eq (cal:FuncId->Bool)(O:Oracle)(N:Nat)(cvr08At:FuncId)(gN:IV->Heap->Option (IV×Heap))(hgN:∀E H,k .normal E H=gN (lk E 7) H):∀(E:Sg) (H:Heap),lxK cal O N (vr08TextC2 cvr08At) E H k=vr08TextC2S cal O N cvr08At gN (lk E 0) (lk E 1) (lk E 2) (lk E 7) H:=by
 have hk:k=(kN (fun E H=>gN (lk E 7) H) k):=(kN_mk hgN rfl);intro E H;rw[hk];show lxK cal O N (.reg [
  ⟨(some 8),(.mv (.k (.int .i64 0))),none⟩]) E H (seqK (lxK cal O N (vr08TextC1 cvr08At)) (kN (fun E H=>gN (lk E 7) H) k))=_
 rw[seqK_mk (g:=fun E H=>vr08TextC1S cal O N cvr08At (fun v7 H=>gN v7 H) (lk E 0) (lk E 1) (lk E 2) (lk E 7) (lk E 8) H) (vr08TextC1Eq cal O N cvr08At (k:=(kN (fun E H=>gN (lk E 7) H) k)) (fun v7 H=>gN v7 H) (fun _ _=>rfl))];kernel_rfl
def vr08TextC3S (cal:FuncId->Bool)(O:Oracle)(N:Nat)(cvr08At:FuncId)(v0 v1 v2 v7:IV)(H:Heap):Option (IV×Heap) :=
  vr08TextC2S cal O N cvr08At (fun v7 H=>ob (lb2s H v7) fun t1 =>
  some (t1,H)) v0 v1 v2 v7 H
theorem vr08TextC3Eq (cal:FuncId->Bool)(O:Oracle)(N:Nat)(cvr08At:FuncId)(hR:∀E H,k .ret E H=resK [(.tmp 6)] [] E H):∀(E:Sg) (H:Heap),lxK cal O N (vr08TextC3 cvr08At) E H k=vr08TextC3S cal O N cvr08At (lk E 0) (lk E 1) (lk E 2) (lk E 7) H:=by
 have hk:k=(kR (resK [(.tmp 6)] []) k):=(kR_mk hR rfl);intro E H;rw[hk];show lxK cal O N (vr08TextC2 cvr08At) E H (seqK (lxK cal O N (.seq (.reg [
  ⟨(some 24),(.mv (.t 7)),none⟩,
  ⟨(some 25),(.b2s (.t 24)),none⟩,
  ⟨(some 6),(.mv (.t 25)),none⟩])
 .ret)) (kR (resK [(.tmp 6)] []) k))=_
 exact vr08TextC2Eq cal O N cvr08At (k:=(seqK (lxK cal O N (.seq (.reg [
  ⟨(some 24),(.mv (.t 7)),none⟩,
  ⟨(some 25),(.b2s (.t 24)),none⟩,
  ⟨(some 6),(.mv (.t 25)),none⟩])
 .ret)) (kR (resK [(.tmp 6)] []) k))) (fun v7 H=>ob (lb2s H v7) fun t1 =>
some (t1,H)) (fun _ _=>rfl) E H
def vr08TextC4S (cal:FuncId->Bool)(O:Oracle)(N:Nat)(cvr08At:FuncId)(v0 v1 v2:IV)(H:Heap):Option (IV×Heap) :=
  ob (lbldS H 1 0 [(.int .u8 0)] []) fun r1 =>
  vr08TextC3S cal O N cvr08At v0 v1 v2 r1.1 r1.2
theorem vr08TextC4Eq (cal:FuncId->Bool)(O:Oracle)(N:Nat)(cvr08At:FuncId)(hR:∀E H,k .ret E H=resK [(.tmp 6)] [] E H):∀(E:Sg) (H:Heap),lxK cal O N (vr08TextC4 cvr08At) E H k=vr08TextC4S cal O N cvr08At (lk E 0) (lk E 1) (lk E 2) H:=by
 have hk:k=(kR (resK [(.tmp 6)] []) k):=(kR_mk hR rfl);intro E H;rw[hk];show lxK cal O N (.reg [
  ⟨(some 9),(.bldS 1 0 [(.int .u8 0)] []),none⟩,
  ⟨(some 7),(.mv (.t 9)),none⟩]) E H (seqK (lxK cal O N (vr08TextC3 cvr08At)) (kR (resK [(.tmp 6)] []) k))=_
 rw[seqK_mk (g:=fun E H=>vr08TextC3S cal O N cvr08At (lk E 0) (lk E 1) (lk E 2) (lk E 7) H) (vr08TextC3Eq cal O N cvr08At (k:=(kR (resK [(.tmp 6)] []) k)) (fun _ _=>rfl))];kernel_rfl
def vr08TextC5S (cal:FuncId->Bool)(O:Oracle)(N:Nat)(cvr08At:FuncId)(v0 v1 v2:IV)(H:Heap):Option (IV×Heap) :=
  vr08TextC4S cal O N cvr08At v0 v1 v2 H
theorem vr08TextC5Eq (cal:FuncId->Bool)(O:Oracle)(N:Nat)(cvr08At:FuncId)(hR:∀E H,k .ret E H=resK [(.tmp 6)] [] E H):∀(E:Sg) (H:Heap),lxK cal O N (vr08TextC5 cvr08At) E H k=vr08TextC5S cal O N cvr08At (lk E 0) (lk E 1) (lk E 2) H:=by
 have hk:k=(kR (resK [(.tmp 6)] []) k):=(kR_mk hR rfl);intro E H;rw[hk];show lxK cal O N (.reg [
  ⟨(some 6),(.mv (.k (.str []))),none⟩]) E H (seqK (lxK cal O N (vr08TextC4 cvr08At)) (kR (resK [(.tmp 6)] []) k))=_
 rw[seqK_mk (g:=fun E H=>vr08TextC4S cal O N cvr08At (lk E 0) (lk E 1) (lk E 2) H) (vr08TextC4Eq cal O N cvr08At (k:=(kR (resK [(.tmp 6)] []) k)) (fun _ _=>rfl))];kernel_rfl
def vr08Text (cvr08At:FuncId):LFun:=⟨(vr08TextC5 cvr08At),[(.tmp 6)],26⟩
def vr08TextS (cal:FuncId->Bool)(O:Oracle)(N:Nat)(cvr08At:FuncId)(v0 v1 v2:IV)(H:Heap):Option (IV×Heap) :=
  vr08TextC5S cal O N cvr08At v0 v1 v2 H
theorem vr08TextEq (cal:FuncId->Bool)(O:Oracle)(N:Nat)(cvr08At:FuncId)(v0 v1 v2:IV)(H:Heap):lrunK cal O N (vr08Text cvr08At) [v0,v1,v2] H=vr08TextS cal O N cvr08At v0 v1 v2 H:=by
 show lxK cal O N (vr08TextC5 cvr08At) (initFrom 0 [v0,v1,v2]) H (endK [(.tmp 6)])=_;exact vr08TextC5Eq cal O N cvr08At (k:=(endK [(.tmp 6)])) (fun _ _=>rfl) (initFrom 0 [v0,v1,v2]) H
def vr08Two :LFun:=⟨(.seq (.reg [
  ⟨(some 2),(.mv (.k .nilSlice)),none⟩])
 (.seq (.reg [
  ⟨(some 3),(.mv (.t 0)),none⟩,
  ⟨(some 4),(.bin .add (.t 3) (.k (.int .i64 256))),none⟩,
  ⟨(some 5),(.bin .quo (.t 4) (.k (.int .i64 256))),none⟩,
  ⟨(some 6),(.cvt .u8 (.t 5)),none⟩,
  ⟨(some 7),(.mv (.t 0)),none⟩,
  ⟨(some 8),(.bin .add (.t 7) (.k (.int .i64 256))),none⟩,
  ⟨(some 9),(.bin .rem (.t 8) (.k (.int .i64 256))),none⟩,
  ⟨(some 10),(.cvt .u8 (.t 9)),none⟩,
  ⟨(some 11),(.bldS 1 2 [(.int .u8 0)] [(0,(.t 6)),(1,(.t 10))]),none⟩,
  ⟨(some 2),(.mv (.t 11)),none⟩])
 .ret)),[(.tmp 2)],12⟩
def vr08TwoS (cal:FuncId->Bool)(O:Oracle)(N:Nat)(v0:IV)(H:Heap):Option (IV×Heap) :=
  ob (lbin .add v0 (.int .i64 256)) fun t1 =>
  ob (lbin .quo t1 (.int .i64 256)) fun t2 =>
  ob (lcvt .u8 t2) fun t3 =>
  ob (lbin .add v0 (.int .i64 256)) fun t4 =>
  ob (lbin .rem t4 (.int .i64 256)) fun t5 =>
  ob (lcvt .u8 t5) fun t6 =>
  ob (lbldS H 1 2 [(.int .u8 0)] [(0,t3),(1,t6)]) fun r7 =>
  some (r7.1,r7.2)
theorem vr08TwoEq (cal:FuncId->Bool)(O:Oracle)(N:Nat)(v0:IV)(H:Heap):lrunK cal O N (vr08Two) [v0] H=vr08TwoS cal O N v0 H:=by
 kernel_rfl
def vr08May :LFun:=⟨(.seq (.reg [
  ⟨(some 1),(.box (.t 0)),none⟩,
  ⟨(some 2),(.mv (.k (.bool false))),none⟩])
 (.seq (.seq (.reg [
  ⟨(some 3),(.off (.t 1) 0),none⟩,
  ⟨(some 4),(.ld1 (.t 3)),none⟩,
  ⟨(some 5),(.bin .lss (.t 4) (.k (.int .i64 1))),none⟩,
  ⟨(some 6),(.mv (.t 5)),none⟩,
  ⟨(some 7),(.off (.t 1) 0),(some (6,false))⟩,
  ⟨(some 8),(.ld1 (.t 7)),(some (6,false))⟩,
  ⟨(some 9),(.bin .gtr (.t 8) (.k (.int .i64 20))),(some (6,false))⟩,
  ⟨(some 10),(.pick (.t 6) (.k (.bool true)) (.t 9)),none⟩,
  ⟨(some 11),(.mv (.t 10)),none⟩,
  ⟨(some 12),(.off (.t 1) 1),(some (11,false))⟩,
  ⟨(some 13),(.ld1 (.t 12)),(some (11,false))⟩,
  ⟨(some 14),(.bin .lss (.t 13) (.k (.int .i64 (-4)))),(some (11,false))⟩,
  ⟨(some 15),(.pick (.t 11) (.k (.bool true)) (.t 14)),none⟩,
  ⟨(some 16),(.mv (.t 15)),none⟩,
  ⟨(some 17),(.off (.t 1) 1),(some (16,false))⟩,
  ⟨(some 18),(.ld1 (.t 17)),(some (16,false))⟩,
  ⟨(some 19),(.bin .gtr (.t 18) (.k (.int .i64 35))),(some (16,false))⟩,
  ⟨(some 20),(.pick (.t 16) (.k (.bool true)) (.t 19)),none⟩,
  ⟨(some 21),(.mv (.t 20)),none⟩,
  ⟨(some 22),(.off (.t 1) 2),(some (21,false))⟩,
  ⟨(some 23),(.ld1 (.t 22)),(some (21,false))⟩,
  ⟨(some 24),(.bin .lss (.t 23) (.k (.int .i64 0))),(some (21,false))⟩,
  ⟨(some 25),(.pick (.t 21) (.k (.bool true)) (.t 24)),none⟩,
  ⟨(some 26),(.mv (.t 25)),none⟩,
  ⟨(some 27),(.off (.t 1) 2),(some (26,false))⟩,
  ⟨(some 28),(.ld1 (.t 27)),(some (26,false))⟩,
  ⟨(some 29),(.bin .gtr (.t 28) (.k (.int .i64 63))),(some (26,false))⟩,
  ⟨(some 30),(.pick (.t 26) (.k (.bool true)) (.t 29)),none⟩])
 (.cond (.t 30) (.seq (.reg [
  ⟨(some 2),(.mv (.k (.bool false))),none⟩])
 .ret)
 .skip))
 (.seq (.reg [
  ⟨(some 31),(.off (.t 1) 3),none⟩,
  ⟨(some 32),(.ld1 (.t 31)),none⟩,
  ⟨(some 33),(.bin .geq (.t 32) (.k (.int .i64 (-256)))),none⟩,
  ⟨(some 34),(.mv (.t 33)),none⟩,
  ⟨(some 35),(.off (.t 1) 3),(some (34,true))⟩,
  ⟨(some 36),(.ld1 (.t 35)),(some (34,true))⟩,
  ⟨(some 37),(.bin .leq (.t 36) (.k (.int .i64 65279))),(some (34,true))⟩,
  ⟨(some 38),(.pick (.t 34) (.t 37) (.k (.bool false))),none⟩,
  ⟨(some 39),(.mv (.t 38)),none⟩,
  ⟨(some 40),(.off (.t 1) 4),(some (39,true))⟩,
  ⟨(some 41),(.ld1 (.t 40)),(some (39,true))⟩,
  ⟨(some 42),(.bin .geq (.t 41) (.k (.int .i64 (-256)))),(some (39,true))⟩,
  ⟨(some 43),(.pick (.t 39) (.t 42) (.k (.bool false))),none⟩,
  ⟨(some 44),(.mv (.t 43)),none⟩,
  ⟨(some 45),(.off (.t 1) 4),(some (44,true))⟩,
  ⟨(some 46),(.ld1 (.t 45)),(some (44,true))⟩,
  ⟨(some 47),(.bin .leq (.t 46) (.k (.int .i64 65279))),(some (44,true))⟩,
  ⟨(some 48),(.pick (.t 44) (.t 47) (.k (.bool false))),none⟩,
  ⟨(some 49),(.mv (.t 48)),none⟩,
  ⟨(some 50),(.off (.t 1) 5),(some (49,true))⟩,
  ⟨(some 51),(.ld1 (.t 50)),(some (49,true))⟩,
  ⟨(some 52),(.len .str (.t 51)),(some (49,true))⟩,
  ⟨(some 53),(.bin .leq (.t 52) (.k (.int .i64 63))),(some (49,true))⟩,
  ⟨(some 54),(.pick (.t 49) (.t 53) (.k (.bool false))),none⟩,
  ⟨(some 55),(.mv (.t 54)),none⟩,
  ⟨(some 56),(.off (.t 1) 6),(some (55,true))⟩,
  ⟨(some 57),(.ld1 (.t 56)),(some (55,true))⟩,
  ⟨(some 58),(.len .str (.t 57)),(some (55,true))⟩,
  ⟨(some 59),(.bin .leq (.t 58) (.k (.int .i64 63))),(some (55,true))⟩,
  ⟨(some 60),(.pick (.t 55) (.t 59) (.k (.bool false))),none⟩,
  ⟨(some 2),(.mv (.t 60)),none⟩])
 .ret))),[(.tmp 2)],61⟩
def vr08MayS (cal:FuncId->Bool)(O:Oracle)(N:Nat)(v0:IV)(H:Heap):Option (IV×Heap) :=
  ob (lbox H v0) fun r1 =>
  ob (loff r1.1 0) fun t2 =>
  ob (lload1 r1.2 t2) fun t3 =>
  ob (lbin .lss t3 (.int .i64 1)) fun t4 =>
  ob (gq (isB t4 false) (loff r1.1 0)) fun t5 =>
  ob (gq (isB t4 false) (lload1 r1.2 t5)) fun t6 =>
  ob (gq (isB t4 false) (lbin .gtr t6 (.int .i64 20))) fun t7 =>
  ob (lpick t4 (.bool true) t7) fun t8 =>
  ob (gq (isB t8 false) (loff r1.1 1)) fun t9 =>
  ob (gq (isB t8 false) (lload1 r1.2 t9)) fun t10 =>
  ob (gq (isB t8 false) (lbin .lss t10 (.int .i64 (-4)))) fun t11 =>
  ob (lpick t8 (.bool true) t11) fun t12 =>
  ob (gq (isB t12 false) (loff r1.1 1)) fun t13 =>
  ob (gq (isB t12 false) (lload1 r1.2 t13)) fun t14 =>
  ob (gq (isB t12 false) (lbin .gtr t14 (.int .i64 35))) fun t15 =>
  ob (lpick t12 (.bool true) t15) fun t16 =>
  ob (gq (isB t16 false) (loff r1.1 2)) fun t17 =>
  ob (gq (isB t16 false) (lload1 r1.2 t17)) fun t18 =>
  ob (gq (isB t16 false) (lbin .lss t18 (.int .i64 0))) fun t19 =>
  ob (lpick t16 (.bool true) t19) fun t20 =>
  ob (gq (isB t20 false) (loff r1.1 2)) fun t21 =>
  ob (gq (isB t20 false) (lload1 r1.2 t21)) fun t22 =>
  ob (gq (isB t20 false) (lbin .gtr t22 (.int .i64 63))) fun t23 =>
  ob (lpick t20 (.bool true) t23) fun t24 =>
  cnd t24
  (some ((.bool false),r1.2))
  (ob (loff r1.1 3) fun t25 =>
  ob (lload1 r1.2 t25) fun t26 =>
  ob (lbin .geq t26 (.int .i64 (-256))) fun t27 =>
  ob (gq (isB t27 true) (loff r1.1 3)) fun t28 =>
  ob (gq (isB t27 true) (lload1 r1.2 t28)) fun t29 =>
  ob (gq (isB t27 true) (lbin .leq t29 (.int .i64 65279))) fun t30 =>
  ob (lpick t27 t30 (.bool false)) fun t31 =>
  ob (gq (isB t31 true) (loff r1.1 4)) fun t32 =>
  ob (gq (isB t31 true) (lload1 r1.2 t32)) fun t33 =>
  ob (gq (isB t31 true) (lbin .geq t33 (.int .i64 (-256)))) fun t34 =>
  ob (lpick t31 t34 (.bool false)) fun t35 =>
  ob (gq (isB t35 true) (loff r1.1 4)) fun t36 =>
  ob (gq (isB t35 true) (lload1 r1.2 t36)) fun t37 =>
  ob (gq (isB t35 true) (lbin .leq t37 (.int .i64 65279))) fun t38 =>
  ob (lpick t35 t38 (.bool false)) fun t39 =>
  ob (gq (isB t39 true) (loff r1.1 5)) fun t40 =>
  ob (gq (isB t39 true) (lload1 r1.2 t40)) fun t41 =>
  ob (gq (isB t39 true) (llen r1.2 .str t41)) fun t42 =>
  ob (gq (isB t39 true) (lbin .leq t42 (.int .i64 63))) fun t43 =>
  ob (lpick t39 t43 (.bool false)) fun t44 =>
  ob (gq (isB t44 true) (loff r1.1 6)) fun t45 =>
  ob (gq (isB t44 true) (lload1 r1.2 t45)) fun t46 =>
  ob (gq (isB t44 true) (llen r1.2 .str t46)) fun t47 =>
  ob (gq (isB t44 true) (lbin .leq t47 (.int .i64 63))) fun t48 =>
  ob (lpick t44 t48 (.bool false)) fun t49 =>
  some (t49,r1.2))
theorem vr08MayEq (cal:FuncId->Bool)(O:Oracle)(N:Nat)(v0:IV)(H:Heap):lrunK cal O N (vr08May) [v0] H=vr08MayS cal O N v0 H:=by
 kernel_rfl
def vr08Encode (cvr08May cvr08Two:FuncId):LFun:=⟨(.seq (.reg [
  ⟨(some 1),(.box (.t 0)),none⟩,
  ⟨(some 2),(.mv (.k .nilSlice)),none⟩,
  ⟨(some 3),(.mv (.k (.int .i64 0))),none⟩])
 (.seq (.seq (.reg [
  ⟨(some 5),(.ldn 7 (.t 1)),none⟩,
  ⟨(some 6),(.callF cvr08May [(.t 5)]),none⟩,
  ⟨(some 7),(.un .not (.t 6)),none⟩])
 (.cond (.t 7) (.seq (.reg [
  ⟨(some 2),(.mv (.k .nilSlice)),none⟩,
  ⟨(some 3),(.mv (.k (.int .i64 22))),none⟩])
 .ret)
 .skip))
 (.seq (.reg [
  ⟨(some 8),(.off (.t 1) 0),none⟩,
  ⟨(some 9),(.ld1 (.t 8)),none⟩,
  ⟨(some 10),(.bin .sub (.t 9) (.k (.int .i64 1))),none⟩,
  ⟨(some 11),(.cvt .u8 (.t 10)),none⟩,
  ⟨(some 12),(.off (.t 1) 1),none⟩,
  ⟨(some 13),(.ld1 (.t 12)),none⟩,
  ⟨(some 14),(.bin .add (.t 13) (.k (.int .i64 4))),none⟩,
  ⟨(some 15),(.cvt .u8 (.t 14)),none⟩,
  ⟨(some 16),(.off (.t 1) 2),none⟩,
  ⟨(some 17),(.ld1 (.t 16)),none⟩,
  ⟨(some 18),(.cvt .u8 (.t 17)),none⟩,
  ⟨(some 19),(.bldS 1 3 [(.int .u8 0)] [(0,(.t 11)),(1,(.t 15)),(2,(.t 18))]),none⟩,
  ⟨(some 4),(.mv (.t 19)),none⟩])
 (.seq (.reg [
  ⟨(some 20),(.mv (.t 4)),none⟩,
  ⟨(some 21),(.off (.t 1) 3),none⟩,
  ⟨(some 22),(.ld1 (.t 21)),none⟩,
  ⟨(some 23),(.callF cvr08Two [(.t 22)]),none⟩,
  ⟨(some 24),(.app 1 1 (.t 20) (.t 23)),none⟩,
  ⟨(some 4),(.mv (.t 24)),none⟩])
 (.seq (.reg [
  ⟨(some 25),(.mv (.t 4)),none⟩,
  ⟨(some 26),(.off (.t 1) 4),none⟩,
  ⟨(some 27),(.ld1 (.t 26)),none⟩,
  ⟨(some 28),(.callF cvr08Two [(.t 27)]),none⟩,
  ⟨(some 29),(.app 1 1 (.t 25) (.t 28)),none⟩,
  ⟨(some 4),(.mv (.t 29)),none⟩])
 (.seq (.reg [
  ⟨(some 30),(.mv (.t 4)),none⟩,
  ⟨(some 31),(.off (.t 1) 5),none⟩,
  ⟨(some 32),(.ld1 (.t 31)),none⟩,
  ⟨(some 33),(.len .str (.t 32)),none⟩,
  ⟨(some 34),(.cvt .u8 (.t 33)),none⟩,
  ⟨(some 35),(.bldS 1 1 [(.int .u8 0)] [(0,(.t 34))]),none⟩,
  ⟨(some 36),(.app 1 1 (.t 30) (.t 35)),none⟩,
  ⟨(some 4),(.mv (.t 36)),none⟩])
 (.seq (.reg [
  ⟨(some 37),(.mv (.t 4)),none⟩,
  ⟨(some 38),(.off (.t 1) 5),none⟩,
  ⟨(some 39),(.ld1 (.t 38)),none⟩,
  ⟨(some 40),(.app 1 1 (.t 37) (.t 39)),none⟩,
  ⟨(some 4),(.mv (.t 40)),none⟩])
 (.seq (.reg [
  ⟨(some 41),(.mv (.t 4)),none⟩,
  ⟨(some 42),(.off (.t 1) 6),none⟩,
  ⟨(some 43),(.ld1 (.t 42)),none⟩,
  ⟨(some 44),(.len .str (.t 43)),none⟩,
  ⟨(some 45),(.cvt .u8 (.t 44)),none⟩,
  ⟨(some 46),(.bldS 1 1 [(.int .u8 0)] [(0,(.t 45))]),none⟩,
  ⟨(some 47),(.app 1 1 (.t 41) (.t 46)),none⟩,
  ⟨(some 4),(.mv (.t 47)),none⟩])
 (.seq (.reg [
  ⟨(some 48),(.mv (.t 4)),none⟩,
  ⟨(some 49),(.off (.t 1) 6),none⟩,
  ⟨(some 50),(.ld1 (.t 49)),none⟩,
  ⟨(some 51),(.app 1 1 (.t 48) (.t 50)),none⟩,
  ⟨(some 2),(.mv (.t 51)),none⟩,
  ⟨(some 3),(.mv (.k (.int .i64 0))),none⟩])
 .ret))))))))),[(.tmp 2),(.tmp 3)],52⟩
def vr08EncodeS (cal:FuncId->Bool)(O:Oracle)(N:Nat)(cvr08May cvr08Two:FuncId)(v0:IV)(H:Heap):Option (IV×Heap) :=
  ob (lbox H v0) fun r1 =>
  ob (lloadn r1.2 7 r1.1) fun t2 =>
  ob (O cvr08May [t2] r1.2) fun r3 =>
  ob (iun .not r3.1) fun t4 =>
  cnd t4
  (some ((.tuple [.nilSlice,(.int .i64 22)]),r3.2))
  (ob (loff r1.1 0) fun t5 =>
  ob (lload1 r3.2 t5) fun t6 =>
  ob (lbin .sub t6 (.int .i64 1)) fun t7 =>
  ob (lcvt .u8 t7) fun t8 =>
  ob (loff r1.1 1) fun t9 =>
  ob (lload1 r3.2 t9) fun t10 =>
  ob (lbin .add t10 (.int .i64 4)) fun t11 =>
  ob (lcvt .u8 t11) fun t12 =>
  ob (loff r1.1 2) fun t13 =>
  ob (lload1 r3.2 t13) fun t14 =>
  ob (lcvt .u8 t14) fun t15 =>
  ob (lbldS r3.2 1 3 [(.int .u8 0)] [(0,t8),(1,t12),(2,t15)]) fun r16 =>
  ob (loff r1.1 3) fun t17 =>
  ob (lload1 r16.2 t17) fun t18 =>
  ob (O cvr08Two [t18] r16.2) fun r19 =>
  ob (lapp r19.2 1 1 r16.1 r19.1) fun r20 =>
  ob (loff r1.1 4) fun t21 =>
  ob (lload1 r20.2 t21) fun t22 =>
  ob (O cvr08Two [t22] r20.2) fun r23 =>
  ob (lapp r23.2 1 1 r20.1 r23.1) fun r24 =>
  ob (loff r1.1 5) fun t25 =>
  ob (lload1 r24.2 t25) fun t26 =>
  ob (llen r24.2 .str t26) fun t27 =>
  ob (lcvt .u8 t27) fun t28 =>
  ob (lbldS r24.2 1 1 [(.int .u8 0)] [(0,t28)]) fun r29 =>
  ob (lapp r29.2 1 1 r24.1 r29.1) fun r30 =>
  ob (loff r1.1 5) fun t31 =>
  ob (lload1 r30.2 t31) fun t32 =>
  ob (lapp r30.2 1 1 r30.1 t32) fun r33 =>
  ob (loff r1.1 6) fun t34 =>
  ob (lload1 r33.2 t34) fun t35 =>
  ob (llen r33.2 .str t35) fun t36 =>
  ob (lcvt .u8 t36) fun t37 =>
  ob (lbldS r33.2 1 1 [(.int .u8 0)] [(0,t37)]) fun r38 =>
  ob (lapp r38.2 1 1 r33.1 r38.1) fun r39 =>
  ob (loff r1.1 6) fun t40 =>
  ob (lload1 r39.2 t40) fun t41 =>
  ob (lapp r39.2 1 1 r39.1 t41) fun r42 =>
  some ((.tuple [r42.1,(.int .i64 0)]),r42.2))
theorem vr08EncodeEq (cal:FuncId->Bool)(O:Oracle)(N:Nat)(cvr08May cvr08Two:FuncId)(v0:IV)(H:Heap):lrunK cal O N (vr08Encode cvr08May cvr08Two) [v0] H=vr08EncodeS cal O N cvr08May cvr08Two v0 H:=by
 kernel_rfl
def vr08DecodeC0 (cvr08At cvr08Text:FuncId):LC:=.loop (.seq (.seq (.reg [
  ⟨(some 9),(.mv (.t 4)),none⟩,
  ⟨(some 10),(.mv (.t 0)),none⟩,
  ⟨(some 11),(.len .slice (.t 10)),none⟩,
  ⟨(some 12),(.bin .lss (.t 9) (.t 11)),none⟩,
  ⟨(some 13),(.mv (.t 12)),none⟩,
  ⟨(some 14),(.mv (.t 3)),(some (13,true))⟩,
  ⟨(some 15),(.len .slice (.t 14)),(some (13,true))⟩,
  ⟨(some 16),(.bin .lss (.t 15) (.k (.int .i64 200))),(some (13,true))⟩,
  ⟨(some 17),(.pick (.t 13) (.t 16) (.k (.bool false))),none⟩])
 (.cond (.t 17) .skip
 (.exit 0)))
 (.block 1 (.seq (.reg [
  ⟨(some 18),(.mv (.t 0)),none⟩,
  ⟨(some 19),(.mv (.t 4)),none⟩,
  ⟨(some 20),(.callF cvr08At [(.t 18),(.t 19)]),none⟩,
  ⟨(some 21),(.bin .rem (.t 20) (.k (.int .i64 20))),none⟩,
  ⟨(some 22),(.bin .add (.t 21) (.k (.int .i64 1))),none⟩,
  ⟨(some 23),(.mv (.t 0)),none⟩,
  ⟨(some 24),(.mv (.t 4)),none⟩,
  ⟨(some 25),(.bin .add (.t 24) (.k (.int .i64 1))),none⟩,
  ⟨(some 26),(.callF cvr08At [(.t 23),(.t 25)]),none⟩,
  ⟨(some 27),(.bin .rem (.t 26) (.k (.int .i64 40))),none⟩,
  ⟨(some 28),(.bin .sub (.t 27) (.k (.int .i64 4))),none⟩,
  ⟨(some 29),(.mv (.t 0)),none⟩,
  ⟨(some 30),(.mv (.t 4)),none⟩,
  ⟨(some 31),(.bin .add (.t 30) (.k (.int .i64 2))),none⟩,
  ⟨(some 32),(.callF cvr08At [(.t 29),(.t 31)]),none⟩,
  ⟨(some 33),(.bin .rem (.t 32) (.k (.int .i64 64))),none⟩,
  ⟨(some 34),(.bld [(.int .i64 0),(.int .i64 0),(.int .i64 0),(.int .i64 0),(.int .i64 0),(.str []),(.str [])] [(0,(1,(.t 22))),(1,(1,(.t 28))),(2,(1,(.t 33)))]),none⟩,
  ⟨(some 5),(.zbox (.agg [(.int .i64 0),(.int .i64 0),(.int .i64 0),(.int .i64 0),(.int .i64 0),(.str []),(.str [])])),none⟩,
  ⟨none,(.st 7 (.t 5) (.t 34)),none⟩])
 (.seq (.reg [
  ⟨(some 35),(.mv (.t 0)),none⟩,
  ⟨(some 36),(.mv (.t 4)),none⟩,
  ⟨(some 37),(.bin .add (.t 36) (.k (.int .i64 3))),none⟩,
  ⟨(some 38),(.callF cvr08At [(.t 35),(.t 37)]),none⟩,
  ⟨(some 39),(.bin .mul (.t 38) (.k (.int .i64 256))),none⟩,
  ⟨(some 40),(.mv (.t 0)),none⟩,
  ⟨(some 41),(.mv (.t 4)),none⟩,
  ⟨(some 42),(.bin .add (.t 41) (.k (.int .i64 4))),none⟩,
  ⟨(some 43),(.callF cvr08At [(.t 40),(.t 42)]),none⟩,
  ⟨(some 44),(.bin .add (.t 39) (.t 43)),none⟩,
  ⟨(some 45),(.bin .sub (.t 44) (.k (.int .i64 256))),none⟩,
  ⟨(some 46),(.off (.t 5) 3),none⟩,
  ⟨none,(.st 1 (.t 46) (.t 45)),none⟩])
 (.seq (.reg [
  ⟨(some 47),(.mv (.t 0)),none⟩,
  ⟨(some 48),(.mv (.t 4)),none⟩,
  ⟨(some 49),(.bin .add (.t 48) (.k (.int .i64 5))),none⟩,
  ⟨(some 50),(.callF cvr08At [(.t 47),(.t 49)]),none⟩,
  ⟨(some 51),(.bin .mul (.t 50) (.k (.int .i64 256))),none⟩,
  ⟨(some 52),(.mv (.t 0)),none⟩,
  ⟨(some 53),(.mv (.t 4)),none⟩,
  ⟨(some 54),(.bin .add (.t 53) (.k (.int .i64 6))),none⟩,
  ⟨(some 55),(.callF cvr08At [(.t 52),(.t 54)]),none⟩,
  ⟨(some 56),(.bin .add (.t 51) (.t 55)),none⟩,
  ⟨(some 57),(.bin .sub (.t 56) (.k (.int .i64 256))),none⟩,
  ⟨(some 58),(.off (.t 5) 4),none⟩,
  ⟨none,(.st 1 (.t 58) (.t 57)),none⟩])
 (.seq (.reg [
  ⟨(some 59),(.mv (.t 0)),none⟩,
  ⟨(some 60),(.mv (.t 4)),none⟩,
  ⟨(some 61),(.bin .add (.t 60) (.k (.int .i64 7))),none⟩,
  ⟨(some 62),(.callF cvr08At [(.t 59),(.t 61)]),none⟩,
  ⟨(some 63),(.bin .rem (.t 62) (.k (.int .i64 64))),none⟩,
  ⟨(some 6),(.mv (.t 63)),none⟩])
 (.seq (.reg [
  ⟨(some 64),(.mv (.t 0)),none⟩,
  ⟨(some 65),(.mv (.t 4)),none⟩,
  ⟨(some 66),(.bin .add (.t 65) (.k (.int .i64 8))),none⟩,
  ⟨(some 67),(.mv (.t 6)),none⟩,
  ⟨(some 68),(.callF cvr08Text [(.t 64),(.t 66),(.t 67)]),none⟩,
  ⟨(some 69),(.off (.t 5) 5),none⟩,
  ⟨none,(.st 1 (.t 69) (.t 68)),none⟩])
 (.seq (.reg [
  ⟨(some 70),(.mv (.t 4)),none⟩,
  ⟨(some 71),(.mv (.t 6)),none⟩,
  ⟨(some 72),(.bin .add (.k (.int .i64 8)) (.t 71)),none⟩,
  ⟨(some 73),(.bin .add (.t 70) (.t 72)),none⟩,
  ⟨(some 4),(.mv (.t 73)),none⟩])
 (.seq (.reg [
  ⟨(some 74),(.mv (.t 0)),none⟩,
  ⟨(some 75),(.mv (.t 4)),none⟩,
  ⟨(some 76),(.callF cvr08At [(.t 74),(.t 75)]),none⟩,
  ⟨(some 77),(.bin .rem (.t 76) (.k (.int .i64 64))),none⟩,
  ⟨(some 7),(.mv (.t 77)),none⟩])
 (.seq (.reg [
  ⟨(some 78),(.mv (.t 0)),none⟩,
  ⟨(some 79),(.mv (.t 4)),none⟩,
  ⟨(some 80),(.bin .add (.t 79) (.k (.int .i64 1))),none⟩,
  ⟨(some 81),(.mv (.t 7)),none⟩,
  ⟨(some 82),(.callF cvr08Text [(.t 78),(.t 80),(.t 81)]),none⟩,
  ⟨(some 83),(.off (.t 5) 6),none⟩,
  ⟨none,(.st 1 (.t 83) (.t 82)),none⟩])
 (.seq (.reg [
  ⟨(some 84),(.mv (.t 4)),none⟩,
  ⟨(some 85),(.mv (.t 7)),none⟩,
  ⟨(some 86),(.bin .add (.k (.int .i64 1)) (.t 85)),none⟩,
  ⟨(some 87),(.bin .add (.t 84) (.t 86)),none⟩,
  ⟨(some 4),(.mv (.t 87)),none⟩])
 (.reg [
  ⟨(some 88),(.mv (.t 3)),none⟩,
  ⟨(some 89),(.ldn 7 (.t 5)),none⟩,
  ⟨(some 90),(.bldS 7 1 [(.int .i64 0),(.int .i64 0),(.int .i64 0),(.int .i64 0),(.int .i64 0),(.str []),(.str [])] [(0,(.t 89))]),none⟩,
  ⟨(some 91),(.app 7 72 (.t 88) (.t 90)),none⟩,
  ⟨(some 3),(.mv (.t 91)),none⟩]))))))))))))
def vr08DecodeC1 (cvr08At cvr08Text:FuncId):LC:=.block 0 (vr08DecodeC0 cvr08At cvr08Text)
def vr08DecodeC2 (cvr08At cvr08Text:FuncId):LC:=.seq (.reg [
  ⟨(some 4),(.mv (.k (.int .i64 0))),none⟩]) (vr08DecodeC1 cvr08At cvr08Text)
def vr08DecodeC3 (cvr08At cvr08Text:FuncId):LC:=.seq (vr08DecodeC2 cvr08At cvr08Text) (.seq (.reg [
  ⟨(some 92),(.mv (.t 3)),none⟩,
  ⟨(some 2),(.mv (.t 92)),none⟩])
 .ret)
def vr08DecodeC4 (cvr08At cvr08Text:FuncId):LC:=.seq (.reg [
  ⟨(some 8),(.bldS 7 0 [(.int .i64 0),(.int .i64 0),(.int .i64 0),(.int .i64 0),(.int .i64 0),(.str []),(.str [])] []),none⟩,
  ⟨(some 3),(.mv (.t 8)),none⟩]) (vr08DecodeC3 cvr08At cvr08Text)
def vr08DecodeC5 (cvr08At cvr08Text:FuncId):LC:=.seq (.reg [
  ⟨(some 2),(.mv (.k .nilSlice)),none⟩]) (vr08DecodeC4 cvr08At cvr08Text)
def vr08DecodeC0S (cal:FuncId->Bool)(O:Oracle)(N:Nat)(cvr08At cvr08Text:FuncId)(gE0:IV->Heap->Option (IV×Heap)):Nat->IV->IV->IV->Heap->Option (IV×Heap)
 | 0,_,_,_,_=>none
 | n+1,v0,v3,v4,H =>
  ob (llen H .slice v0) fun t1 =>
  ob (lbin .lss v4 t1) fun t2 =>
  ob (gq (isB t2 true) (some v3)) fun t3 =>
  ob (gq (isB t2 true) (llen H .slice t3)) fun t4 =>
  ob (gq (isB t2 true) (lbin .lss t4 (.int .i64 200))) fun t5 =>
  ob (lpick t2 t5 (.bool false)) fun t6 =>
  cnd t6
  (ob (O cvr08At [v0,v4] H) fun r7 =>
  ob (lbin .rem r7.1 (.int .i64 20)) fun t8 =>
  ob (lbin .add t8 (.int .i64 1)) fun t9 =>
  ob (lbin .add v4 (.int .i64 1)) fun t10 =>
  ob (O cvr08At [v0,t10] r7.2) fun r11 =>
  ob (lbin .rem r11.1 (.int .i64 40)) fun t12 =>
  ob (lbin .sub t12 (.int .i64 4)) fun t13 =>
  ob (lbin .add v4 (.int .i64 2)) fun t14 =>
  ob (O cvr08At [v0,t14] r11.2) fun r15 =>
  ob (lbin .rem r15.1 (.int .i64 64)) fun t16 =>
  ob (lbld [(.int .i64 0),(.int .i64 0),(.int .i64 0),(.int .i64 0),(.int .i64 0),(.str []),(.str [])] [(0,1,t9),(1,1,t13),(2,1,t16)]) fun t17 =>
  ob (lzbox r15.2 (.agg [(.int .i64 0),(.int .i64 0),(.int .i64 0),(.int .i64 0),(.int .i64 0),(.str []),(.str [])])) fun r18 =>
  ob (lstV r18.2 7 r18.1 t17) fun r19 =>
  ob (lbin .add v4 (.int .i64 3)) fun t20 =>
  ob (O cvr08At [v0,t20] r19.2) fun r21 =>
  ob (lbin .mul r21.1 (.int .i64 256)) fun t22 =>
  ob (lbin .add v4 (.int .i64 4)) fun t23 =>
  ob (O cvr08At [v0,t23] r21.2) fun r24 =>
  ob (lbin .add t22 r24.1) fun t25 =>
  ob (lbin .sub t25 (.int .i64 256)) fun t26 =>
  ob (loff r18.1 3) fun t27 =>
  ob (lstV r24.2 1 t27 t26) fun r28 =>
  ob (lbin .add v4 (.int .i64 5)) fun t29 =>
  ob (O cvr08At [v0,t29] r28.2) fun r30 =>
  ob (lbin .mul r30.1 (.int .i64 256)) fun t31 =>
  ob (lbin .add v4 (.int .i64 6)) fun t32 =>
  ob (O cvr08At [v0,t32] r30.2) fun r33 =>
  ob (lbin .add t31 r33.1) fun t34 =>
  ob (lbin .sub t34 (.int .i64 256)) fun t35 =>
  ob (loff r18.1 4) fun t36 =>
  ob (lstV r33.2 1 t36 t35) fun r37 =>
  ob (lbin .add v4 (.int .i64 7)) fun t38 =>
  ob (O cvr08At [v0,t38] r37.2) fun r39 =>
  ob (lbin .rem r39.1 (.int .i64 64)) fun t40 =>
  ob (lbin .add v4 (.int .i64 8)) fun t41 =>
  ob (O cvr08Text [v0,t41,t40] r39.2) fun r42 =>
  ob (loff r18.1 5) fun t43 =>
  ob (lstV r42.2 1 t43 r42.1) fun r44 =>
  ob (lbin .add (.int .i64 8) t40) fun t45 =>
  ob (lbin .add v4 t45) fun t46 =>
  ob (O cvr08At [v0,t46] r44.2) fun r47 =>
  ob (lbin .rem r47.1 (.int .i64 64)) fun t48 =>
  ob (lbin .add t46 (.int .i64 1)) fun t49 =>
  ob (O cvr08Text [v0,t49,t48] r47.2) fun r50 =>
  ob (loff r18.1 6) fun t51 =>
  ob (lstV r50.2 1 t51 r50.1) fun r52 =>
  ob (lbin .add (.int .i64 1) t48) fun t53 =>
  ob (lbin .add t46 t53) fun t54 =>
  ob (lloadn r52.2 7 r18.1) fun t55 =>
  ob (lbldS r52.2 7 1 [(.int .i64 0),(.int .i64 0),(.int .i64 0),(.int .i64 0),(.int .i64 0),(.str []),(.str [])] [(0,t55)]) fun r56 =>
  ob (lapp r56.2 7 72 v3 r56.1) fun r57 =>
  vr08DecodeC0S cal O N cvr08At cvr08Text gE0 n v0 r57.1 t54 r57.2)
  (gE0 v3 H)
theorem vr08DecodeC0Eq (cal:FuncId->Bool)(O:Oracle)(N:Nat)(cvr08At cvr08Text:FuncId)(gE0:IV->Heap->Option (IV×Heap))(hgE0:∀E H,k (.exit 0) E H=gE0 (lk E 3) H):∀(n:Nat) (E:Sg) (H:Heap),itK (lxK cal O N (.seq (.seq (.reg [
  ⟨(some 9),(.mv (.t 4)),none⟩,
  ⟨(some 10),(.mv (.t 0)),none⟩,
  ⟨(some 11),(.len .slice (.t 10)),none⟩,
  ⟨(some 12),(.bin .lss (.t 9) (.t 11)),none⟩,
  ⟨(some 13),(.mv (.t 12)),none⟩,
  ⟨(some 14),(.mv (.t 3)),(some (13,true))⟩,
  ⟨(some 15),(.len .slice (.t 14)),(some (13,true))⟩,
  ⟨(some 16),(.bin .lss (.t 15) (.k (.int .i64 200))),(some (13,true))⟩,
  ⟨(some 17),(.pick (.t 13) (.t 16) (.k (.bool false))),none⟩])
 (.cond (.t 17) .skip
 (.exit 0)))
 (.block 1 (.seq (.reg [
  ⟨(some 18),(.mv (.t 0)),none⟩,
  ⟨(some 19),(.mv (.t 4)),none⟩,
  ⟨(some 20),(.callF cvr08At [(.t 18),(.t 19)]),none⟩,
  ⟨(some 21),(.bin .rem (.t 20) (.k (.int .i64 20))),none⟩,
  ⟨(some 22),(.bin .add (.t 21) (.k (.int .i64 1))),none⟩,
  ⟨(some 23),(.mv (.t 0)),none⟩,
  ⟨(some 24),(.mv (.t 4)),none⟩,
  ⟨(some 25),(.bin .add (.t 24) (.k (.int .i64 1))),none⟩,
  ⟨(some 26),(.callF cvr08At [(.t 23),(.t 25)]),none⟩,
  ⟨(some 27),(.bin .rem (.t 26) (.k (.int .i64 40))),none⟩,
  ⟨(some 28),(.bin .sub (.t 27) (.k (.int .i64 4))),none⟩,
  ⟨(some 29),(.mv (.t 0)),none⟩,
  ⟨(some 30),(.mv (.t 4)),none⟩,
  ⟨(some 31),(.bin .add (.t 30) (.k (.int .i64 2))),none⟩,
  ⟨(some 32),(.callF cvr08At [(.t 29),(.t 31)]),none⟩,
  ⟨(some 33),(.bin .rem (.t 32) (.k (.int .i64 64))),none⟩,
  ⟨(some 34),(.bld [(.int .i64 0),(.int .i64 0),(.int .i64 0),(.int .i64 0),(.int .i64 0),(.str []),(.str [])] [(0,(1,(.t 22))),(1,(1,(.t 28))),(2,(1,(.t 33)))]),none⟩,
  ⟨(some 5),(.zbox (.agg [(.int .i64 0),(.int .i64 0),(.int .i64 0),(.int .i64 0),(.int .i64 0),(.str []),(.str [])])),none⟩,
  ⟨none,(.st 7 (.t 5) (.t 34)),none⟩])
 (.seq (.reg [
  ⟨(some 35),(.mv (.t 0)),none⟩,
  ⟨(some 36),(.mv (.t 4)),none⟩,
  ⟨(some 37),(.bin .add (.t 36) (.k (.int .i64 3))),none⟩,
  ⟨(some 38),(.callF cvr08At [(.t 35),(.t 37)]),none⟩,
  ⟨(some 39),(.bin .mul (.t 38) (.k (.int .i64 256))),none⟩,
  ⟨(some 40),(.mv (.t 0)),none⟩,
  ⟨(some 41),(.mv (.t 4)),none⟩,
  ⟨(some 42),(.bin .add (.t 41) (.k (.int .i64 4))),none⟩,
  ⟨(some 43),(.callF cvr08At [(.t 40),(.t 42)]),none⟩,
  ⟨(some 44),(.bin .add (.t 39) (.t 43)),none⟩,
  ⟨(some 45),(.bin .sub (.t 44) (.k (.int .i64 256))),none⟩,
  ⟨(some 46),(.off (.t 5) 3),none⟩,
  ⟨none,(.st 1 (.t 46) (.t 45)),none⟩])
 (.seq (.reg [
  ⟨(some 47),(.mv (.t 0)),none⟩,
  ⟨(some 48),(.mv (.t 4)),none⟩,
  ⟨(some 49),(.bin .add (.t 48) (.k (.int .i64 5))),none⟩,
  ⟨(some 50),(.callF cvr08At [(.t 47),(.t 49)]),none⟩,
  ⟨(some 51),(.bin .mul (.t 50) (.k (.int .i64 256))),none⟩,
  ⟨(some 52),(.mv (.t 0)),none⟩,
  ⟨(some 53),(.mv (.t 4)),none⟩,
  ⟨(some 54),(.bin .add (.t 53) (.k (.int .i64 6))),none⟩,
  ⟨(some 55),(.callF cvr08At [(.t 52),(.t 54)]),none⟩,
  ⟨(some 56),(.bin .add (.t 51) (.t 55)),none⟩,
  ⟨(some 57),(.bin .sub (.t 56) (.k (.int .i64 256))),none⟩,
  ⟨(some 58),(.off (.t 5) 4),none⟩,
  ⟨none,(.st 1 (.t 58) (.t 57)),none⟩])
 (.seq (.reg [
  ⟨(some 59),(.mv (.t 0)),none⟩,
  ⟨(some 60),(.mv (.t 4)),none⟩,
  ⟨(some 61),(.bin .add (.t 60) (.k (.int .i64 7))),none⟩,
  ⟨(some 62),(.callF cvr08At [(.t 59),(.t 61)]),none⟩,
  ⟨(some 63),(.bin .rem (.t 62) (.k (.int .i64 64))),none⟩,
  ⟨(some 6),(.mv (.t 63)),none⟩])
 (.seq (.reg [
  ⟨(some 64),(.mv (.t 0)),none⟩,
  ⟨(some 65),(.mv (.t 4)),none⟩,
  ⟨(some 66),(.bin .add (.t 65) (.k (.int .i64 8))),none⟩,
  ⟨(some 67),(.mv (.t 6)),none⟩,
  ⟨(some 68),(.callF cvr08Text [(.t 64),(.t 66),(.t 67)]),none⟩,
  ⟨(some 69),(.off (.t 5) 5),none⟩,
  ⟨none,(.st 1 (.t 69) (.t 68)),none⟩])
 (.seq (.reg [
  ⟨(some 70),(.mv (.t 4)),none⟩,
  ⟨(some 71),(.mv (.t 6)),none⟩,
  ⟨(some 72),(.bin .add (.k (.int .i64 8)) (.t 71)),none⟩,
  ⟨(some 73),(.bin .add (.t 70) (.t 72)),none⟩,
  ⟨(some 4),(.mv (.t 73)),none⟩])
 (.seq (.reg [
  ⟨(some 74),(.mv (.t 0)),none⟩,
  ⟨(some 75),(.mv (.t 4)),none⟩,
  ⟨(some 76),(.callF cvr08At [(.t 74),(.t 75)]),none⟩,
  ⟨(some 77),(.bin .rem (.t 76) (.k (.int .i64 64))),none⟩,
  ⟨(some 7),(.mv (.t 77)),none⟩])
 (.seq (.reg [
  ⟨(some 78),(.mv (.t 0)),none⟩,
  ⟨(some 79),(.mv (.t 4)),none⟩,
  ⟨(some 80),(.bin .add (.t 79) (.k (.int .i64 1))),none⟩,
  ⟨(some 81),(.mv (.t 7)),none⟩,
  ⟨(some 82),(.callF cvr08Text [(.t 78),(.t 80),(.t 81)]),none⟩,
  ⟨(some 83),(.off (.t 5) 6),none⟩,
  ⟨none,(.st 1 (.t 83) (.t 82)),none⟩])
 (.seq (.reg [
  ⟨(some 84),(.mv (.t 4)),none⟩,
  ⟨(some 85),(.mv (.t 7)),none⟩,
  ⟨(some 86),(.bin .add (.k (.int .i64 1)) (.t 85)),none⟩,
  ⟨(some 87),(.bin .add (.t 84) (.t 86)),none⟩,
  ⟨(some 4),(.mv (.t 87)),none⟩])
 (.reg [
  ⟨(some 88),(.mv (.t 3)),none⟩,
  ⟨(some 89),(.ldn 7 (.t 5)),none⟩,
  ⟨(some 90),(.bldS 7 1 [(.int .i64 0),(.int .i64 0),(.int .i64 0),(.int .i64 0),(.int .i64 0),(.str []),(.str [])] [(0,(.t 89))]),none⟩,
  ⟨(some 91),(.app 7 72 (.t 88) (.t 90)),none⟩,
  ⟨(some 3),(.mv (.t 91)),none⟩]))))))))))))) n E H k=vr08DecodeC0S cal O N cvr08At cvr08Text gE0 n (lk E 0) (lk E 3) (lk E 4) H:=by
 have hk:k=(kE 0 (fun E H=>gE0 (lk E 3) H) k):=(kE_mk hgE0 rfl);intro n
 induction n with
 | zero=>intro E H;rfl
 | succ n ih =>
  intro E H;rw[itK_succ,seqK_mk (g:=fun E H=>vr08DecodeC0S cal O N cvr08At cvr08Text gE0 n (lk E 0) (lk E 3) (lk E 4) H) ih,hk];kernel_rfl
def vr08DecodeC1S (cal:FuncId->Bool)(O:Oracle)(N:Nat)(cvr08At cvr08Text:FuncId)(gN:IV->Heap->Option (IV×Heap))(v0 v3 v4:IV)(H:Heap):Option (IV×Heap) :=
  vr08DecodeC0S cal O N cvr08At cvr08Text (fun v3 H=>gN v3 H) N v0 v3 v4 H
theorem vr08DecodeC1Eq (cal:FuncId->Bool)(O:Oracle)(N:Nat)(cvr08At cvr08Text:FuncId)(gN:IV->Heap->Option (IV×Heap))(hgN:∀E H,k .normal E H=gN (lk E 3) H):∀(E:Sg) (H:Heap),lxK cal O N (vr08DecodeC1 cvr08At cvr08Text) E H k=vr08DecodeC1S cal O N cvr08At cvr08Text gN (lk E 0) (lk E 3) (lk E 4) H:=by
 have hk:k=(kN (fun E H=>gN (lk E 3) H) k):=(kN_mk hgN rfl);intro E H;rw[hk];show lxK cal O N (vr08DecodeC0 cvr08At cvr08Text) E H (blockK 0 (kN (fun E H=>gN (lk E 3) H) k))=_;exact vr08DecodeC0Eq cal O N cvr08At cvr08Text (k:=(blockK 0 (kN (fun E H=>gN (lk E 3) H) k))) (fun v3 H=>gN v3 H) (fun _ _=>rfl) N E H
def vr08DecodeC2S (cal:FuncId->Bool)(O:Oracle)(N:Nat)(cvr08At cvr08Text:FuncId)(gN:IV->Heap->Option (IV×Heap))(v0 v3:IV)(H:Heap):Option (IV×Heap) :=
  vr08DecodeC1S cal O N cvr08At cvr08Text (fun v3 H=>gN v3 H) v0 v3 (.int .i64 0) H
theorem vr08DecodeC2Eq (cal:FuncId->Bool)(O:Oracle)(N:Nat)(cvr08At cvr08Text:FuncId)(gN:IV->Heap->Option (IV×Heap))(hgN:∀E H,k .normal E H=gN (lk E 3) H):∀(E:Sg) (H:Heap),lxK cal O N (vr08DecodeC2 cvr08At cvr08Text) E H k=vr08DecodeC2S cal O N cvr08At cvr08Text gN (lk E 0) (lk E 3) H:=by
 have hk:k=(kN (fun E H=>gN (lk E 3) H) k):=(kN_mk hgN rfl);intro E H;rw[hk];show lxK cal O N (.reg [
  ⟨(some 4),(.mv (.k (.int .i64 0))),none⟩]) E H (seqK (lxK cal O N (vr08DecodeC1 cvr08At cvr08Text)) (kN (fun E H=>gN (lk E 3) H) k))=_
 rw[seqK_mk (g:=fun E H=>vr08DecodeC1S cal O N cvr08At cvr08Text (fun v3 H=>gN v3 H) (lk E 0) (lk E 3) (lk E 4) H) (vr08DecodeC1Eq cal O N cvr08At cvr08Text (k:=(kN (fun E H=>gN (lk E 3) H) k)) (fun v3 H=>gN v3 H) (fun _ _=>rfl))];kernel_rfl
def vr08DecodeC3S (cal:FuncId->Bool)(O:Oracle)(N:Nat)(cvr08At cvr08Text:FuncId)(v0 v3:IV)(H:Heap):Option (IV×Heap) :=
  vr08DecodeC2S cal O N cvr08At cvr08Text (fun v3 H=>some (v3,H)) v0 v3 H
theorem vr08DecodeC3Eq (cal:FuncId->Bool)(O:Oracle)(N:Nat)(cvr08At cvr08Text:FuncId)(hR:∀E H,k .ret E H=resK [(.tmp 2)] [] E H):∀(E:Sg) (H:Heap),lxK cal O N (vr08DecodeC3 cvr08At cvr08Text) E H k=vr08DecodeC3S cal O N cvr08At cvr08Text (lk E 0) (lk E 3) H:=by
 have hk:k=(kR (resK [(.tmp 2)] []) k):=(kR_mk hR rfl);intro E H;rw[hk];show lxK cal O N (vr08DecodeC2 cvr08At cvr08Text) E H (seqK (lxK cal O N (.seq (.reg [
  ⟨(some 92),(.mv (.t 3)),none⟩,
  ⟨(some 2),(.mv (.t 92)),none⟩])
 .ret)) (kR (resK [(.tmp 2)] []) k))=_
 exact vr08DecodeC2Eq cal O N cvr08At cvr08Text (k:=(seqK (lxK cal O N (.seq (.reg [
  ⟨(some 92),(.mv (.t 3)),none⟩,
  ⟨(some 2),(.mv (.t 92)),none⟩])
 .ret)) (kR (resK [(.tmp 2)] []) k))) (fun v3 H=>some (v3,H)) (fun _ _=>rfl) E H
def vr08DecodeC4S (cal:FuncId->Bool)(O:Oracle)(N:Nat)(cvr08At cvr08Text:FuncId)(v0:IV)(H:Heap):Option (IV×Heap) :=
  ob (lbldS H 7 0 [(.int .i64 0),(.int .i64 0),(.int .i64 0),(.int .i64 0),(.int .i64 0),(.str []),(.str [])] []) fun r1 =>
  vr08DecodeC3S cal O N cvr08At cvr08Text v0 r1.1 r1.2
theorem vr08DecodeC4Eq (cal:FuncId->Bool)(O:Oracle)(N:Nat)(cvr08At cvr08Text:FuncId)(hR:∀E H,k .ret E H=resK [(.tmp 2)] [] E H):∀(E:Sg) (H:Heap),lxK cal O N (vr08DecodeC4 cvr08At cvr08Text) E H k=vr08DecodeC4S cal O N cvr08At cvr08Text (lk E 0) H:=by
 have hk:k=(kR (resK [(.tmp 2)] []) k):=(kR_mk hR rfl);intro E H;rw[hk];show lxK cal O N (.reg [
  ⟨(some 8),(.bldS 7 0 [(.int .i64 0),(.int .i64 0),(.int .i64 0),(.int .i64 0),(.int .i64 0),(.str []),(.str [])] []),none⟩,
  ⟨(some 3),(.mv (.t 8)),none⟩]) E H (seqK (lxK cal O N (vr08DecodeC3 cvr08At cvr08Text)) (kR (resK [(.tmp 2)] []) k))=_
 rw[seqK_mk (g:=fun E H=>vr08DecodeC3S cal O N cvr08At cvr08Text (lk E 0) (lk E 3) H) (vr08DecodeC3Eq cal O N cvr08At cvr08Text (k:=(kR (resK [(.tmp 2)] []) k)) (fun _ _=>rfl))];kernel_rfl
def vr08DecodeC5S (cal:FuncId->Bool)(O:Oracle)(N:Nat)(cvr08At cvr08Text:FuncId)(v0:IV)(H:Heap):Option (IV×Heap) :=
  vr08DecodeC4S cal O N cvr08At cvr08Text v0 H
theorem vr08DecodeC5Eq (cal:FuncId->Bool)(O:Oracle)(N:Nat)(cvr08At cvr08Text:FuncId)(hR:∀E H,k .ret E H=resK [(.tmp 2)] [] E H):∀(E:Sg) (H:Heap),lxK cal O N (vr08DecodeC5 cvr08At cvr08Text) E H k=vr08DecodeC5S cal O N cvr08At cvr08Text (lk E 0) H:=by
 have hk:k=(kR (resK [(.tmp 2)] []) k):=(kR_mk hR rfl);intro E H;rw[hk];show lxK cal O N (.reg [
  ⟨(some 2),(.mv (.k .nilSlice)),none⟩]) E H (seqK (lxK cal O N (vr08DecodeC4 cvr08At cvr08Text)) (kR (resK [(.tmp 2)] []) k))=_
 rw[seqK_mk (g:=fun E H=>vr08DecodeC4S cal O N cvr08At cvr08Text (lk E 0) H) (vr08DecodeC4Eq cal O N cvr08At cvr08Text (k:=(kR (resK [(.tmp 2)] []) k)) (fun _ _=>rfl))];kernel_rfl
def vr08Decode (cvr08At cvr08Text:FuncId):LFun:=⟨(vr08DecodeC5 cvr08At cvr08Text),[(.tmp 2)],93⟩
def vr08DecodeS (cal:FuncId->Bool)(O:Oracle)(N:Nat)(cvr08At cvr08Text:FuncId)(v0:IV)(H:Heap):Option (IV×Heap) :=
  vr08DecodeC5S cal O N cvr08At cvr08Text v0 H
theorem vr08DecodeEq (cal:FuncId->Bool)(O:Oracle)(N:Nat)(cvr08At cvr08Text:FuncId)(v0:IV)(H:Heap):lrunK cal O N (vr08Decode cvr08At cvr08Text) [v0] H=vr08DecodeS cal O N cvr08At cvr08Text v0 H:=by
 show lxK cal O N (vr08DecodeC5 cvr08At cvr08Text) (initFrom 0 [v0]) H (endK [(.tmp 2)])=_;exact vr08DecodeC5Eq cal O N cvr08At cvr08Text (k:=(endK [(.tmp 2)])) (fun _ _=>rfl) (initFrom 0 [v0]) H
def vr08ScriptC0 (cvr08Encode:FuncId):LC:=.loop (.seq (.seq (.reg [
  ⟨(some 12),(.mv (.t 5)),none⟩,
  ⟨(some 13),(.mv (.t 0)),none⟩,
  ⟨(some 14),(.len .slice (.t 13)),none⟩,
  ⟨(some 15),(.bin .lss (.t 12) (.t 14)),none⟩])
 (.cond (.t 15) .skip
 (.exit 0)))
 (.seq (.block 1 (.seq (.reg [
  ⟨(some 19),(.mv (.t 0)),none⟩,
  ⟨(some 20),(.mv (.t 5)),none⟩,
  ⟨(some 21),(.ix 7 (.t 19) (.t 20)),none⟩,
  ⟨(some 22),(.ldn 7 (.t 21)),none⟩,
  ⟨(some 23),(.callF cvr08Encode [(.t 22)]),none⟩,
  ⟨(some 18),(.mv (.t 23)),none⟩,
  ⟨(some 24),(.ext (.t 18) 0),none⟩,
  ⟨(some 25),(.ext (.t 18) 1),none⟩,
  ⟨(some 6),(.mv (.t 24)),none⟩,
  ⟨(some 7),(.mv (.t 25)),none⟩])
 (.seq (.seq (.reg [
  ⟨(some 26),(.mv (.t 7)),none⟩,
  ⟨(some 27),(.bin .neq (.t 26) (.k (.int .i64 0))),none⟩])
 (.cond (.t 27) (.seq (.reg [
  ⟨(some 28),(.mv (.t 7)),none⟩,
  ⟨(some 2),(.mv (.k .nilSlice)),none⟩,
  ⟨(some 3),(.mv (.t 28)),none⟩])
 .ret)
 .skip))
 (.reg [
  ⟨(some 29),(.mv (.t 4)),none⟩,
  ⟨(some 30),(.mv (.t 6)),none⟩,
  ⟨(some 31),(.app 1 1 (.t 29) (.t 30)),none⟩,
  ⟨(some 4),(.mv (.t 31)),none⟩]))))
 (.reg [
  ⟨(some 16),(.mv (.t 5)),none⟩,
  ⟨(some 17),(.bin .add (.t 16) (.k (.int .i64 1))),none⟩,
  ⟨(some 5),(.mv (.t 17)),none⟩])))
def vr08ScriptC1 (cvr08Encode:FuncId):LC:=.block 0 (vr08ScriptC0 cvr08Encode)
def vr08ScriptC2 (cvr08Encode:FuncId):LC:=.seq (.reg [
  ⟨(some 5),(.mv (.k (.int .i64 0))),none⟩]) (vr08ScriptC1 cvr08Encode)
def vr08ScriptC3 (cvr08Encode:FuncId):LC:=.seq (vr08ScriptC2 cvr08Encode) (.seq (.reg [
  ⟨(some 32),(.mv (.t 4)),none⟩,
  ⟨(some 2),(.mv (.t 32)),none⟩,
  ⟨(some 3),(.mv (.k (.int .i64 0))),none⟩])
 .ret)
def vr08ScriptC4 (cvr08Encode:FuncId):LC:=.seq (.seq (.reg [
  ⟨(some 9),(.mv (.t 0)),none⟩,
  ⟨(some 10),(.len .slice (.t 9)),none⟩,
  ⟨(some 11),(.bin .gtr (.t 10) (.k (.int .i64 200))),none⟩])
 (.cond (.t 11) (.seq (.reg [
  ⟨(some 2),(.mv (.k .nilSlice)),none⟩,
  ⟨(some 3),(.mv (.k (.int .i64 22))),none⟩])
 .ret)
 .skip)) (vr08ScriptC3 cvr08Encode)
def vr08ScriptC5 (cvr08Encode:FuncId):LC:=.seq (.reg [
  ⟨(some 8),(.bldS 1 0 [(.int .u8 0)] []),none⟩,
  ⟨(some 4),(.mv (.t 8)),none⟩]) (vr08ScriptC4 cvr08Encode)
def vr08ScriptC6 (cvr08Encode:FuncId):LC:=.seq (.reg [
  ⟨(some 2),(.mv (.k .nilSlice)),none⟩,
  ⟨(some 3),(.mv (.k (.int .i64 0))),none⟩]) (vr08ScriptC5 cvr08Encode)
def vr08ScriptC0S (cal:FuncId->Bool)(O:Oracle)(N:Nat)(cvr08Encode:FuncId)(gE0:IV->Heap->Option (IV×Heap)):Nat->IV->IV->IV->Heap->Option (IV×Heap)
 | 0,_,_,_,_=>none
 | n+1,v0,v4,v5,H =>
  ob (llen H .slice v0) fun t1 =>
  ob (lbin .lss v5 t1) fun t2 =>
  cnd t2
  (ob (lix 7 v0 v5) fun t3 =>
  ob (lloadn H 7 t3) fun t4 =>
  ob (O cvr08Encode [t4] H) fun r5 =>
  ob (iextract r5.1 0) fun t6 =>
  ob (iextract r5.1 1) fun t7 =>
  ob (lbin .neq t7 (.int .i64 0)) fun t8 =>
  cnd t8
  (some ((.tuple [.nilSlice,t7]),r5.2))
  (ob (lapp r5.2 1 1 v4 t6) fun r9 =>
  ob (lbin .add v5 (.int .i64 1)) fun t10 =>
  vr08ScriptC0S cal O N cvr08Encode gE0 n v0 r9.1 t10 r9.2))
  (gE0 v4 H)
theorem vr08ScriptC0Eq (cal:FuncId->Bool)(O:Oracle)(N:Nat)(cvr08Encode:FuncId)(gE0:IV->Heap->Option (IV×Heap))(hgE0:∀E H,k (.exit 0) E H=gE0 (lk E 4) H)(hR:∀E H,k .ret E H=resK [(.tmp 2),(.tmp 3)] [] E H):∀(n:Nat) (E:Sg) (H:Heap),itK (lxK cal O N (.seq (.seq (.reg [
  ⟨(some 12),(.mv (.t 5)),none⟩,
  ⟨(some 13),(.mv (.t 0)),none⟩,
  ⟨(some 14),(.len .slice (.t 13)),none⟩,
  ⟨(some 15),(.bin .lss (.t 12) (.t 14)),none⟩])
 (.cond (.t 15) .skip
 (.exit 0)))
 (.seq (.block 1 (.seq (.reg [
  ⟨(some 19),(.mv (.t 0)),none⟩,
  ⟨(some 20),(.mv (.t 5)),none⟩,
  ⟨(some 21),(.ix 7 (.t 19) (.t 20)),none⟩,
  ⟨(some 22),(.ldn 7 (.t 21)),none⟩,
  ⟨(some 23),(.callF cvr08Encode [(.t 22)]),none⟩,
  ⟨(some 18),(.mv (.t 23)),none⟩,
  ⟨(some 24),(.ext (.t 18) 0),none⟩,
  ⟨(some 25),(.ext (.t 18) 1),none⟩,
  ⟨(some 6),(.mv (.t 24)),none⟩,
  ⟨(some 7),(.mv (.t 25)),none⟩])
 (.seq (.seq (.reg [
  ⟨(some 26),(.mv (.t 7)),none⟩,
  ⟨(some 27),(.bin .neq (.t 26) (.k (.int .i64 0))),none⟩])
 (.cond (.t 27) (.seq (.reg [
  ⟨(some 28),(.mv (.t 7)),none⟩,
  ⟨(some 2),(.mv (.k .nilSlice)),none⟩,
  ⟨(some 3),(.mv (.t 28)),none⟩])
 .ret)
 .skip))
 (.reg [
  ⟨(some 29),(.mv (.t 4)),none⟩,
  ⟨(some 30),(.mv (.t 6)),none⟩,
  ⟨(some 31),(.app 1 1 (.t 29) (.t 30)),none⟩,
  ⟨(some 4),(.mv (.t 31)),none⟩]))))
 (.reg [
  ⟨(some 16),(.mv (.t 5)),none⟩,
  ⟨(some 17),(.bin .add (.t 16) (.k (.int .i64 1))),none⟩,
  ⟨(some 5),(.mv (.t 17)),none⟩])))) n E H k=vr08ScriptC0S cal O N cvr08Encode gE0 n (lk E 0) (lk E 4) (lk E 5) H:=by
 have hk:k=(kE 0 (fun E H=>gE0 (lk E 4) H) (kR (resK [(.tmp 2),(.tmp 3)] []) k)):=(kE_mk hgE0 (kR_mk hR rfl));intro n
 induction n with
 | zero=>intro E H;rfl
 | succ n ih =>
  intro E H;rw[itK_succ,seqK_mk (g:=fun E H=>vr08ScriptC0S cal O N cvr08Encode gE0 n (lk E 0) (lk E 4) (lk E 5) H) ih,hk];kernel_rfl
def vr08ScriptC1S (cal:FuncId->Bool)(O:Oracle)(N:Nat)(cvr08Encode:FuncId)(gN:IV->Heap->Option (IV×Heap))(v0 v4 v5:IV)(H:Heap):Option (IV×Heap) :=
  vr08ScriptC0S cal O N cvr08Encode (fun v4 H=>gN v4 H) N v0 v4 v5 H
theorem vr08ScriptC1Eq (cal:FuncId->Bool)(O:Oracle)(N:Nat)(cvr08Encode:FuncId)(gN:IV->Heap->Option (IV×Heap))(hgN:∀E H,k .normal E H=gN (lk E 4) H)(hR:∀E H,k .ret E H=resK [(.tmp 2),(.tmp 3)] [] E H):∀(E:Sg) (H:Heap),lxK cal O N (vr08ScriptC1 cvr08Encode) E H k=vr08ScriptC1S cal O N cvr08Encode gN (lk E 0) (lk E 4) (lk E 5) H:=by
 have hk:k=(kN (fun E H=>gN (lk E 4) H) (kR (resK [(.tmp 2),(.tmp 3)] []) k)):=(kN_mk hgN (kR_mk hR rfl));intro E H;rw[hk];show lxK cal O N (vr08ScriptC0 cvr08Encode) E H (blockK 0 (kN (fun E H=>gN (lk E 4) H) (kR (resK [(.tmp 2),(.tmp 3)] []) k)))=_;exact vr08ScriptC0Eq cal O N cvr08Encode (k:=(blockK 0 (kN (fun E H=>gN (lk E 4) H) (kR (resK [(.tmp 2),(.tmp 3)] []) k)))) (fun v4 H=>gN v4 H) (fun _ _=>rfl) (fun _ _=>rfl) N E H
def vr08ScriptC2S (cal:FuncId->Bool)(O:Oracle)(N:Nat)(cvr08Encode:FuncId)(gN:IV->Heap->Option (IV×Heap))(v0 v4:IV)(H:Heap):Option (IV×Heap) :=
  vr08ScriptC1S cal O N cvr08Encode (fun v4 H=>gN v4 H) v0 v4 (.int .i64 0) H
theorem vr08ScriptC2Eq (cal:FuncId->Bool)(O:Oracle)(N:Nat)(cvr08Encode:FuncId)(gN:IV->Heap->Option (IV×Heap))(hgN:∀E H,k .normal E H=gN (lk E 4) H)(hR:∀E H,k .ret E H=resK [(.tmp 2),(.tmp 3)] [] E H):∀(E:Sg) (H:Heap),lxK cal O N (vr08ScriptC2 cvr08Encode) E H k=vr08ScriptC2S cal O N cvr08Encode gN (lk E 0) (lk E 4) H:=by
 have hk:k=(kN (fun E H=>gN (lk E 4) H) (kR (resK [(.tmp 2),(.tmp 3)] []) k)):=(kN_mk hgN (kR_mk hR rfl));intro E H;rw[hk];show lxK cal O N (.reg [
  ⟨(some 5),(.mv (.k (.int .i64 0))),none⟩]) E H (seqK (lxK cal O N (vr08ScriptC1 cvr08Encode)) (kN (fun E H=>gN (lk E 4) H) (kR (resK [(.tmp 2),(.tmp 3)] []) k)))=_
 rw[seqK_mk (g:=fun E H=>vr08ScriptC1S cal O N cvr08Encode (fun v4 H=>gN v4 H) (lk E 0) (lk E 4) (lk E 5) H) (vr08ScriptC1Eq cal O N cvr08Encode (k:=(kN (fun E H=>gN (lk E 4) H) (kR (resK [(.tmp 2),(.tmp 3)] []) k))) (fun v4 H=>gN v4 H) (fun _ _=>rfl) (fun _ _=>rfl))];kernel_rfl
def vr08ScriptC3S (cal:FuncId->Bool)(O:Oracle)(N:Nat)(cvr08Encode:FuncId)(v0 v4:IV)(H:Heap):Option (IV×Heap) :=
  vr08ScriptC2S cal O N cvr08Encode (fun v4 H=>some ((.tuple [v4,(.int .i64 0)]),H)) v0 v4 H
theorem vr08ScriptC3Eq (cal:FuncId->Bool)(O:Oracle)(N:Nat)(cvr08Encode:FuncId)(hR:∀E H,k .ret E H=resK [(.tmp 2),(.tmp 3)] [] E H):∀(E:Sg) (H:Heap),lxK cal O N (vr08ScriptC3 cvr08Encode) E H k=vr08ScriptC3S cal O N cvr08Encode (lk E 0) (lk E 4) H:=by
 have hk:k=(kR (resK [(.tmp 2),(.tmp 3)] []) k):=(kR_mk hR rfl);intro E H;rw[hk];show lxK cal O N (vr08ScriptC2 cvr08Encode) E H (seqK (lxK cal O N (.seq (.reg [
  ⟨(some 32),(.mv (.t 4)),none⟩,
  ⟨(some 2),(.mv (.t 32)),none⟩,
  ⟨(some 3),(.mv (.k (.int .i64 0))),none⟩])
 .ret)) (kR (resK [(.tmp 2),(.tmp 3)] []) k))=_
 exact vr08ScriptC2Eq cal O N cvr08Encode (k:=(seqK (lxK cal O N (.seq (.reg [
  ⟨(some 32),(.mv (.t 4)),none⟩,
  ⟨(some 2),(.mv (.t 32)),none⟩,
  ⟨(some 3),(.mv (.k (.int .i64 0))),none⟩])
 .ret)) (kR (resK [(.tmp 2),(.tmp 3)] []) k))) (fun v4 H=>some ((.tuple [v4,(.int .i64 0)]),H)) (fun _ _=>rfl) (fun _ _=>rfl) E H
def vr08ScriptC4S (cal:FuncId->Bool)(O:Oracle)(N:Nat)(cvr08Encode:FuncId)(v0 v4:IV)(H:Heap):Option (IV×Heap) :=
  ob (llen H .slice v0) fun t1 =>
  ob (lbin .gtr t1 (.int .i64 200)) fun t2 =>
  cnd t2
  (some ((.tuple [.nilSlice,(.int .i64 22)]),H))
  (vr08ScriptC3S cal O N cvr08Encode v0 v4 H)
theorem vr08ScriptC4Eq (cal:FuncId->Bool)(O:Oracle)(N:Nat)(cvr08Encode:FuncId)(hR:∀E H,k .ret E H=resK [(.tmp 2),(.tmp 3)] [] E H):∀(E:Sg) (H:Heap),lxK cal O N (vr08ScriptC4 cvr08Encode) E H k=vr08ScriptC4S cal O N cvr08Encode (lk E 0) (lk E 4) H:=by
 have hk:k=(kR (resK [(.tmp 2),(.tmp 3)] []) k):=(kR_mk hR rfl);intro E H;rw[hk];show lxK cal O N (.seq (.reg [
  ⟨(some 9),(.mv (.t 0)),none⟩,
  ⟨(some 10),(.len .slice (.t 9)),none⟩,
  ⟨(some 11),(.bin .gtr (.t 10) (.k (.int .i64 200))),none⟩])
 (.cond (.t 11) (.seq (.reg [
  ⟨(some 2),(.mv (.k .nilSlice)),none⟩,
  ⟨(some 3),(.mv (.k (.int .i64 22))),none⟩])
 .ret)
 .skip)) E H (seqK (lxK cal O N (vr08ScriptC3 cvr08Encode)) (kR (resK [(.tmp 2),(.tmp 3)] []) k))=_
 rw[seqK_mk (g:=fun E H=>vr08ScriptC3S cal O N cvr08Encode (lk E 0) (lk E 4) H) (vr08ScriptC3Eq cal O N cvr08Encode (k:=(kR (resK [(.tmp 2),(.tmp 3)] []) k)) (fun _ _=>rfl))];kernel_rfl
def vr08ScriptC5S (cal:FuncId->Bool)(O:Oracle)(N:Nat)(cvr08Encode:FuncId)(v0:IV)(H:Heap):Option (IV×Heap) :=
  ob (lbldS H 1 0 [(.int .u8 0)] []) fun r1 =>
  vr08ScriptC4S cal O N cvr08Encode v0 r1.1 r1.2
theorem vr08ScriptC5Eq (cal:FuncId->Bool)(O:Oracle)(N:Nat)(cvr08Encode:FuncId)(hR:∀E H,k .ret E H=resK [(.tmp 2),(.tmp 3)] [] E H):∀(E:Sg) (H:Heap),lxK cal O N (vr08ScriptC5 cvr08Encode) E H k=vr08ScriptC5S cal O N cvr08Encode (lk E 0) H:=by
 have hk:k=(kR (resK [(.tmp 2),(.tmp 3)] []) k):=(kR_mk hR rfl);intro E H;rw[hk];show lxK cal O N (.reg [
  ⟨(some 8),(.bldS 1 0 [(.int .u8 0)] []),none⟩,
  ⟨(some 4),(.mv (.t 8)),none⟩]) E H (seqK (lxK cal O N (vr08ScriptC4 cvr08Encode)) (kR (resK [(.tmp 2),(.tmp 3)] []) k))=_
 rw[seqK_mk (g:=fun E H=>vr08ScriptC4S cal O N cvr08Encode (lk E 0) (lk E 4) H) (vr08ScriptC4Eq cal O N cvr08Encode (k:=(kR (resK [(.tmp 2),(.tmp 3)] []) k)) (fun _ _=>rfl))];kernel_rfl
def vr08ScriptC6S (cal:FuncId->Bool)(O:Oracle)(N:Nat)(cvr08Encode:FuncId)(v0:IV)(H:Heap):Option (IV×Heap) :=
  vr08ScriptC5S cal O N cvr08Encode v0 H
theorem vr08ScriptC6Eq (cal:FuncId->Bool)(O:Oracle)(N:Nat)(cvr08Encode:FuncId)(hR:∀E H,k .ret E H=resK [(.tmp 2),(.tmp 3)] [] E H):∀(E:Sg) (H:Heap),lxK cal O N (vr08ScriptC6 cvr08Encode) E H k=vr08ScriptC6S cal O N cvr08Encode (lk E 0) H:=by
 have hk:k=(kR (resK [(.tmp 2),(.tmp 3)] []) k):=(kR_mk hR rfl);intro E H;rw[hk];show lxK cal O N (.reg [
  ⟨(some 2),(.mv (.k .nilSlice)),none⟩,
  ⟨(some 3),(.mv (.k (.int .i64 0))),none⟩]) E H (seqK (lxK cal O N (vr08ScriptC5 cvr08Encode)) (kR (resK [(.tmp 2),(.tmp 3)] []) k))=_
 rw[seqK_mk (g:=fun E H=>vr08ScriptC5S cal O N cvr08Encode (lk E 0) H) (vr08ScriptC5Eq cal O N cvr08Encode (k:=(kR (resK [(.tmp 2),(.tmp 3)] []) k)) (fun _ _=>rfl))];kernel_rfl
def vr08Script (cvr08Encode:FuncId):LFun:=⟨(vr08ScriptC6 cvr08Encode),[(.tmp 2),(.tmp 3)],33⟩
def vr08ScriptS (cal:FuncId->Bool)(O:Oracle)(N:Nat)(cvr08Encode:FuncId)(v0:IV)(H:Heap):Option (IV×Heap) :=
  vr08ScriptC6S cal O N cvr08Encode v0 H
theorem vr08ScriptEq (cal:FuncId->Bool)(O:Oracle)(N:Nat)(cvr08Encode:FuncId)(v0:IV)(H:Heap):lrunK cal O N (vr08Script cvr08Encode) [v0] H=vr08ScriptS cal O N cvr08Encode v0 H:=by
 show lxK cal O N (vr08ScriptC6 cvr08Encode) (initFrom 0 [v0]) H (endK [(.tmp 2),(.tmp 3)])=_;exact vr08ScriptC6Eq cal O N cvr08Encode (k:=(endK [(.tmp 2),(.tmp 3)])) (fun _ _=>rfl) (initFrom 0 [v0]) H
end Go.Shade
namespace Go.Shade
variable {N : Nat} {cal : FuncId -> Bool} {O : Oracle}
theorem within_s (a lo hi:Int)(H:Heap):callWithinS cal O N (.int .i64 a) (.int .i64 lo) (.int .i64 hi) H=some (.bool (decide (lo<=a)&&decide (a<=hi)),H):=by
 unfold callWithinS
 cases h1:decide (lo<=a)<;>simp only[go_sem,h1]
structure Cl where
 op:Int
 fd:Int
 fl:Int
 n:Int
 off:Int
 a:List UInt8
 b:List UInt8
 deriving DecidableEq
def Cl.cells (c:Cl):List IV:=[.int .i64 c.op,.int .i64 c.fd,.int .i64 c.fl,.int .i64 c.n,.int .i64 c.off,.str c.a,.str c.b]
def Cl.may (c:Cl):Bool:=(decide (1<=c.op)&&decide (c.op<=20))&&((decide (-4<=c.fd)&&decide (c.fd<=35))&&((decide (0<=c.fl)&&decide (c.fl<=63))&&((decide (-256<=c.n)&&decide (c.n<=65279))&&((decide (-256<=c.off)&&decide (c.off<=65279))&&(decide ((c.a.length:Int)<64)&&decide ((c.b.length:Int)<64))))))
def WithinOk (O:Oracle)(w:FuncId):Prop:=∀(a lo hi:Int) (H:Heap),O w [.int .i64 a,.int .i64 lo,.int .i64 hi] H=some (.bool (decide (lo<=a)&&decide (a<=hi)),H)
theorem may_s {w:FuncId}(hw:WithinOk O w)(c:Cl)(H:Heap):callMayS cal O N w (.agg c.cells) H=some (.bool c.may,H++[IObj.row c.cells false]):=by
 unfold callMayS Cl.may;have hb:lbox H (.agg c.cells)=some (.ptr H.length 0,H++[IObj.row c.cells false]):=lbox_agg rfl;unfold WithinOk at hw;simp only[hb,hw,go_sem]
 cases h1:(decide (1<=c.op)&&decide (c.op<=20))
 ·simp only[go_sem,Cl.cells,hw,h1]
 cases h2:(decide (-4<=c.fd)&&decide (c.fd<=35))
 ·simp only[go_sem,Cl.cells,hw,h1,h2]
 cases h3:(decide (0<=c.fl)&&decide (c.fl<=63))
 ·simp only[go_sem,Cl.cells,hw,h1,h2,h3]
 cases h4:(decide (-256<=c.n)&&decide (c.n<=65279))
 ·simp only[go_sem,Cl.cells,hw,h1,h2,h3,h4]
 cases h5:(decide (-256<=c.off)&&decide (c.off<=65279))
 ·simp only[go_sem,Cl.cells,hw,h1,h2,h3,h4,h5]
 cases h6:decide ((c.a.length:Int)<64)
 ·simp only[go_sem,Cl.cells,hw,h1,h2,h3,h4,h5,h6]
 simp only[go_sem,Cl.cells,hw,h1,h2,h3,h4,h5,h6]
def ub (x:Int):UInt8:=UInt8.ofNat (x % 256).toNat
theorem wrap_u8 (x:Int):IntKind.wrap .u8 x=((ub x).toNat:Int):=by
 have h:IntKind.wrap .u8 x=x % 256:=by unfold IntKind.wrap;simp[IntKind.bits,IntKind.signed]
 rw[h];simp only[ub,UInt8.toNat_ofNat'];omega
theorem shr8 {a:Int}:lbin .shr (.int .i64 a) (.int .u64 8)=some (.int .i64 (a / 256)):=by
 simp only[lbin,ishift];rw[if_neg (by decide)];have:(2:Int) ^ (min (8:Int).toNat IntKind.i64.bits)=256:=by simp[IntKind.bits]
 rw[this,Int.fdiv_eq_ediv_of_nonneg _ (by decide)]
def Cl.enc (c:Cl):List UInt8:=[ub (c.op - 1),ub (c.fd+4),ub c.fl,ub ((c.n+256) / 256),ub (c.n+256),ub ((c.off+256) / 256),ub (c.off+256),ub c.a.length]++c.a++([ub c.b.length]++c.b)
def MayOk (O:Oracle)(f:FuncId):Prop:=∀(c:Cl) (H:Heap),O f [.agg c.cells] H=some (.bool c.may,H)
theorem Cl.c0 (c:Cl):c.cells[0]? =some (.int .i64 c.op):=rfl
theorem Cl.c1 (c:Cl):c.cells[1]? =some (.int .i64 c.fd):=rfl
theorem Cl.c2 (c:Cl):c.cells[2]? =some (.int .i64 c.fl):=rfl
theorem Cl.c3 (c:Cl):c.cells[3]? =some (.int .i64 c.n):=rfl
theorem Cl.c4 (c:Cl):c.cells[4]? =some (.int .i64 c.off):=rfl
theorem Cl.c5 (c:Cl):c.cells[5]? =some (.str c.a):=rfl
theorem Cl.c6 (c:Cl):c.cells[6]? =some (.str c.b):=rfl
theorem Cl.may_iff (c:Cl):c.may=true↔(1<=c.op/\c.op<=20)/\(-4<=c.fd/\c.fd<=35)/\(0<=c.fl/\c.fl<=63)/\(-256<=c.n/\c.n<=65279)/\(-256<=c.off/\c.off<=65279)/\(c.a.length:Int)<64/\(c.b.length:Int)<64:=by
 simp only[Cl.may,Bool.and_eq_true,decide_eq_true_eq]
theorem enc_no {f:FuncId}(hm:MayOk O f){c:Cl}(h:c.may=false)(H:Heap):callEncodeS cal O N f (.agg c.cells) H=some (.tuple [.nilSlice,.int .i64 22],H++[IObj.row c.cells false]):=by
 unfold callEncodeS;unfold MayOk at hm;have hb:lbox H (.agg c.cells)=some (.ptr H.length 0,H++[IObj.row c.cells false]):=lbox_agg rfl;have hl:lloadn (H++[IObj.row c.cells false]) 7 (.ptr H.length 0)=some (.agg c.cells):=by
  rw[lloadn_ptr,at_new];rfl
 rw[hb,ob_some];simp only;rw[hl,ob_some,hm,ob_some];simp only;rw[h,iun_not,ob_some];rfl
theorem enc_yes {f:FuncId}(hm:MayOk O f){c:Cl}(h:c.may=true)(H:Heap) :
  ∃v H',callEncodeS cal O N f (.agg c.cells) H=some (.tuple [v,.int .i64 0],H')/\Buf (H.length+1) 1 H' v (bytes c.enc)/\Keep (H.length+1) (H++[IObj.row c.cells false]) H':=by
 unfold callEncodeS;unfold MayOk at hm;obtain⟨⟨m1,m2⟩,⟨m3,m4⟩,⟨m5,m6⟩,⟨m7,m8⟩,⟨m9,m10⟩,m11,m12⟩:=c.may_iff.1 h;have hb:lbox H (.agg c.cells)=some (.ptr H.length 0,H++[IObj.row c.cells false]):=lbox_agg rfl;have hl:lloadn (H++[IObj.row c.cells false]) 7 (.ptr H.length 0)=some (.agg c.cells):=by
  rw[lloadn_ptr,at_new];rfl
 have hcell:∀{H':Heap},H'[H.length]? =some (.row c.cells false)->∀k,lload1 H' (.ptr H.length k)=c.cells[k]? :=by
  intro H' e k;rw[lload1_ptr,e];rfl
 have h0:(H++[IObj.row c.cells false])[H.length]? =some (.row c.cells false):=by rw[at_new];rfl
 have w1:IntKind.wrap .i64 (c.n - (-256))=c.n+256:=by rw[wrap_i64 (by omega) (by omega)];omega
 have w2:IntKind.wrap .i64 (c.off - (-256))=c.off+256:=by rw[wrap_i64 (by omega) (by omega)];omega
 have w3:IntKind.wrap .i64 (c.op - 1)=c.op - 1:=wrap_i64 (by omega) (by omega);have w4:IntKind.wrap .i64 (c.fd - (-4))=c.fd+4:=by rw[wrap_i64 (by omega) (by omega)];omega
 rw[hb,ob_some];simp only;rw[hl,ob_some,hm,ob_some];simp only;rw[h,iun_not,ob_some];simp only[Bool.not_true];rw[cnd_false];simp only[loff_ptr,Nat.zero_add,ob_some,hcell h0,Cl.c0,Cl.c1,Cl.c2,Cl.c3,Cl.c4,Cl.c5,Cl.c6,lbin_sub,w1,w2,w3,w4];simp only[lcvt_int,ob_some,shr8,wrap_u8,llen_str];have hbl:lbldS (H++[IObj.row c.cells false]) 1 8 [.int .u8 0] [(0,.int .u8 ((ub (c.op - 1)).toNat:Int)),(1,.int .u8 ((ub (c.fd+4)).toNat:Int)),(2,.int .u8 ((ub c.fl).toNat:Int)),(3,.int .u8 ((ub ((c.n+256) / 256)).toNat:Int)),(4,.int .u8 ((ub (c.n+256)).toNat:Int)),(5,.int .u8 ((ub ((c.off+256) / 256)).toNat:Int)),(6,.int .u8 ((ub (c.off+256)).toNat:Int)),(7,.int .u8 ((ub c.a.length).toNat:Int))] =
   some (.slice (H++[IObj.row c.cells false]).length 0 8 8 true 1,(H++[IObj.row c.cells false])++[.row (bytes [ub (c.op - 1),ub (c.fd+4),ub c.fl,ub ((c.n+256) / 256),ub (c.n+256),ub ((c.off+256) / 256),ub (c.off+256),ub c.a.length]) false]):=rfl
 rw[hbl,ob_some];have k0:Keep (H.length+1) (H++[IObj.row c.cells false]) ((H++[IObj.row c.cells false])++[IObj.row (bytes [ub (c.op - 1),ub (c.fd+4),ub c.fl,ub ((c.n+256) / 256),ub (c.n+256),ub ((c.off+256) / 256),ub (c.off+256),ub c.a.length]) false]):=Keep.push _ _ (by simp);have b0:Buf (H.length+1) 1 ((H++[IObj.row c.cells false])++[IObj.row (bytes [ub (c.op - 1),ub (c.fd+4),ub c.fl,ub ((c.n+256) / 256),ub (c.n+256),ub ((c.off+256) / 256),ub (c.off+256),ub c.a.length]) false]) (.slice (H++[IObj.row c.cells false]).length 0 8 8 true 1) (bytes [ub (c.op - 1),ub (c.fd+4),ub c.fl,ub ((c.n+256) / 256),ub (c.n+256),ub ((c.off+256) / 256),ub (c.off+256),ub c.a.length]) :=
  .inr ⟨_,8,true,rfl,by simp,by simp,rfl⟩
 generalize (H++[IObj.row c.cells false])++[IObj.row (bytes [ub (c.op - 1),ub (c.fd+4),ub c.fl,ub ((c.n+256) / 256),ub (c.n+256),ub ((c.off+256) / 256),ub (c.off+256),ub c.a.length]) false]=H1 at k0 b0 ⊢;generalize (IV.slice (H++[IObj.row c.cells false]).length 0 8 8 true 1)=v1 at b0 ⊢;have hB:∀{H':Heap},Keep (H.length+1) (H++[IObj.row c.cells false]) H'->H.length+1<=H'.length:=fun k=>by have:=k.2;simp at this;exact this
 have hC:∀{H':Heap},Keep (H.length+1) (H++[IObj.row c.cells false]) H'->H'[H.length]? =some (.row c.cells false):=fun k=>k.get (by omega) h0;simp only[hcell (hC k0),Cl.c5,ob_some];obtain⟨v2,H2,a1,b1,k1⟩:=app_str (b:=1) (l:=c.a) b0 (hB k0) (by simp[bytes_length];omega);have k1:=k0.trans k1;rw[a1,ob_some];simp only[hcell (hC k1),Cl.c6,ob_some,llen_str,lcvt_int,wrap_u8];have hbl2:lbldS H2 1 1 [.int .u8 0] [(0,.int .u8 ((ub c.b.length).toNat:Int))]=some (.slice H2.length 0 1 1 true 1,H2++[.row (bytes [ub c.b.length]) false]):=rfl;rw[hbl2,ob_some];have k2:Keep (H.length+1) H2 (H2++[.row (bytes [ub c.b.length]) false]):=Keep.push _ _ (hB k1);have b2:Buf 0 1 (H2++[.row (bytes [ub c.b.length]) false]) (.slice H2.length 0 1 1 true 1) (bytes [ub c.b.length]):=.inr ⟨_,1,true,rfl,by omega,by simp,rfl⟩;have b1':Buf (H.length+1) 1 (H2++[.row (bytes [ub c.b.length]) false]) v2 _:=b1.keep (Keep.push (B:=H2.length) H2 [.row (bytes [ub c.b.length]) false] (Nat.le_refl _)) (fun r n m ex e=>by
  rcases b1 with⟨e',_⟩ | ⟨r',n',ex',e',_,hr,_⟩
  ·rw[e]at e';cases e'
  ·rw[e]at e';cases e';exact(ges hr).1)
 have k2':=k1.trans k2;obtain⟨v3,H3,a3,b3,k3⟩:=app_own (b:=1) b1' (hB k2') (by omega) b2 (bytes_one _) (by simp[bytes_length];omega);have k3:=k2'.trans k3;simp only at a3 ⊢;rw[a3,ob_some];simp only[hcell (hC k3),Cl.c6,ob_some];obtain⟨v4,H4,a4,b4,k4⟩:=app_str (b:=1) (l:=c.b) b3 (hB k3) (by simp[bytes_length];omega);rw[a4,ob_some];refine⟨v4,H4,rfl,?_,k3.trans k4⟩;have:bytes c.enc=bytes [ub (c.op - 1),ub (c.fd+4),ub c.fl,ub ((c.n+256) / 256),ub (c.n+256),ub ((c.off+256) / 256),ub (c.off+256),ub c.a.length]++bytes c.a++bytes [ub c.b.length]++bytes c.b:=by
  simp only[Cl.enc,←bytes_append,List.append_assoc]
 rw[this];exact b4
end Go.Shade
namespace Go.Shade
variable {B N f1 p q : Nat} {H H' : Heap} {bs : List UInt8} {cal : FuncId -> Bool} {o : IObj} {v : IV} {O : Oracle}
def BS (H:Heap)(v:IV)(bs:List UInt8):Prop :=
 (v=.nilSlice/\bs=[])∨∃b o n lb ex sz,v=.slice b o n lb ex sz/\n<=lb/\(sz=0∨sz=1)/\bs.length=n/\(0<n->∃cells ro,H[b]? =some (.row cells ro)/\∀i,i<n->cells[o+i]? =some (.int .u8 ((bs.getD i 0).toNat:Int)))
def tailN (k:Nat):IV->IV
 | .slice b o n lb ex sz=>.slice b (o+min k n) (n - min k n) (lb - min k n) ex sz
 | v=>v
def off (H:Heap)(p:Nat)(v:IV):Prop:=∀b o n lb ex sz,v=.slice b o n lb ex sz->b≠p
theorem BS.tail (h:BS H v bs)(k:Nat):BS H (tailN k v) (bs.drop k):=by
 rcases h with⟨rfl,rfl⟩ | ⟨b,o,n,lb,ex,sz,rfl,h1,h2,h3,h4⟩
 ·exact .inl ⟨rfl,by simp⟩
 ·refine .inr ⟨b,o+min k n,n - min k n,lb - min k n,ex,sz,rfl,by omega,h2,by simp;omega,fun hn=> ?_⟩;obtain⟨cells,ro,g1,g2⟩:=h4 (by omega);refine⟨cells,ro,g1,fun i hi=> ?_⟩;have:=g2 (min k n+i) (by omega);rw[Nat.add_assoc,this];have e:min k n=k:=by omega
  simp only[e,List.getD_eq_getElem?_getD,List.getElem?_drop]
theorem BS.set {H:Heap}{v:IV}{bs:List UInt8}(h:BS H v bs){p:Nat}(o:IObj)(hp:off H p v):BS (H.set p o) v bs:=by
 rcases h with⟨rfl,rfl⟩ | ⟨b,o',n,lb,ex,sz,rfl,h1,h2,h3,h4⟩
 ·exact .inl ⟨rfl,rfl⟩
 ·refine .inr ⟨b,o',n,lb,ex,sz,rfl,h1,h2,h3,fun hn=> ?_⟩;obtain⟨cells,ro,g1,g2⟩:=h4 hn;exact⟨cells,ro,by rw[List.getElem?_set_ne (Ne.symm (hp _ _ _ _ _ _ rfl))];exact g1,g2⟩
theorem BS.keep (h:BS H v bs)(hk:∀(i:Nat) o,H[i]? =some o->H'[i]? =some o):BS H' v bs:=by
 rcases h with⟨rfl,rfl⟩ | ⟨b,o',n,lb,ex,sz,rfl,h1,h2,h3,h4⟩
 ·exact .inl ⟨rfl,rfl⟩
 ·refine .inr ⟨b,o',n,lb,ex,sz,rfl,h1,h2,h3,fun hn=> ?_⟩;obtain⟨cells,ro,g1,g2⟩:=h4 hn;exact⟨cells,ro,hk _ _ g1,g2⟩
theorem off_tail {k:Nat}(h:off H p v):off H p (tailN k v):=by
 intro b o n lb ex sz e
 cases v<;>simp only[tailN]at e<;>first | (cases e;done) | skip
 cases e;exact h _ _ _ _ _ _ rfl
theorem tailN_tailN (j k:Nat)(v:IV):tailN k (tailN j v)=tailN (j+k) v:=by
 cases v<;>simp only[tailN]
 rename_i b o n lb ex sz
 congr 1<;>omega
theorem tailN_zero (v:IV):tailN 0 v=v:=by cases v<;>simp[tailN]
theorem one_s {cal:FuncId->Bool}{O:Oracle}{N:Nat}{H:Heap}{p:Nat}{v:IV}{bs:List UInt8}(hp:H[p]? =some (.row [v] false))(hb:BS H v bs) :
  callDecode1S cal O N (.ptr p 0) H=some (.int .i64 ((bs.getD 0 0).toNat:Int),H.set p (.row [tailN 1 v] false)):=by
 unfold callDecode1S;have hl:lload1 H (.ptr p 0)=some v:=by rw[lload1_ptr,hp];rfl
 have hself:H.set p (.row [v] false)=H:=by
  apply List.ext_getElem?;intro i;rw[List.getElem?_set];split
  ·rename_i e;subst e;split
   ·exact hp.symm
   ·rename_i hlt;rw[List.getElem?_eq_none (by omega)]
  ·rfl
 rw[hl,ob_some];rcases hb with⟨rfl,rfl⟩ | ⟨b,o,n,lb,ex,sz,rfl,h1,h2,h3,h4⟩
 ·rw[llen_nil,ob_some,lbin_eql,ob_some];simp only[decide_true,cnd_true,tailN,hself];rfl
 ·rw[llen_slice,ob_some,lbin_eql,ob_some];by_cases h0:n=0
  ·subst h0;have:bs=[]:=List.length_eq_zero_iff.1 h3;subst this;simp only[Int.natCast_zero,decide_true,cnd_true,tailN,Nat.min_zero,Nat.add_zero,Nat.sub_zero,hself];rfl
  ·have hd:decide ((n:Int)=0)=false:=decide_eq_false (by omega);rw[hd,cnd_false,ob_some,lix_slice,if_pos (by omega),ob_some];obtain⟨cells,ro,g1,g2⟩:=h4 (by omega);have hx:lload1 H (.ptr b (o+(0:Int).toNat*1))=some (.int .u8 ((bs.getD 0 0).toNat:Int)):=by
    rw[lload1_ptr,g1,og1_row];exact g2 0 (by omega)
   rw[hx,ob_some,ob_some];have hs:lslice H (.slice 1) (.slice b o n lb ex sz) (some (.int .i64 1)) none none=some (.slice b (o+1) (n - 1) (lb - 1) ex sz):=by
    have e1:bnd n none=some n:=rfl;have e2:bnd 0 (some (.int .i64 1))=some 1:=rfl;simp only[lslice,e1,e2,Option.bind_some];rw[if_neg (by omega),if_pos (by omega)]
   rw[hs,ob_some,lstV_ptr,hp,putO_one rfl (by simp),ob_some,ob_some,lcvt_int,ob_some];have hw:IntKind.wrap .i64 ((bs.getD 0 0).toNat:Int)=((bs.getD 0 0).toNat:Int):=wrap_i64 (by omega) (by have:=(bs.getD 0 0).toNat_lt;omega);simp only[hw,List.set_cons_zero,tailN,Nat.min_eq_left (show 1<=n by omega)]
def OneOk (O:Oracle)(f1:FuncId):Prop:=∀(H:Heap) (p:Nat) (v:IV) (bs:List UInt8),H[p]? =some (.row [v] false)->BS H v bs->O f1 [.ptr p 0] H=some (.int .i64 ((bs.getD 0 0).toNat:Int),H.set p (.row [tailN 1 v] false))
theorem set_same (hp:H[p]? =some o):H.set p o=H:=by
 apply List.ext_getElem?;intro i;rw[List.getElem?_set];split
 ·rename_i e;subst e;split
  ·exact hp.symm
  ·rename_i hlt;rw[List.getElem?_eq_none (by omega)]
 ·rfl
theorem set_at {o':IObj}(hp:H[p]? =some o):(H.set p o')[p]? =some o':=by
 rw[List.getElem?_set];rw[if_pos rfl,if_pos (ges hp).1]
theorem getD_drop (bs:List UInt8)(k:Nat):(bs.drop k).getD 0 0=bs.getD k 0:=by
 simp[List.getD_eq_getElem?_getD]
def OneF (f1:FuncId)(p:Nat):IV:=.func (.func f1) [] [.ptr p 0]
theorem two_s (hc:cal f1=true)(h1:OneOk O f1)(hq:H[q]? =some (.row [OneF f1 p] false))(hp:H[p]? =some (.row [v] false))(hpq:q≠p)(ho:off H p v)(hb:BS H v bs) :
  callDecode2S cal O N (.ptr q 0) H=some (.int .i64 (((bs.getD 0 0).toNat:Int)*256+((bs.getD 1 0).toNat:Int) - 256),H.set p (.row [tailN 2 v] false)):=by
 unfold callDecode2S;have hl:lload1 H (.ptr q 0)=some (OneF f1 p):=by rw[lload1_ptr,hq];rfl
 have hcall:∀{H':Heap},lcallV cal O H' (OneF f1 p) []=O f1 [.ptr p 0] H':=fun {H'}=>by unfold OneF;rw[lcallV_func hc];rfl
 rw[hl,ob_some,hcall,h1 H p v bs hp hb,ob_some];have hp1:(H.set p (.row [tailN 1 v] false))[p]? =some (.row [tailN 1 v] false):=set_at hp;have hb1:BS (H.set p (.row [tailN 1 v] false)) (tailN 1 v) (bs.drop 1):=(hb.tail 1).set _ (off_tail (H:=H) ho);have hl1:lload1 (H.set p (.row [tailN 1 v] false)) (.ptr q 0)=some (OneF f1 p):=by rw[lload1_ptr,List.getElem?_set_ne (Ne.symm hpq),hq];rfl
 have ht:(bs.getD 0 0).toNat<256:=(bs.getD 0 0).toNat_lt;have ht1:(bs.getD 1 0).toNat<256:=(bs.getD 1 0).toNat_lt;have hshl:lbin .shl (.int .i64 ((bs.getD 0 0).toNat:Int)) (.int .u64 8)=some (.int .i64 (((bs.getD 0 0).toNat:Int)*256)):=by
  simp only[lbin,ishift];rw[if_neg (by decide)];have:(2:Int) ^ (min (8:Int).toNat IntKind.i64.bits)=256:=by simp[IntKind.bits]
  rw[this,wrap_i64 (by omega) (by omega)]
 simp only;rw[hshl,ob_some,hl1,ob_some,hcall,h1 _ p _ _ hp1 hb1,ob_some];simp only;have w1:IntKind.wrap .i64 (((bs.getD 0 0).toNat:Int)*256+((bs.getD 1 0).toNat:Int))=((bs.getD 0 0).toNat:Int)*256+((bs.getD 1 0).toNat:Int):=wrap_i64 (by omega) (by omega);have w2:IntKind.wrap .i64 (((bs.getD 0 0).toNat:Int)*256+((bs.getD 1 0).toNat:Int)+ -256)=((bs.getD 0 0).toNat:Int)*256+((bs.getD 1 0).toNat:Int) - 256:=wrap_i64 (by omega) (by omega);rw[lbin_add,ob_some,lbin_add,ob_some,getD_drop,w1,w2,tailN_tailN,List.set_set]
def low (B:Nat)(v:IV):Prop:=∀b o n lb ex sz,v=.slice b o n lb ex sz->b<B
theorem low_tail {k:Nat}(h:low B v):low B (tailN k v):=by
 intro b o n lb ex sz e
 cases v<;>simp only[tailN]at e<;>first | (cases e;done) | skip
 cases e;exact h _ _ _ _ _ _ rfl
theorem BS.keepB (h:BS H v bs)(hl:low B v)(hk:∀i,i<B->H'[i]? =H[i]?):BS H' v bs:=by
 rcases h with⟨rfl,rfl⟩ | ⟨b,o',n,lb,ex,sz,rfl,h1,h2,h3,h4⟩
 ·exact .inl ⟨rfl,rfl⟩
 ·refine .inr ⟨b,o',n,lb,ex,sz,rfl,h1,h2,h3,fun hn=> ?_⟩;obtain⟨cells,ro,g1,g2⟩:=h4 hn;exact⟨cells,ro,by rw[hk b (hl _ _ _ _ _ _ rfl)];exact g1,g2⟩
theorem keep_set (h:∀i,i<B->i≠p->H'[i]? =H[i]?)(hl:H.length<=H'.length)(hp:p<H.length):Keep B (H.set p o) (H'.set p o):=by
 refine⟨fun i hi=> ?_,by simpa using hl⟩;rw[List.getElem?_set,List.getElem?_set];by_cases e:p=i
 ·subst e;rw[if_pos rfl,if_pos rfl,if_pos (by omega),if_pos hp]
 ·rw[if_neg e,if_neg e];exact h i hi (Ne.symm e)
theorem ub_toNat (x:UInt8):ub (x.toNat:Int)=x:=by
 unfold ub;have:=x.toNat_lt;have e:((x.toNat:Int) % 256).toNat=x.toNat:=by omega
 rw[e];simp
theorem text_loop {gE0:IV->Heap->Option (IV×Heap)}(hc:cal f1=true)(h1:OneOk O f1)(hpq:q≠p)(hpB:p<B)(hqB:q<B) :
  ∀(k n:Nat) (H:Heap) (v v2:IV) (bs acc:List UInt8),k<n->H[q]? =some (.row [OneF f1 p] false)->H[p]? =some (.row [v] false)->B<=H.length->off H p v->low B v->BS H v bs->Buf B 1 H v2 (bytes acc)->acc.length+k<=1000 ->
  ∃v2' H',callDecode3C0S cal O N gE0 n (.ptr q 0) v2 (.int .i64 (k:Int)) H=gE0 v2' H'/\Buf B 1 H' v2' (bytes (acc++(List.range k).map fun i=>bs.getD i 0))/\Keep B (H.set p (.row [tailN k v] false)) H':=by
 intro k
 induction k with
 | zero =>
  intro n H v v2 bs acc hn hq hp hB ho hlow hb hv2 hk;obtain⟨n,rfl⟩:∃m,n=m+1:=⟨n - 1,by omega⟩;refine⟨v2,H,?_,by simpa using hv2,?_⟩
  ·rw[callDecode3C0S,lbin_gtr,ob_some];rfl
  ·rw[tailN_zero,set_same hp];exact Keep.refl _ _
 | succ k ih =>
  intro n H v v2 bs acc hn hq hp hB ho hlow hb hv2 hk;obtain⟨n,rfl⟩:∃m,n=m+1:=⟨n - 1,by omega⟩;have hl:lload1 H (.ptr q 0)=some (OneF f1 p):=by rw[lload1_ptr,hq];rfl
  have hcall:∀{H':Heap},lcallV cal O H' (OneF f1 p) []=O f1 [.ptr p 0] H':=fun {H'}=>by unfold OneF;rw[lcallV_func hc];rfl
  have hplt:p<H.length:=by omega
  have hgt:decide ((0:Int)<((k+1:Nat):Int))=true:=decide_eq_true (by omega);rw[callDecode3C0S,lbin_gtr,ob_some,hgt,cnd_true,hl,ob_some,hcall,h1 H p v bs hp hb,ob_some];simp only;rw[lcvt_int,ob_some,wrap_u8,ub_toNat];generalize hH1:H.set p (.row [tailN 1 v] false)=H1;have hH1p:H1[p]? =some (.row [tailN 1 v] false):=by rw[←hH1];exact set_at hp
  have hH1len:H1.length=H.length:=by rw[←hH1];simp
  have hH1i:∀i,i≠p->H1[i]? =H[i]? :=fun i hi=>by rw[←hH1,List.getElem?_set_ne (Ne.symm hi)]
  have hbl:lbldS H1 1 1 [.int .u8 0] [(0,.int .u8 ((bs.getD 0 0).toNat:Int))]=some (.slice H1.length 0 1 1 true 1,H1++[.row (bytes [bs.getD 0 0]) false]):=rfl;rw[hbl,ob_some];have hv2':Buf B 1 (H1++[.row (bytes [bs.getD 0 0]) false]) v2 (bytes acc):=by
   rcases hv2 with h | ⟨r,m,ex,e,g1,g2,g3⟩
   ·exact .inl h
   ·refine .inr ⟨r,m,ex,e,g1,?_,g3⟩;have hr:=(ges g2).1;rw[List.getElem?_append_left (by omega),hH1i r (by omega)];exact g2
  have hx:Buf 0 1 (H1++[.row (bytes [bs.getD 0 0]) false]) (.slice H1.length 0 1 1 true 1) (bytes [bs.getD 0 0]):=.inr ⟨_,1,true,rfl,by omega,by simp,rfl⟩;obtain⟨v3,H3,a3,b3,k3⟩:=app_own (b:=1) hv2' (by simp;omega) (by omega) hx (bytes_one _) (by simp[bytes_length];omega);simp only at a3 ⊢;rw[a3,ob_some,lbin_sub,ob_some];have hki:IntKind.wrap .i64 (((k+1:Nat):Int) - 1)=(k:Int):=by rw[wrap_i64 (by omega) (by omega)];omega
  rw[hki];have h3i:∀i,i<B->H3[i]? =H1[i]? :=fun i hi=>by rw[k3.1 i hi,List.getElem?_append_left (by omega)]
  have h3len:H.length<=H3.length:=by have:=k3.2;simp at this;omega
  rw[←bytes_append]at b3;obtain⟨v4,H4,a4,b4,k4⟩:=ih n H3 (tailN 1 v) v3 (bs.drop 1) (acc++[bs.getD 0 0]) (by omega) (by rw[h3i q hqB,hH1i q hpq];exact hq) (by rw[h3i p hpB];exact hH1p) (by omega) (off_tail (H:=H) ho) (low_tail hlow)
   (((hb.tail 1).set (.row [tailN 1 v] false) (off_tail (H:=H) ho)).keepB (low_tail hlow) (by rw[hH1];exact h3i)) b3 (by simp;omega)
  refine⟨v4,H4,a4,?_,?_⟩
  ·have e:acc++[bs.getD 0 0]++(List.range k).map (fun i=>(bs.drop 1).getD i 0)=acc++(List.range (k+1)).map (fun i=>bs.getD i 0):=by
    rw[List.append_assoc,List.range_succ_eq_map]
    congr 1
    simp only[List.map_cons,List.map_map,List.cons_append,List.nil_append]
    congr 1
    apply List.map_congr_left;intro i _;simp[List.getD_eq_getElem?_getD,Nat.add_comm]
   rw[←e];exact b4
  ·rw[tailN_tailN,Nat.add_comm 1 k]at k4;refine Keep.trans ?_ k4;exact keep_set (fun i hi hne=>by rw[h3i i hi,hH1i i hne]) h3len hplt
theorem b2s_buf {l:List UInt8}(h:Buf B 1 H v (bytes l)):lb2s H v=some (.str l):=by
 rcases h with⟨rfl,e⟩ | ⟨r,n,ex,rfl,g1,g2,g3⟩
 ·have:l=[]:=by cases l<;>simp[bytes]at e ⊢
  subst this;rfl
 ·have:=Buf.cells (B:=B) (s:=1) (H:=H) (v:=.slice r 0 n n ex 1) (cs:=bytes l) (.inr ⟨r,n,ex,rfl,g1,g2,g3⟩) (n:=n) rfl;simp only[lb2s,this,Option.bind_some,ibytes_bytes]
def rdText (bs:List UInt8):List UInt8:=(List.range ((bs.getD 0 0).toNat % 64)).map fun i=>bs.getD (i+1) 0
def TextN (bs:List UInt8):Nat:=(bs.getD 0 0).toNat % 64+1
theorem text_s (hN:64<N)(hc:cal f1=true)(h1:OneOk O f1)(hpq:q≠p)(hq:H[q]? =some (.row [OneF f1 p] false))(hp:H[p]? =some (.row [v] false))(ho:off H p v)(hlow:low H.length v)(hb:BS H v bs) :
  ∃H',callDecode3S cal O N (.ptr q 0) H=some (.str (rdText bs),H')/\Keep H.length (H.set p (.row [tailN (TextN bs) v] false)) H':=by
 have hpl:=(ges hp).1;have hql:=(ges hq).1;have hl:lload1 H (.ptr q 0)=some (OneF f1 p):=by rw[lload1_ptr,hq];rfl
 have hcall:∀{H':Heap},lcallV cal O H' (OneF f1 p) []=O f1 [.ptr p 0] H':=fun {H'}=>by unfold OneF;rw[lcallV_func hc];rfl
 unfold callDecode3S callDecode3C5S callDecode3C4S callDecode3C3S callDecode3C2S callDecode3C1S;rw[hl,ob_some,hcall,h1 H p v bs hp hb,ob_some];simp only;rw[lbin_rem (by decide),ob_some];have hmod:((bs.getD 0 0).toNat:Int).tmod 64=(((bs.getD 0 0).toNat % 64:Nat):Int):=by
  rw[Int.tmod_eq_emod_of_nonneg (by omega)];omega
 rw[hmod];generalize hH1:H.set p (.row [tailN 1 v] false)=H1;have hH1p:H1[p]? =some (.row [tailN 1 v] false):=by rw[←hH1];exact set_at hp
 have hH1len:H1.length=H.length:=by rw[←hH1];simp
 have hH1i:∀i,i≠p->H1[i]? =H[i]? :=fun i hi=>by rw[←hH1,List.getElem?_set_ne (Ne.symm hi)]
 obtain⟨v4,H4,a4,b4,k4⟩:=text_loop (cal:=cal) (O:=O) (N:=N) (gE0:=fun v2 H=>ob (lb2s H v2) fun t1=>some (t1,H)) (B:=H.length) hc h1 hpq hpl hql ((bs.getD 0 0).toNat % 64) N H1 (tailN 1 v) .nilSlice (bs.drop 1) [] (by omega)
  (by rw[hH1i q hpq];exact hq) hH1p (by omega) (off_tail (H:=H) ho) (low_tail hlow) (by rw[←hH1];exact(hb.tail 1).set _ (off_tail (H:=H) ho)) (.inl ⟨rfl,rfl⟩) (by simp;omega)
 refine⟨H4,?_,?_⟩
 ·rw[a4];simp only[b2s_buf b4,ob_some]
  congr 3
  simp only[List.nil_append,rdText]
  congr 1
  funext i
  simp[List.getD_eq_getElem?_getD,Nat.add_comm]
 ·rw[←hH1,List.set_set,tailN_tailN]at k4;have:TextN bs=1+(bs.getD 0 0).toNat % 64:=by unfold TextN;omega
  rw[this];exact k4
end Go.Shade
namespace Go.Shade
variable {H : Heap} {bs : List UInt8} {cal : FuncId -> Bool} {v : IV} {O : Oracle}
def TwoOk (O:Oracle)(f1 f2:FuncId):Prop:=∀(H:Heap) (p q:Nat) (v:IV) (bs:List UInt8),q≠p->H[q]? =some (.row [OneF f1 p] false)->H[p]? =some (.row [v] false)->off H p v->low H.length v->BS H v bs ->
 O f2 [.ptr q 0] H=some (.int .i64 (((bs.getD 0 0).toNat:Int)*256+((bs.getD 1 0).toNat:Int) - 256),H.set p (.row [tailN 2 v] false))
def TextOk (O:Oracle)(f1 f3:FuncId):Prop:=∀(H:Heap) (p q:Nat) (v:IV) (bs:List UInt8),q≠p->H[q]? =some (.row [OneF f1 p] false)->H[p]? =some (.row [v] false)->off H p v->low H.length v->BS H v bs ->
 O f3 [.ptr q 0] H=some (.str (rdText bs),H.set p (.row [tailN (TextN bs) v] false))
def rd1 (bs:List UInt8):List UInt8:=bs.drop 7
def rd2 (bs:List UInt8):List UInt8:=(rd1 bs).drop (TextN (rd1 bs))
def rdCl (bs:List UInt8):Cl:= { op:=((bs.getD 0 0).toNat:Int) % 20+1,fd:=((bs.getD 1 0).toNat:Int) % 40 - 4,fl:=((bs.getD 2 0).toNat:Int) % 64,n:=((bs.getD 3 0).toNat:Int)*256+((bs.getD 4 0).toNat:Int) - 256,off:=((bs.getD 5 0).toNat:Int)*256+((bs.getD 6 0).toNat:Int) - 256,a:=rdText (rd1 bs),b:=rdText (rd2 bs) }
def rdN (bs:List UInt8):Nat:=7+TextN (rd1 bs)+TextN (rd2 bs)
def dec :Nat->List UInt8->List Cl
 | 0,_=>[]
 | k+1,bs=>if bs=[]then []else rdCl bs::dec k (bs.drop (rdN bs))
def flat7 (l:List Cl):List IV:=(l.map Cl.cells).flatten
theorem flat7_length (l:List Cl):(flat7 l).length=l.length*7:=by
 induction l with
 | nil=>rfl
 | cons c l ih=>simp only[flat7,List.map_cons,List.flatten_cons,List.length_append]at ih ⊢;rw[ih];simp[Cl.cells];omega
theorem flat7_append (a b:List Cl):flat7 (a++b)=flat7 a++flat7 b:=by simp[flat7]
def GH (H:Heap)(p:Nat)(v:IV)(cs:List IV):Heap:=H.set p (.row [v] false)++[.row cs false]
section
variable {H : Heap} {p q : Nat} {v v' : IV} {cs cs' : List IV} {bs : List UInt8}
theorem GH_p (hp:p<H.length):(GH H p v cs)[p]? =some (.row [v] false):=by
 unfold GH;rw[List.getElem?_append_left (by simpa using hp),List.getElem?_set,if_pos rfl,if_pos hp]
theorem GH_o {i:Nat}(hi:i<H.length)(hne:i≠p):(GH H p v cs)[i]? =H[i]? :=by
 unfold GH;rw[List.getElem?_append_left (by simpa using hi),List.getElem?_set_ne (Ne.symm hne)]
theorem GH_b :(GH H p v cs)[H.length]? =some (.row cs false):=by
 unfold GH;rw[List.getElem?_append_right (by simp)];simp
theorem GH_len :(GH H p v cs).length=H.length+1:=by simp[GH]
theorem GH_setp (hp:p<H.length):(GH H p v cs).set p (.row [v'] false)=GH H p v' cs:=by
 unfold GH;rw[List.set_append_left _ _ (by simpa using hp),List.set_set]
theorem GH_setb :(GH H p v cs).set H.length (.row cs' false)=GH H p v cs':=by
 unfold GH;rw[List.set_append_right _ _ (by simp)];simp
theorem GH_bs (hp:p<H.length)(h:BS H v bs)(ho:off H p v)(hl:low H.length v):BS (GH H p v' cs) v bs:=by
 rcases h with⟨rfl,rfl⟩ | ⟨b,o',n,lb,ex,sz,rfl,h1,h2,h3,h4⟩
 ·exact .inl ⟨rfl,rfl⟩
 ·refine .inr ⟨b,o',n,lb,ex,sz,rfl,h1,h2,h3,fun hn=> ?_⟩;obtain⟨cells,ro,g1,g2⟩:=h4 hn;exact⟨cells,ro,by rw[GH_o (hl _ _ _ _ _ _ rfl) (ho _ _ _ _ _ _ rfl)];exact g1,g2⟩
end
theorem low_mono {B C:Nat}(h:low B v)(hc:B<=C):low C v:=fun b o n lb ex sz e=>Nat.lt_of_lt_of_le (h b o n lb ex sz e) hc
structure DecSt (H:Heap)(f1 p q:Nat)(v:IV)(bs:List UInt8):Prop where
 hpq:q≠p
 hq:H[q]? =some (.row [OneF f1 p] false)
 hp:H[p]? =some (.row [v] false)
 ho:off H p v
 hl:low H.length v
 hb:BS H v bs
theorem dec_step {f1 f2 f3:FuncId}(hc1:cal f1=true)(hc2:cal f2=true)(hc3:cal f3=true)(h1:OneOk O f1)(h2:TwoOk O f1 f2)(h3:TextOk O f1 f3){p q:Nat}(hs:DecSt H f1 p q v bs){R:Type}(k:IV->Heap->Option R) :
  (ob (lzbox H (.agg [(.int .i64 0),(.int .i64 0),(.int .i64 0),(.int .i64 0),(.int .i64 0),(.str []),(.str [])])) fun r8 =>
  ob (lload1 r8.2 (.ptr q 0)) fun t9 =>
  ob (lcallV cal O r8.2 t9 []) fun r10 =>
  ob (lbin .rem r10.1 (.int .i64 20)) fun t11 =>
  ob (lbin .add t11 (.int .i64 1)) fun t12 =>
  ob (loff r8.1 0) fun t13 =>
  ob (lstV r10.2 1 t13 t12) fun r14 =>
  ob (lload1 r14.2 (.ptr q 0)) fun t15 =>
  ob (lcallV cal O r14.2 t15 []) fun r16 =>
  ob (lbin .rem r16.1 (.int .i64 40)) fun t17 =>
  ob (lbin .add t17 (.int .i64 (-4))) fun t18 =>
  ob (loff r8.1 1) fun t19 =>
  ob (lstV r16.2 1 t19 t18) fun r20 =>
  ob (lload1 r20.2 (.ptr q 0)) fun t21 =>
  ob (lcallV cal O r20.2 t21 []) fun r22 =>
  ob (lbin .rem r22.1 (.int .i64 64)) fun t23 =>
  ob (loff r8.1 2) fun t24 =>
  ob (lstV r22.2 1 t24 t23) fun r25 =>
  ob (lcallV cal O r25.2 (.func (.func f2) [] [.ptr q 0]) []) fun r26 =>
  ob (loff r8.1 3) fun t27 =>
  ob (lstV r26.2 1 t27 r26.1) fun r28 =>
  ob (lcallV cal O r28.2 (.func (.func f2) [] [.ptr q 0]) []) fun r29 =>
  ob (loff r8.1 4) fun t30 =>
  ob (lstV r29.2 1 t30 r29.1) fun r31 =>
  ob (lcallV cal O r31.2 (.func (.func f3) [] [.ptr q 0]) []) fun r32 =>
  ob (loff r8.1 5) fun t33 =>
  ob (lstV r32.2 1 t33 r32.1) fun r34 =>
  ob (lcallV cal O r34.2 (.func (.func f3) [] [.ptr q 0]) []) fun r35 =>
  ob (loff r8.1 6) fun t36 =>
  ob (lstV r35.2 1 t36 r35.1) fun r37=>k r8.1 r37.2)=k (.ptr H.length 0) (GH H p (tailN (rdN bs) v) (rdCl bs).cells):=by
 obtain⟨hpq,hq,hp,ho,hl,hb⟩:=hs;have hpl:=(ges hp).1;have hql:=(ges hq).1;have start:lzbox H (.agg [(.int .i64 0),(.int .i64 0),(.int .i64 0),(.int .i64 0),(.int .i64 0),(.str []),(.str [])])=some (.ptr H.length 0,GH H p v [(.int .i64 0),(.int .i64 0),(.int .i64 0),(.int .i64 0),(.int .i64 0),(.str []),(.str [])]):=by
  unfold lzbox GH;rw[set_same hp];rfl
 have ld:∀{v cs},lload1 (GH H p v cs) (.ptr q 0)=some (OneF f1 p):=fun {v cs}=>by rw[lload1_ptr,GH_o hql hpq,hq];rfl
 have ok:∀{j cs},BS (GH H p (tailN j v) cs) (tailN j v) (bs.drop j):=fun {j cs}=>GH_bs hpl (hb.tail j) (off_tail (H:=H) ho) (low_tail hl);have c1:∀{j cs},lcallV cal O (GH H p (tailN j v) cs) (OneF f1 p) []=some (.int .i64 ((bs.getD j 0).toNat:Int),GH H p (tailN (j+1) v) cs):=fun {j cs}=>by
  unfold OneF;rw[lcallV_func hc1];show O f1 [.ptr p 0] _=_;rw[h1 _ p _ _ (GH_p hpl) ok,GH_setp hpl,tailN_tailN,getD_drop]
 have c2:∀{j cs},lcallV cal O (GH H p (tailN j v) cs) (.func (.func f2) [] [.ptr q 0]) []=some (.int .i64 (((bs.getD j 0).toNat:Int)*256+((bs.getD (j+1) 0).toNat:Int) - 256),GH H p (tailN (j+2) v) cs):=fun {j cs}=>by
  rw[lcallV_func hc2];show O f2 [.ptr q 0] _=_;rw[h2 _ p q _ _ hpq (by rw[GH_o hql hpq];exact hq) (GH_p hpl) (off_tail (H:=H) ho) (low_mono (low_tail hl) (by rw[GH_len];omega)) ok,GH_setp hpl,tailN_tailN,getD_drop];have:(bs.drop j).getD 1 0=bs.getD (j+1) 0:=by simp[List.getD_eq_getElem?_getD]
  rw[this]
 have c3:∀{j cs},lcallV cal O (GH H p (tailN j v) cs) (.func (.func f3) [] [.ptr q 0]) []=some (.str (rdText (bs.drop j)),GH H p (tailN (j+TextN (bs.drop j)) v) cs):=fun {j cs}=>by
  rw[lcallV_func hc3];show O f3 [.ptr q 0] _=_;rw[h3 _ p q _ _ hpq (by rw[GH_o hql hpq];exact hq) (GH_p hpl) (off_tail (H:=H) ho) (low_mono (low_tail hl) (by rw[GH_len];omega)) ok,GH_setp hpl,tailN_tailN]
 have st:∀{v cs i x},x.one=true->i<cs.length->lstV (GH H p v cs) 1 (.ptr H.length i) x=some (.tuple [],GH H p v (cs.set i x)):=fun {v cs i x} hx hi=>by
  rw[lstV_ptr,GH_b,putO_one hx hi,ob_some,GH_setb]
 have m:∀(x:UInt8) (n:Int),0<n->(x.toNat:Int).tmod n=(x.toNat:Int) % n:=fun x n hn=>Int.tmod_eq_emod_of_nonneg (by omega);have e0:v=tailN 0 v:=(tailN_zero v).symm;rw[start,ob_some];simp only;rw[ld,ob_some]
 conv=>lhs;rw[e0]
 rw[c1,ob_some];simp only;rw[lbin_rem (by decide),ob_some,m _ _ (by decide),lbin_add,ob_some,wrap_i64 (by omega) (by omega),loff_ptr,ob_some,st rfl (by simp),ob_some];simp only;rw[ld,ob_some,c1,ob_some];simp only;rw[lbin_rem (by decide),ob_some,m _ _ (by decide),lbin_add,ob_some,wrap_i64 (by omega) (by omega),loff_ptr,ob_some,st rfl (by simp),ob_some];simp only;rw[ld,ob_some,c1,ob_some];simp only;rw[lbin_rem (by decide),ob_some,m _ _ (by decide),loff_ptr,ob_some,st rfl (by simp),ob_some];simp only;rw[c2,ob_some,loff_ptr,ob_some,st rfl (by simp),ob_some];simp only;rw[c2,ob_some,loff_ptr,ob_some,st rfl (by simp),ob_some];simp only;rw[c3,ob_some,loff_ptr,ob_some,st rfl (by simp),ob_some];simp only;rw[c3,ob_some,loff_ptr,ob_some,st rfl (by simp),ob_some];simp only
 congr 1
 have ed:bs.drop (0+1+1+1+2+2+TextN (bs.drop (0+1+1+1+2+2)))=rd2 bs:=by
  simp only[rd2,rd1,List.drop_drop]
 have ed1:bs.drop (0+1+1+1+2+2)=rd1 bs:=rfl;rw[ed,ed1];have en:0+1+1+1+2+2+TextN (rd1 bs)+TextN (rd2 bs)=rdN bs:=by unfold rdN;omega
 rw[en];rfl
theorem BS.len (h:BS H v bs):llen H .slice v=some (.int .i64 (bs.length:Nat)):=by
 rcases h with⟨rfl,rfl⟩ | ⟨b,o',n,lb,ex,sz,rfl,h1,h2,h3,h4⟩
 ·rfl
 ·subst h3;rfl
theorem dec_loop {N:Nat}{f1 f2 f3 p q B:Nat}{gE0:IV->Heap->Option (IV×Heap)}(hc1:cal f1=true)(hc2:cal f2=true)(hc3:cal f3=true)(h1:OneOk O f1)(h2:TwoOk O f1 f2)(h3:TextOk O f1 f3)(hpB:p<B)(hqB:q<B) :
  ∀(k n:Nat) (H:Heap) (v v6:IV) (bs:List UInt8) (acc:List Cl),k<n->acc.length+k=200->DecSt H f1 p q v bs->B<=H.length->low B v->Buf B 7 H v6 (flat7 acc) ->
  ∃v6' H',callDecodeC0S cal O N f1 f2 f3 gE0 n (.ptr p 0) (.ptr q 0) (.func (.func f2) [] [.ptr q 0]) (.func (.func f3) [] [.ptr q 0]) v6 H=gE0 v6' H'/\Buf B 7 H' v6' (flat7 (acc++dec k bs))/\(∀i,i<B->i≠p->H'[i]? =H[i]?)/\H.length<=H'.length/\(dec k bs=[]->v6'=v6):=by
 intro k
 induction k with
 | zero =>
  intro n H v v6 bs acc hn hk hs hB hlow hv6;obtain⟨n,rfl⟩:∃m,n=m+1:=⟨n - 1,by omega⟩;have hl:lload1 H (.ptr p 0)=some v:=by rw[lload1_ptr,hs.hp];rfl
  refine⟨v6,H,?_,by simpa[dec]using hv6,fun _ _ _=>rfl,Nat.le_refl _,fun _=>rfl⟩;rw[callDecodeC0S,hl,ob_some,hs.hb.len,ob_some,lbin_gtr,ob_some];obtain⟨m,_,hm,hlen⟩:=hv6.len (by omega);rw[flat7_length]at hm;have hm':m=200:=by omega
  subst hm'
  cases hd:decide ((0:Int)<(bs.length:Nat))
  ·simp only[isB_ft,gq_false,ob_some,lpick_false,cnd_false]
  ·have:decide (((200:Nat):Int)<200)=false:=rfl;simp only[isB_tt,gq_true,ob_some,hlen,lbin_lss,this,lpick_true,cnd_false]
 | succ k ih =>
  intro n H v v6 bs acc hn hk hs hB hlow hv6;obtain⟨n,rfl⟩:∃m,n=m+1:=⟨n - 1,by omega⟩;have hl:lload1 H (.ptr p 0)=some v:=by rw[lload1_ptr,hs.hp];rfl
  rw[callDecodeC0S,hl,ob_some,hs.hb.len,ob_some,lbin_gtr,ob_some];by_cases hbs:bs=[]
  ·subst hbs;refine⟨v6,H,?_,by simpa[dec]using hv6,fun _ _ _=>rfl,Nat.le_refl _,fun _=>rfl⟩;have hd:decide ((0:Int)<(([]:List UInt8).length:Nat))=false:=rfl;simp only[hd,isB_ft,gq_false,ob_some,lpick_false,cnd_false]
  ·have hpos:0<bs.length:=List.length_pos_iff.2 hbs;have hd:decide ((0:Int)<(bs.length:Nat))=true:=decide_eq_true (by omega);obtain⟨m,_,hm,hlen⟩:=hv6.len (by omega);rw[flat7_length]at hm;have hm':m=acc.length:=by omega
   subst hm';have hd2:decide (((acc.length:Nat):Int)<200)=true:=decide_eq_true (by omega);rw[hd];simp only[isB_tt,gq_true,ob_some,hlen,lbin_lss,hd2,lpick_true,cnd_true];have hpl:=(ges hs.hp).1;have hql:=(ges hs.hq).1;rw[dec_step hc1 hc2 hc3 h1 h2 h3 hs (fun px Hx=>ob (lloadn Hx 7 px) fun t38 =>
    ob (lbldS Hx 7 1 [(.int .i64 0),(.int .i64 0),(.int .i64 0),(.int .i64 0),(.int .i64 0),(.str []),(.str [])] [(0,t38)]) fun r39 =>
    ob (lapp r39.2 7 72 v6 r39.1) fun r40 =>
    callDecodeC0S cal O N f1 f2 f3 gE0 n (.ptr p 0) (.ptr q 0) (.func (.func f2) [] [.ptr q 0]) (.func (.func f3) [] [.ptr q 0]) r40.1 r40.2)]
   generalize hG:GH H p (tailN (rdN bs) v) (rdCl bs).cells=G;have hGb:G[H.length]? =some (.row (rdCl bs).cells false):=by rw[←hG];exact GH_b
   have hGlen:G.length=H.length+1:=by rw[←hG];exact GH_len
   have hGi:∀i,i<H.length->i≠p->G[i]? =H[i]? :=fun i hi hne=>by rw[←hG];exact GH_o hi hne
   have hGp:G[p]? =some (.row [tailN (rdN bs) v] false):=by rw[←hG];exact GH_p hpl
   have hln:lloadn G 7 (.ptr H.length 0)=some (.agg (rdCl bs).cells):=by rw[lloadn_ptr,hGb];rfl
   have hbl:lbldS G 7 1 [(.int .i64 0),(.int .i64 0),(.int .i64 0),(.int .i64 0),(.int .i64 0),(.str []),(.str [])] [(0,.agg (rdCl bs).cells)]=some (.slice G.length 0 1 1 true 7,G++[.row (rdCl bs).cells false]):=rfl;simp only[hln,ob_some,hbl];have hv6':Buf B 7 (G++[.row (rdCl bs).cells false]) v6 (flat7 acc):=by
    rcases hv6 with h | ⟨r,m,ex,e,g1,g2,g3⟩
    ·exact .inl h
    ·refine .inr ⟨r,m,ex,e,g1,?_,g3⟩;have hr:=(ges g2).1;rw[List.getElem?_append_left (by omega),hGi r hr (by omega)];exact g2
   have hx:Buf 0 7 (G++[.row (rdCl bs).cells false]) (.slice G.length 0 1 1 true 7) (rdCl bs).cells:=.inr ⟨_,1,true,rfl,by omega,by simp,rfl⟩;obtain⟨v7,H7,a7,b7,k7⟩:=app_own (b:=72) hv6' (by simp;omega) (by omega) hx rfl (by rw[flat7_length];simp[Cl.cells];omega);rw[a7,ob_some];have hfl:flat7 acc++(rdCl bs).cells=flat7 (acc++[rdCl bs]):=by rw[flat7_append];simp[flat7]
   rw[hfl]at b7;have h7i:∀i,i<B->H7[i]? =G[i]? :=fun i hi=>by rw[k7.1 i hi,List.getElem?_append_left (by omega)]
   have h7len:G.length<=H7.length:=by have:=k7.2;simp at this;omega
   have hst:DecSt H7 f1 p q (tailN (rdN bs) v) (bs.drop (rdN bs)):=by
    refine⟨hs.hpq,by rw[h7i q hqB,hGi q hql hs.hpq];exact hs.hq,by rw[h7i p hpB];exact hGp,off_tail (H:=H) hs.ho,low_mono (low_tail hs.hl) (by omega),?_⟩;exact(GH_bs (v':=tailN (rdN bs) v) (cs:=(rdCl bs).cells) hpl (hs.hb.tail _) (off_tail (H:=H) hs.ho) (low_tail hs.hl)).keepB (low_tail hlow) (by rw[hG];exact h7i)
   obtain⟨v8,H8,a8,b8,i8,l8,_⟩:=ih n H7 (tailN (rdN bs) v) v7 (bs.drop (rdN bs)) (acc++[rdCl bs]) (by omega) (by simp;omega) hst (by omega) (low_tail hlow) b7;refine⟨v8,H8,a8,?_,fun i hi hne=>by rw[i8 i hi hne,h7i i hi,hGi i (by omega) hne],by omega,fun e=>by simp[dec,hbs]at e⟩;have:acc++dec (k+1) bs=acc++[rdCl bs]++dec k (bs.drop (rdN bs)):=by simp[dec,hbs]
   rw[this];exact b8
theorem dec_s {N:Nat}{f1 f2 f3:FuncId}(hN:200<N)(hc1:cal f1=true)(hc2:cal f2=true)(hc3:cal f3=true)(h1:OneOk O f1)(h2:TwoOk O f1 f2)(h3:TextOk O f1 f3)(hv:v.one=true)(hl:low H.length v)(hb:BS H v bs) :
  ∃v' H',callDecodeS cal O N f1 f2 f3 v H=some (v',H')/\Buf H.length 7 H' v' (flat7 (dec 200 bs))/\(∀i,i<H.length->H'[i]? =H[i]?)/\(dec 200 bs=[]->v'=.nilSlice):=by
 unfold callDecodeS callDecodeC7S callDecodeC6S callDecodeC5S callDecodeC4S callDecodeC3S callDecodeC2S callDecodeC1S;rw[lbox_one hv,ob_some,ob_some,lzbox_eq,ob_some];simp only;have hq:((H++[IObj.row [v] false])++[IObj.row (IV.nilFunc).cells false])[(H++[IObj.row [v] false]).length]? =some (IObj.row [.nilFunc] false):=by simp[IV.cells]
 rw[lstV_ptr,hq,putO_one rfl (by simp),ob_some,ob_some,ob_some,ob_some];simp only;have hset:(H++[IObj.row [v] false]++[IObj.row (IV.nilFunc).cells false]).set (H++[IObj.row [v] false]).length (IObj.row ([IV.nilFunc].set 0 (.func (.func f1) [] [.ptr H.length 0])) false)=H++[IObj.row [v] false]++[IObj.row [OneF f1 H.length] false]:=by
  rw[List.set_append_right _ _ (Nat.le_refl _),Nat.sub_self];rfl
 rw[hset];generalize hK:H++[IObj.row [v] false]++[IObj.row [OneF f1 H.length] false]=K;have hKlen:K.length=H.length+2:=by rw[←hK];simp
 have hKi:∀i,i<H.length->K[i]? =H[i]? :=fun i hi=>by rw[←hK,List.append_assoc,List.getElem?_append_left hi]
 have hKp:K[H.length]? =some (IObj.row [v] false):=by rw[←hK];simp
 have hKq:K[H.length+1]? =some (IObj.row [OneF f1 H.length] false):=by rw[←hK];simp
 have hlen:(H++[IObj.row [v] false]).length=H.length+1:=by simp
 rw[hlen];obtain⟨v6,H6,a6,b6,i6,l6,n6⟩:=dec_loop (cal:=cal) (O:=O) (N:=N) (p:=H.length) (q:=H.length+1) (B:=H.length+2) (gE0:=fun v6 H=>some (v6,H)) hc1 hc2 hc3 h1 h2 h3 (by omega) (by omega) 200 N K v .nilSlice bs [] (by omega) rfl
  ⟨by omega,hKq,hKp,fun b o n lb ex sz e=>by have:=hl b o n lb ex sz e;omega,low_mono hl (by omega),hb.keepB hl hKi⟩ (by omega) (low_mono hl (by omega)) (.inl ⟨rfl,rfl⟩)
 refine⟨v6,H6,a6,?_,fun i hi=>by rw[i6 i (by omega) (by omega),hKi i hi],n6⟩;rcases b6 with h | ⟨r,m,ex,e,g1,g2,g3⟩
 ·exact .inl h
 ·exact .inr ⟨r,m,ex,e,by omega,g2,g3⟩
end Go.Shade
namespace Go.Shade
variable {H : Heap}
def CS (H:Heap)(v:IV)(l:List Cl):Prop :=
 (v=.nilSlice/\l=[])∨∃b o n lb ex sz,v=.slice b o n lb ex sz/\n<=lb/\(sz=0∨sz=7)/\l.length=n/\∀i c,l[i]? =some c->lloadn H 7 (.ptr b (o+i*7))=some (.agg c.cells)
theorem CS.len {v:IV}{l:List Cl}(h:CS H v l):llen H .slice v=some (.int .i64 (l.length:Nat)):=by
 rcases h with⟨rfl,rfl⟩ | ⟨b,o,n,lb,ex,sz,rfl,h1,h2,h3,h4⟩
 ·rfl
 ·subst h3;rfl
theorem CS.at {H:Heap}{v:IV}{l:List Cl}(h:CS H v l){i:Nat}{c:Cl}(hi:l[i]? =some c):∃b o,lix 7 v (.int .i64 (i:Nat))=some (.ptr b o)/\lloadn H 7 (.ptr b o)=some (.agg c.cells):=by
 rcases h with⟨rfl,rfl⟩ | ⟨b,o,n,lb,ex,sz,rfl,h1,h2,h3,h4⟩
 ·simp at hi
 ·have:=(ges hi).1;refine⟨b,o+i*7,?_,h4 i c hi⟩;rw[lix_slice,if_pos (by omega)];simp
theorem lloadn_keep {H':Heap}{b o n:Nat}(h:H'[b]? =H[b]?):lloadn H' n (.ptr b o)=lloadn H n (.ptr b o):=by rw[lloadn_ptr,lloadn_ptr,h]
theorem CS.keepB {B:Nat}{H':Heap}{v:IV}{l:List Cl}(h:CS H v l)(hl:low B v)(hk:∀i,i<B->H'[i]? =H[i]?):CS H' v l:=by
 rcases h with⟨rfl,rfl⟩ | ⟨b,o',n,lb,ex,sz,rfl,h1,h2,h3,h4⟩
 ·exact .inl ⟨rfl,rfl⟩
 ·exact .inr ⟨b,o',n,lb,ex,sz,rfl,h1,h2,h3,fun i c hi=>by rw[lloadn_keep (hk b (hl _ _ _ _ _ _ rfl))];exact h4 i c hi⟩
theorem flat7_get :∀(l:List Cl) (i:Nat) (c:Cl),l[i]? =some c->((flat7 l).drop (i*7)).take 7=c.cells
 | [],i,c,h=>by simp at h
 | d::l,0,c,h=>by
  simp at h;subst h;simp only[flat7,List.map_cons,List.flatten_cons,Nat.zero_mul,List.drop_zero];rw[List.take_append_of_le_length (by simp[Cl.cells])];rfl
 | d::l,i+1,c,h=>by
  have:=flat7_get l i c (by simpa using h);simp only[flat7,List.map_cons,List.flatten_cons]at this ⊢;have e:(i+1)*7=d.cells.length+i*7:=by simp[Cl.cells];omega
  rw[e,←List.drop_drop,List.drop_left']
  ·exact this
  ·rfl
theorem Buf.calls {B:Nat}{H:Heap}{v:IV}{l:List Cl}(h:Buf B 7 H v (flat7 l)):CS H v l:=by
 rcases h with⟨rfl,e⟩ | ⟨r,n,ex,rfl,g1,g2,g3⟩
 ·refine .inl ⟨rfl,?_⟩;have:=flat7_length l;rw[e]at this;simp at this;exact List.length_eq_zero_iff.1 (by omega)
 ·rw[flat7_length]at g3;refine .inr ⟨r,0,n,n,ex,7,rfl,Nat.le_refl _,.inr rfl,by omega,fun i c hi=> ?_⟩;have hil:=(ges hi).1;rw[lloadn_ptr,g2,ogn_row,if_pos (by rw[flat7_length];omega),Nat.zero_add,flat7_get l i c hi]
theorem call_eq (c d:Cl):leq (.struct [(0,.int),(1,.int),(2,.int),(3,.int),(4,.int),(5,.str),(6,.str)]) (.agg c.cells) (.agg d.cells)=some (decide (c=d)):=by
 have:leq (.struct [(0,.int),(1,.int),(2,.int),(3,.int),(4,.int),(5,.str),(6,.str)]) (.agg c.cells) (.agg d.cells)=some ((c.op==d.op)&&((c.fd==d.fd)&&((c.fl==d.fl)&&((c.n==d.n)&&((c.off==d.off)&&((c.a==d.a)&&((c.b==d.b)&&true))))))):=rfl;rw[this]
 congr 1
 rw[Bool.eq_iff_iff];simp only[Bool.and_eq_true,beq_iff_eq,decide_eq_true_eq,and_true];obtain⟨a1,a2,a3,a4,a5,a6,a7⟩:=c;obtain⟨b1,b2,b3,b4,b5,b6,b7⟩:=d;simp
end Go.Shade
namespace Go.Shade
def EncOk (O:Oracle)(f:FuncId):Prop:=∀(c:Cl) (H:Heap),O f [.agg c.cells] H=if c.may=true then some (.tuple [.slice H.length 0 c.enc.length c.enc.length false 1,.int .i64 0],H++[.row (bytes c.enc) false])else some (.tuple [.nilSlice,.int .i64 22],H)
theorem enc_len {c:Cl}(h:c.may=true):c.enc.length<=135:=by
 obtain⟨_,_,_,_,_,m11,m12⟩:=c.may_iff.1 h;simp only[Cl.enc,List.length_append,List.length_cons,List.length_nil];omega
def encs (l:List Cl):List UInt8:=(l.map Cl.enc).flatten
theorem script_loop {cal:FuncId->Bool}{O:Oracle}{N:Nat}{f:FuncId}(he:EncOk O f){gE0:IV->Heap->Option (IV×Heap)}{B:Nat}{v:IV}{l:List Cl}(hl:low B v)(hl200:l.length<=200):∀(k i n:Nat) (H:Heap) (v4:IV) (acc:List UInt8),i+k=l.length->k<n->B<=H.length->CS H v l->Buf B 1 H v4 (bytes acc)->acc.length<=135*i ->
  ∃v4' H',callScriptC0S cal O N f gE0 n v4 v (.int .i64 (l.length:Nat)) (.int .i64 (i:Nat)) H=(if(l.drop i).all Cl.may=true then gE0 v4' H' else some (.tuple [.nilSlice,.int .i64 22],H'))/\Keep B H H'/\((l.drop i).all Cl.may=true->Buf B 1 H' v4' (bytes (acc++encs (l.drop i))))/\(l.drop i=[]->v4'=v4):=by
 intro k
 induction k with
 | zero =>
  intro i n H v4 acc hi hn hB hc hv hacc;obtain⟨n,rfl⟩:∃m,n=m+1:=⟨n - 1,by omega⟩;have hd:decide (((i:Nat):Int)<(l.length:Nat))=false:=decide_eq_false (by omega);have hdr:l.drop i=[]:=List.drop_of_length_le (by omega);refine⟨v4,H,?_,Keep.refl _ _,(fun _=>by rw[hdr];simpa[encs]using hv),fun _=>rfl⟩;rw[callScriptC0S,lbin_lss,ob_some,hd,cnd_false,hdr];rfl
 | succ k ih =>
  intro i n H v4 acc hi hn hB hc hv hacc;obtain⟨n,rfl⟩:∃m,n=m+1:=⟨n - 1,by omega⟩;have hd:decide (((i:Nat):Int)<(l.length:Nat))=true:=decide_eq_true (by omega);have e1:=List.getElem?_eq_getElem (l:=l) (i:=i) (by omega);obtain⟨b1,o1,x1,y1⟩:=hc.at e1;have d1:l.drop i=l[i]::l.drop (i+1):=List.drop_eq_getElem_cons (by omega);generalize l[i]=c at e1 y1 d1;rw[callScriptC0S,lbin_lss,ob_some,hd,cnd_true,x1,ob_some,y1,ob_some,lzbox_eq,ob_some];simp only;have hz:(H++[IObj.row (IV.cells (.agg [(.int .i64 0),(.int .i64 0),(.int .i64 0),(.int .i64 0),(.int .i64 0),(.str []),(.str [])])) false])[H.length]? =some (.row [(.int .i64 0),(.int .i64 0),(.int .i64 0),(.int .i64 0),(.int .i64 0),(.str []),(.str [])] false):=by rw[at_new];rfl
  rw[lstV_ptr,hz,putO_all (n:=7) (xs:=c.cells) (show c.cells.all IV.one=true from rfl) (show c.cells.length=7 from rfl) (by simp),ob_some,ob_some];simp only;have hset:(H++[IObj.row (IV.cells (.agg [(.int .i64 0),(.int .i64 0),(.int .i64 0),(.int .i64 0),(.int .i64 0),(.str []),(.str [])])) false]).set H.length (.row c.cells false)=H++[.row c.cells false]:=by rw[set_new];rfl
  rw[hset];have hld:lloadn (H++[IObj.row c.cells false]) 7 (.ptr H.length 0)=some (.agg c.cells):=by rw[lloadn_ptr,at_new];rfl
  rw[hld,ob_some,he];by_cases hm:c.may=true
  ·rw[if_pos hm,ob_some];simp only;rw[iextract_tuple,iextract_tuple];simp only[List.getElem?_cons_zero,List.getElem?_cons_succ,ob_some,lbin_neq,decide_true,Bool.not_true,cnd_false];generalize hK:H++[IObj.row c.cells false]=K;have hKlen:K.length=H.length+1:=by rw[←hK];simp
   have hKi:∀i,i<H.length->K[i]? =H[i]? :=fun i hi=>by rw[←hK,List.getElem?_append_left hi]
   have hv':Buf B 1 (K++[.row (bytes c.enc) false]) v4 (bytes acc):=by
    rcases hv with h | ⟨r,m,ex,e,g1,g2,g3⟩
    ·exact .inl h
    ·refine .inr ⟨r,m,ex,e,g1,?_,g3⟩;have hr:=(ges g2).1;rw[List.getElem?_append_left (by omega),hKi r hr];exact g2
   have hx:Buf 0 1 (K++[.row (bytes c.enc) false]) (.slice K.length 0 c.enc.length c.enc.length false 1) (bytes c.enc):=.inr ⟨_,_,false,rfl,by omega,by simp,by simp[bytes_length]⟩;have hel:=enc_len hm;obtain⟨v7,H7,a7,b7,k7⟩:=app_own (b:=1) hv' (by simp;omega) (by omega) hx (bytes_one _) (by rw[bytes_length,bytes_length];omega);rw[a7,ob_some,lbin_add,ob_some,wrap_i64 (by omega) (by omega)];rw[←bytes_append]at b7;have h7i:∀i,i<B->H7[i]? =H[i]? :=fun i hi=>by rw[k7.1 i hi,List.getElem?_append_left (by omega),hKi i (by omega)]
   have h7len:H.length<=H7.length:=by have:=k7.2;simp at this;omega
   obtain⟨v8,H8,a8,k8,b8,_⟩:=ih (i+1) n H7 v7 (acc++c.enc) (by omega) (by omega) (by omega) (hc.keepB hl h7i) b7 (by simp;omega);refine⟨v8,H8,?_,⟨fun i hi=>by rw[k8.1 i hi,h7i i hi],Nat.le_trans h7len k8.2⟩,fun hall=> ?_,fun e=>by rw[d1]at e;cases e⟩
   ·rw[show(((i:Nat):Int)+1)=((i+1:Nat):Int) by omega,a8,d1];simp only[List.all_cons,hm,Bool.true_and]
   ·rw[d1]at hall ⊢;simp only[List.all_cons,hm,Bool.true_and]at hall;have:=b8 hall
    simpa[encs,List.append_assoc]using this
  ·rw[if_neg hm,ob_some];simp only;rw[iextract_tuple,iextract_tuple];have h22:decide ((22:Int)=0)=false:=rfl;simp only[List.getElem?_cons_zero,List.getElem?_cons_succ,ob_some,lbin_neq,h22,Bool.not_false,cnd_true];have hf:(l.drop i).all Cl.may=false:=by
    rw[d1,List.all_cons]
    cases hcm:c.may with
    | true=>exact absurd hcm hm
    | false=>rfl
   refine⟨v4,H++[IObj.row c.cells false],?_,Keep.push _ _ hB,fun hall=> ?_,fun _=>rfl⟩
   ·rw[hf];rfl
   ·rw[hf]at hall;cases hall
def okScr (l:List Cl):Bool:=decide (l.length<=200)&&l.all Cl.may
theorem script_s {cal:FuncId->Bool}{O:Oracle}{N:Nat}{f:FuncId}(he:EncOk O f)(hN:200<N){H:Heap}{v:IV}{l:List Cl}(hl:low H.length v)(hc:CS H v l) :
  ∃v' H',callScriptS cal O N f v H=(if okScr l=true then some (.tuple [v',.int .i64 0],H')else some (.tuple [.nilSlice,.int .i64 22],H'))/\Keep H.length H H'/\(okScr l=true->Buf H.length 1 H' v' (bytes (encs l)))/\(l=[]->v'=.nilSlice):=by
 unfold callScriptS callScriptC6S callScriptC5S callScriptC4S callScriptC3S callScriptC2S callScriptC1S;rw[hc.len,ob_some,lbin_gtr,ob_some];by_cases h200:l.length<=200
 ·have:decide ((200:Int)<(l.length:Nat))=false:=decide_eq_false (by omega);rw[this,cnd_false,ob_some];obtain⟨v4,H4,a,k,b,n4⟩:=script_loop (cal:=cal) (O:=O) (N:=N) he (gE0:=fun v4 H=>some ((.tuple [v4,(.int .i64 0)]),H)) hl h200 l.length 0 N H .nilSlice [] (by omega) (by omega) (Nat.le_refl _) hc (.inl ⟨rfl,rfl⟩) (by simp);have hok:okScr l=l.all Cl.may:=by unfold okScr;rw[decide_eq_true h200,Bool.true_and]
  rw[hok];exact⟨v4,H4,by simpa using a,k,by simpa using b,by simpa using n4⟩
 ·have:decide ((200:Int)<(l.length:Nat))=true:=decide_eq_true (by omega);have hok:okScr l=false:=by unfold okScr;rw[decide_eq_false h200];rfl
  rw[this,cnd_true,hok];exact⟨.nilSlice,H,rfl,Keep.refl _ _,(fun h=>by cases h),fun _=>rfl⟩
end Go.Shade
namespace Go.Shade
variable {H : Heap} {P : Program} {T : Table} {f f1 w : FuncId}
theorem simOf (hT:SoundT P T)(hm:P.follows .mixedOrders=true){lf:LFun}(h0:T f=none)(hl:LoF P f lf)(N:Nat){args:List IV}{H':Heap}{r:IV}(hn:args.length<=lf.n)(hr:lrunK (callable P) (den P T) N lf args H=some (r,H')):SimCall P f args H r H':=by
 obtain⟨⟨fn,h1,h2⟩,_⟩:=hl;exact sim_low hT hm (cal:=callable P) (fun _ h=>h) h0 h1 h2 hn (lrunK_le hr)
abbrev RelT :=List IV->Heap->IV×Heap->Prop
theorem den_tab {S:RelT}(h:T f=some (tab S)){args:List IV}{x:IV×Heap}(hf:∀x y,S args H x->S args H y->x=y)(hs:S args H x):den P T f args H=some x:=by
 rw[den_table h];exact tab_eq hf hs
def WithinR :RelT:=fun args H x=>∃a lo hi,args=[.int .i64 a,.int .i64 lo,.int .i64 hi]/\x=(.bool (decide (lo<=a)&&decide (a<=hi)),H)
theorem simWithin (hT:SoundT P T)(hm:P.follows .mixedOrders=true)(h0:T f=none)(hl:LoF P f callWithin):∀args H x,WithinR args H x->SimCall P f args H x.1 x.2:=by
 rintro args H x ⟨a,lo,hi,rfl,rfl⟩;exact simOf hT hm h0 hl 0 (nble rfl) (by rw[callWithinEq];exact within_s a lo hi H)
theorem okWithin (h:T w=some (tab WithinR)):WithinOk (den P T) w:=fun a lo hi H =>
 den_tab h (fun x y ⟨_,_,_,e,hx⟩ ⟨_,_,_,e',hy⟩=>by cases e;cases e';rw[hx,hy]) ⟨a,lo,hi,rfl,rfl⟩
theorem Cl.inj {c d:Cl}(h:c.cells=d.cells):c=d:=by
 simp only[Cl.cells,List.cons.injEq,IV.int.injEq,IV.str.injEq,true_and,and_true]at h;obtain⟨h1,h2,h3,h4,h5,h6,h7⟩:=h
 cases c;cases d;simp_all
def MayR :RelT:=fun args H x=>∃c:Cl,args=[.agg c.cells]/\x=(.bool c.may,H)
theorem simMay (hT:SoundT P T)(hm:P.follows .mixedOrders=true)(hw:T w=some (tab WithinR))(h0:T f=none)(hl:LoF P f (callMay w)):∀args H x,MayR args H x->SimCall P f args H x.1 x.2:=by
 rintro args H x ⟨c,rfl,rfl⟩;exact(simOf hT hm h0 hl 0 (nble rfl) (by rw[callMayEq];exact may_s (okWithin hw) c H)).drop (fun i o hi=>by rw[List.getElem?_append_left (ges hi).1];exact hi) rfl
theorem okMay (h:T f=some (tab MayR)):MayOk (den P T) f:=fun c H =>
 den_tab h (fun x y ⟨c1,e,hx⟩ ⟨c2,e',hy⟩=>by
  rw[hx,hy];have e1:c.cells=c1.cells:=by simpa using e
  have e2:c.cells=c2.cells:=by simpa using e'
  rw[←Cl.inj e1,←Cl.inj e2]) ⟨c,rfl,rfl⟩
def EncR :RelT:=fun args H x=>∃c:Cl,args=[.agg c.cells]/\x=if c.may=true then(.tuple [.slice H.length 0 c.enc.length c.enc.length false 1,.int .i64 0],H++[.row (bytes c.enc) false])else(.tuple [.nilSlice,.int .i64 22],H)
theorem VR_tuple2 {m:Mp}{a b a':IV}{u:Value}(h:VR m (.tuple [a,b]) u)(k:∀u,VR m a u->VR m a' u):VR m (.tuple [a',b]) u:=by
 simp only[VR,VRs]at h ⊢;obtain⟨l,h1,v,vs,h2,h3,h4⟩:=h;exact⟨l,h1,v,vs,h2,k v h3,h4⟩
theorem simEnc (hT:SoundT P T)(hm:P.follows .mixedOrders=true)(hw:T w=some (tab MayR))(h0:T f=none)(hl:LoF P f (callEncode w)):∀args H x,EncR args H x->SimCall P f args H x.1 x.2:=by
 rintro args H x ⟨c,rfl,rfl⟩;by_cases hc:c.may=true
 ·rw[if_pos hc];obtain⟨v,H',h1,h2,h3⟩:=enc_yes (cal:=callable P) (N:=0) (okMay hw) hc H;have hs:=simOf hT hm h0 hl 0 (args:=[.agg c.cells]) (nble rfl) (by rw[callEncodeEq];exact h1);have hk:∀(i:Nat) o,H[i]? =some o->H'[i]? =some o:=fun i o hi=>by
   have hlt:=(ges hi).1;rw[h3.1 i (by omega),List.getElem?_append_left hlt];exact hi
  have hne:c.enc≠ []:=by simp[Cl.enc]
  rcases h2 with⟨_,e⟩ | ⟨r,n,ex,rfl,g1,g2,g3⟩
  ·exact absurd (by simpa[bytes]using e) hne
  ·rw[bytes_length,Nat.mul_one]at g3;subst g3;refine SimCall.one (r':=.tuple [.slice H.length 0 c.enc.length c.enc.length false 1,.int .i64 0]) (hs.weak (r':=.tuple [.slice r 0 c.enc.length c.enc.length false 1,.int .i64 0]) fun m u hu=>VR_tuple2 hu fun u h=>VR_exact h) hk g2 (by omega) (bytes_inB _ _) ?_ ?_
   ·simp only[ren,rens,if_true]
   ·simp only[inB,inBs,Bool.and_true,decide_eq_true_eq];omega
 ·have hf:c.may=false:=by simpa using hc
  rw[if_neg hc];exact(simOf hT hm h0 hl 0 (nble rfl) (by rw[callEncodeEq];exact enc_no (okMay hw) hf H)).drop (fun i o hi=>by rw[List.getElem?_append_left (ges hi).1];exact hi) rfl
theorem okEnc (h:T f=some (tab EncR)):EncOk (den P T) f:=fun c H=>by
 have:=den_tab (P:=P) h (args:=[.agg c.cells]) (H:=H) (fun x y ⟨c1,e,hx⟩ ⟨c2,e',hy⟩=>by
  rw[hx,hy];have e1:c.cells=c1.cells:=by simpa using e
  have e2:c.cells=c2.cells:=by simpa using e'
  rw[←Cl.inj e1,←Cl.inj e2]) ⟨c,rfl,rfl⟩
 rw[this];split<;>rfl
theorem BS.inj {v:IV}{bs cs:List UInt8}(h:BS H v bs)(k:BS H v cs):bs=cs:=by
 rcases h with⟨rfl,rfl⟩ | ⟨b,o,n,lb,ex,sz,rfl,h1,h2,h3,h4⟩
 ·rcases k with⟨_,rfl⟩ | ⟨b,o,n,lb,ex,sz,e,_⟩
  ·rfl
  ·cases e
 ·rcases k with⟨e,_⟩ | ⟨b',o',n',lb',ex',sz',e,k1,k2,k3,k4⟩
  ·cases e
  ·cases e
   apply List.ext_getElem (by omega);intro i hi hi';obtain⟨cells,ro,g1,g2⟩:=h4 (by omega);obtain⟨cells',ro',g1',g2'⟩:=k4 (by omega);rw[g1]at g1';cases g1'
   have a:=g2 i (by omega);have b':=g2' i (by omega);rw[a]at b';simp only[Option.some.injEq,IV.int.injEq,true_and,List.getD_eq_getElem?_getD,List.getElem?_eq_getElem hi,List.getElem?_eq_getElem hi',Option.getD_some]at b';exact UInt8.toNat_inj.1 (by omega)
theorem BS.inB {H:Heap}{v:IV}{bs:List UInt8}(h:BS H v bs)(hl:low H.length v)(k:Nat):Shade.inB H.length (tailN k v)=true:=by
 rcases h with⟨rfl,rfl⟩ | ⟨b,o,n,lb,ex,sz,rfl,_⟩
 ·rfl
 ·simp only[tailN,Shade.inB,decide_eq_true_eq];exact hl _ _ _ _ _ _ rfl
def OneR :RelT:=fun args H x=>∃p v bs,args=[.ptr p 0]/\H[p]? =some (.row [v] false)/\BS H v bs/\x=(.int .i64 ((bs.getD 0 0).toNat:Int),H.set p (.row [tailN 1 v] false))
theorem simOne (hT:SoundT P T)(hm:P.follows .mixedOrders=true)(h0:T f=none)(hl:LoF P f callDecode1):∀args H x,OneR args H x->SimCall P f args H x.1 x.2:=by
 rintro args H x ⟨p,v,bs,rfl,hp,hb,rfl⟩;exact simOf hT hm h0 hl 0 (nble rfl) (by rw[callDecode1Eq];exact one_s hp hb)
theorem okOne (h:T f=some (tab OneR)):OneOk (den P T) f:=fun H p v bs hp hb =>
 den_tab h (fun x y ⟨p1,v1,b1,e1,i1,j1,hx⟩ ⟨p2,v2,b2,e2,i2,j2,hy⟩=>by
  cases e1;cases e2
  rw[i1]at i2;cases i2
  rw[hx,hy,j1.inj j2]) ⟨p,v,bs,rfl,hp,hb,rfl⟩
def TwoR (f1:FuncId):RelT:=fun args H x=>∃p q v bs,args=[.ptr q 0]/\(q≠p/\H[q]? =some (.row [OneF f1 p] false)/\H[p]? =some (.row [v] false)/\off H p v/\low H.length v/\BS H v bs) /\
 x=(.int .i64 (((bs.getD 0 0).toNat:Int)*256+((bs.getD 1 0).toNat:Int) - 256),H.set p (.row [tailN 2 v] false))
theorem simTwo (hT:SoundT P T)(hm:P.follows .mixedOrders=true)(hc:callable P f1=true)(h1:T f1=some (tab OneR))(h0:T f=none)(hl:LoF P f callDecode2):∀args H x,TwoR f1 args H x->SimCall P f args H x.1 x.2:=by
 rintro args H x ⟨p,q,v,bs,rfl,⟨a1,a2,a3,a4,a5,a6⟩,rfl⟩;exact simOf hT hm h0 hl 0 (nble rfl) (by rw[callDecode2Eq];exact two_s hc (okOne h1) a2 a3 a1 a4 a6)
theorem oneF_inj {f1 p p':Nat}(h:OneF f1 p=OneF f1 p'):p=p':=by
 simp only[OneF,IV.func.injEq,List.cons.injEq,IV.ptr.injEq,and_true,true_and]at h;exact h
theorem okTwo (h:T f=some (tab (TwoR f1))):TwoOk (den P T) f1 f:=fun H p q v bs a1 a2 a3 a4 a5 a6 =>
 den_tab h (fun x y ⟨p1,q1,v1,b1,e1,⟨_,i1,j1,_,_,k1⟩,hx⟩ ⟨p2,q2,v2,b2,e2,⟨_,i2,j2,_,_,k2⟩,hy⟩=>by
  cases e1;cases e2
  rw[i1]at i2;have:p1=p2:=oneF_inj (by simpa using i2);subst this;rw[j1]at j2;cases j2
  rw[hx,hy,k1.inj k2]) ⟨p,q,v,bs,rfl,⟨a1,a2,a3,a4,a5,a6⟩,rfl⟩
def TextR (f1:FuncId):RelT:=fun args H x=>∃p q v bs,args=[.ptr q 0]/\(q≠p/\H[q]? =some (.row [OneF f1 p] false)/\H[p]? =some (.row [v] false)/\off H p v/\low H.length v/\BS H v bs) /\
 x=(.str (rdText bs),H.set p (.row [tailN (TextN bs) v] false))
theorem simText (hT:SoundT P T)(hm:P.follows .mixedOrders=true)(hc:callable P f1=true)(h1:T f1=some (tab OneR))(h0:T f=none)(hl:LoF P f callDecode3):∀args H x,TextR f1 args H x->SimCall P f args H x.1 x.2:=by
 rintro args H x ⟨p,q,v,bs,rfl,⟨a1,a2,a3,a4,a5,a6⟩,rfl⟩;obtain⟨H',h2,h3⟩:=text_s (cal:=callable P) (N:=65) (by omega) hc (okOne h1) a1 a2 a3 a4 a5 a6;have hs:=simOf hT hm h0 hl 65 (args:=[.ptr q 0]) (nble rfl) (by rw[callDecode3Eq];exact h2);refine hs.upd (fun i x hi=> ?_) ?_ rfl
 ·have hlt:i<H.length:=by have:=(ges hi).1;simpa using this
  rw[h3.1 i hlt];exact hi
 ·simp only[inBO,inBs,a6.inB a5,Bool.and_self]
theorem okText (h:T f=some (tab (TextR f1))):TextOk (den P T) f1 f:=fun H p q v bs a1 a2 a3 a4 a5 a6 =>
 den_tab h (fun x y ⟨p1,q1,v1,b1,e1,⟨_,i1,j1,_,_,k1⟩,hx⟩ ⟨p2,q2,v2,b2,e2,⟨_,i2,j2,_,_,k2⟩,hy⟩=>by
  cases e1;cases e2
  rw[i1]at i2;have:p1=p2:=oneF_inj (by simpa using i2);subst this;rw[j1]at j2;cases j2
  rw[hx,hy,k1.inj k2]) ⟨p,q,v,bs,rfl,⟨a1,a2,a3,a4,a5,a6⟩,rfl⟩
def DecR :RelT:=fun args H x=>∃v bs,args=[v]/\(v.one=true/\low H.length v/\BS H v bs) /\
 x=if dec 200 bs=[]then(.nilSlice,H)else(.slice H.length 0 (dec 200 bs).length (dec 200 bs).length false 7,H++[.row (flat7 (dec 200 bs)) false])
theorem flat7_inB (l:List Cl)(n:Nat):inBs n (flat7 l)=true:=by
 induction l with
 | nil=>rfl
 | cons c l ih =>
  refine inBs_of fun i v hv=> ?_;simp only[flat7,List.map_cons,List.flatten_cons]at hv ih;rw[List.getElem?_append]at hv;split at hv
  ·have:∀x∈c.cells,inB n x=true:=by
    intro x hx;simp only[Cl.cells,List.mem_cons,List.not_mem_nil,or_false]at hx;rcases hx with rfl | rfl | rfl | rfl | rfl | rfl | rfl<;>rfl
   exact this v (List.mem_of_getElem? hv)
  ·exact inBs_get ih hv
theorem simDec (hT:SoundT P T)(hm:P.follows .mixedOrders=true){f2 f3:FuncId}(hc1:callable P f1=true)(hc2:callable P f2=true)(hc3:callable P f3=true)(h1:T f1=some (tab OneR))(h2:T f2=some (tab (TwoR f1)))(h3:T f3=some (tab (TextR f1)))(h0:T f=none)(hl:LoF P f (callDecode f1 f2 f3)):∀args H x,DecR args H x->SimCall P f args H x.1 x.2:=by
 rintro args H x ⟨v,bs,rfl,⟨a1,a2,a3⟩,rfl⟩;obtain⟨v',H',e,hb,hk,hn⟩:=dec_s (cal:=callable P) (N:=201) (by omega) hc1 hc2 hc3 (okOne h1) (okTwo h2) (okText h3) a1 a2 a3;have hs:=simOf hT hm h0 hl 201 (args:=[v]) (nble rfl) (by rw[callDecodeEq];exact e);have hk':∀(i:Nat) o,H[i]? =some o->H'[i]? =some o:=fun i o hi=>by rw[hk i (ges hi).1];exact hi
 by_cases h0':dec 200 bs=[]
 ·rw[if_pos h0'];have:=hn h0';subst this;exact hs.drop hk' rfl
 ·rw[if_neg h0'];rcases hb with⟨rfl,e0⟩ | ⟨r,n,ex,rfl,g1,g2,g3⟩
  ·have:=flat7_length (dec 200 bs);rw[e0]at this;simp at this;exact absurd (List.length_eq_zero_iff.1 (by omega)) h0'
  ·rw[flat7_length]at g3;have hn:n=(dec 200 bs).length:=by omega
   subst hn;refine SimCall.one (r':=.slice H.length 0 (dec 200 bs).length (dec 200 bs).length false 7) (hs.weak (r':=.slice r 0 (dec 200 bs).length (dec 200 bs).length false 7) fun m u h=>VR_exact h) hk' g2 g1 (flat7_inB _ _) ?_ ?_
   ·simp only[ren,if_true]
   ·simp only[inB,decide_eq_true_eq];omega
def DecOk (O:Oracle)(f:FuncId):Prop:=∀(H:Heap) (v:IV) (bs:List UInt8),v.one=true->low H.length v->BS H v bs->O f [v] H=if dec 200 bs=[]then some (.nilSlice,H)else some (.slice H.length 0 (dec 200 bs).length (dec 200 bs).length false 7,H++[.row (flat7 (dec 200 bs)) false])
theorem okDec (h:T f=some (tab DecR)):DecOk (den P T) f:=fun H v bs a1 a2 a3=>by
 have:=den_tab (P:=P) h (args:=[v]) (H:=H) (fun x y ⟨v1,b1,e1,⟨_,_,j1⟩,hx⟩ ⟨v2,b2,e2,⟨_,_,j2⟩,hy⟩=>by
  cases e1;cases e2
  rw[hx,hy,j1.inj j2]) ⟨v,bs,rfl,⟨a1,a2,a3⟩,rfl⟩
 rw[this];split<;>rfl
theorem CS.inj {H:Heap}{v:IV}{l k:List Cl}(h:CS H v l)(g:CS H v k):l=k:=by
 rcases h with⟨rfl,rfl⟩ | ⟨b,o,n,lb,ex,sz,rfl,h1,h2,h3,h4⟩
 ·rcases g with⟨_,rfl⟩ | ⟨b,o,n,lb,ex,sz,e,_⟩
  ·rfl
  ·cases e
 ·rcases g with⟨e,_⟩ | ⟨b',o',n',lb',ex',sz',e,k1,k2,k3,k4⟩
  ·cases e
  ·cases e
   apply List.ext_getElem (by omega);intro i hi hi';have a:=h4 i _ (List.getElem?_eq_getElem hi);have b':=k4 i _ (List.getElem?_eq_getElem hi');rw[a]at b';simp only[Option.some.injEq,IV.agg.injEq]at b';exact Cl.inj b'
def SameR :RelT:=fun args H x=>∃v1 v2 l1 l2,args=[v1,v2]/\(CS H v1 l1/\CS H v2 l2/\l1.length<4611686018427387904)/\x=(.bool (decide (l1=l2)),H)
def SameOk (O:Oracle)(f:FuncId):Prop:=∀(H:Heap) (v1 v2:IV) (l1 l2:List Cl),CS H v1 l1->CS H v2 l2->l1.length<4611686018427387904->O f [v1,v2] H=some (.bool (decide (l1=l2)),H)
theorem okSame (h:T f=some (tab SameR)):SameOk (den P T) f:=fun H v1 v2 l1 l2 a1 a2 a3 =>
 den_tab (P:=P) h (args:=[v1,v2]) (H:=H) (fun x y ⟨_,_,b1,c1,e1,⟨i1,j1,_⟩,hx⟩ ⟨_,_,b2,c2,e2,⟨i2,j2,_⟩,hy⟩=>by
  cases e1;cases e2
  rw[hx,hy,i1.inj i2,j1.inj j2]) ⟨v1,v2,l1,l2,rfl,⟨a1,a2,a3⟩,rfl⟩
def scrX (H:Heap)(l:List Cl):IV×Heap :=
 if okScr l=true then(if l=[]then(.tuple [.nilSlice,.int .i64 0],H)else(.tuple [.slice H.length 0 (encs l).length (encs l).length false 1,.int .i64 0],H++[.row (bytes (encs l)) false]))else(.tuple [.nilSlice,.int .i64 22],H)
def ScriptR :RelT:=fun args H x=>∃v l,args=[v]/\(low H.length v/\CS H v l)/\x=scrX H l
theorem simScript (hT:SoundT P T)(hm:P.follows .mixedOrders=true){e:FuncId}(he:T e=some (tab EncR))(h0:T f=none)(hl:LoF P f (callScript e)):∀args H x,ScriptR args H x->SimCall P f args H x.1 x.2:=by
 rintro args H x ⟨v,l,rfl,⟨a1,a2⟩,rfl⟩;obtain⟨v',H',e1,hk,hb,hn⟩:=script_s (cal:=callable P) (N:=201) (okEnc he) (by omega) a1 a2;have hk':∀(i:Nat) o,H[i]? =some o->H'[i]? =some o:=fun i o hi=>by rw[hk.1 i (ges hi).1];exact hi
 unfold scrX;by_cases hok:okScr l=true
 ·rw[if_pos hok]at e1 ⊢;have hs:=simOf hT hm h0 hl 201 (args:=[v]) (nble rfl) (by rw[callScriptEq];exact e1);by_cases hnil:l=[]
  ·rw[if_pos hnil];have:=hn hnil;subst this;exact hs.drop hk' rfl
  ·rw[if_neg hnil];rcases hb hok with⟨_,e0⟩ | ⟨r,n,ex,rfl,g1,g2,g3⟩
   ·exfalso
    obtain⟨c,l',rfl⟩:=List.exists_cons_of_ne_nil hnil;have:=congrArg List.length e0;simp[bytes_length,encs,Cl.enc]at this
   ·rw[bytes_length,Nat.mul_one]at g3;subst g3;refine SimCall.one (r':=.tuple [.slice H.length 0 (encs l).length (encs l).length false 1,.int .i64 0]) (hs.weak (r':=.tuple [.slice r 0 (encs l).length (encs l).length false 1,.int .i64 0]) fun m u hu=>VR_tuple2 hu fun u h=>VR_exact h) hk' g2 g1 (bytes_inB _ _) ?_ ?_
    ·simp only[ren,rens,if_true]
    ·simp only[inB,inBs,Bool.and_true,decide_eq_true_eq];omega
 ·rw[if_neg hok]at e1 ⊢;have hs:=simOf hT hm h0 hl 201 (args:=[v]) (nble rfl) (by rw[callScriptEq];exact e1);exact hs.drop hk' rfl
def ScriptOk (O:Oracle)(f:FuncId):Prop:=∀(H:Heap) (v:IV) (l:List Cl),low H.length v->CS H v l->O f [v] H=some (scrX H l)
theorem okScript (h:T f=some (tab ScriptR)):ScriptOk (den P T) f:=fun H v l a1 a2 =>
 den_tab (P:=P) h (args:=[v]) (H:=H) (fun x y ⟨_,l1,e1,⟨_,j1⟩,hx⟩ ⟨_,l2,e2,⟨_,j2⟩,hy⟩=>by
  cases e1;cases e2
  rw[hx,hy,j1.inj j2]) ⟨v,l,rfl,⟨a1,a2⟩,rfl⟩
end Go.Shade
namespace Go.Shade
end Go.Shade
namespace Go.Shade
theorem ownBS {H:Heap}{r:Nat}{l:List UInt8}{ex:Bool}(h:H[r]? =some (.row (bytes l) false)):BS H (.slice r 0 l.length l.length ex 1) l:=by
 refine .inr ⟨r,0,l.length,l.length,ex,1,rfl,Nat.le_refl _,.inr rfl,rfl,fun _=>⟨bytes l,false,h,fun i hi=> ?_⟩⟩;simp[bytes,hi,List.getD_eq_getElem?_getD]
theorem lowAt {B r o n lb sz:Nat}{ex:Bool}(h:r<B):low B (.slice r o n lb ex sz):=by
 intro b o n lb ex sz e;cases e;exact h
end Go.Shade
namespace Go.Shade
theorem rdText_len (bs:List UInt8):(rdText bs).length<64:=by
 simp only[rdText,List.length_map,List.length_range];omega
theorem rdCl_may (bs:List UInt8):(rdCl bs).may=true:=by
 rw[Cl.may_iff];have h3:=(bs.getD 3 0).toNat_lt;have h4:=(bs.getD 4 0).toNat_lt;have h5:=(bs.getD 5 0).toNat_lt;have h6:=(bs.getD 6 0).toNat_lt;have a:=rdText_len (rd1 bs);have b:=rdText_len (rd2 bs);simp only[rdCl];omega
theorem dec_may :∀(k:Nat) (bs:List UInt8),(dec k bs).all Cl.may=true
 | 0,_=>rfl
 | k+1,bs=>by
  simp only[dec];split
  ·rfl
  ·simp only[List.all_cons,rdCl_may,dec_may k,Bool.and_self]
theorem dec_len :∀(k:Nat) (bs:List UInt8),(dec k bs).length<=k
 | 0,_=>Nat.le_refl _
 | k+1,bs=>by
  simp only[dec];split
  ·simp
  ·have:=dec_len k (bs.drop (rdN bs));simp;omega
def AwakeOk (O:Oracle)(f:FuncId):Prop:=∀H:Heap,O f [] H=some (.bool true,H)
end Go.Shade
namespace Go.Shade
theorem ub_val {x:Int}(h1:0<=x)(h2:x<256):((ub x).toNat:Int)=x:=by
 simp only[ub,UInt8.toNat_ofNat'];omega
theorem ub_mod (x:Int):((ub x).toNat:Int)=x % 256:=by
 simp only[ub,UInt8.toNat_ofNat'];omega
theorem rdText_app (l rest:List UInt8)(h:l.length<64):rdText (ub l.length::l++rest)=l/\TextN (ub l.length::l++rest)=l.length+1:=by
 have hn:(ub (l.length:Nat)).toNat=l.length:=by have:=ub_val (x:=(l.length:Nat)) (by omega) (by omega);omega
 have h0:(ub (l.length:Nat)::l++rest).getD 0 0=ub (l.length:Nat):=by simp
 constructor
 ·unfold rdText;rw[h0,hn,Nat.mod_eq_of_lt h];apply List.ext_getElem (by simp);intro i h1 h2;simp[List.getD_eq_getElem?_getD,List.getElem?_append,h2]
 ·unfold TextN;rw[h0,hn,Nat.mod_eq_of_lt h]
theorem rd_enc {c:Cl}(h:c.may=true)(rest:List UInt8):rdCl (c.enc++rest)=c/\(c.enc++rest).drop (rdN (c.enc++rest))=rest:=by
 obtain⟨⟨m1,m2⟩,⟨m3,m4⟩,⟨m5,m6⟩,⟨m7,m8⟩,⟨m9,m10⟩,m11,m12⟩:=c.may_iff.1 h;have he:c.enc++rest=[ub (c.op - 1),ub (c.fd+4),ub c.fl,ub ((c.n+256) / 256),ub (c.n+256),ub ((c.off+256) / 256),ub (c.off+256)]++(ub c.a.length::c.a++(ub c.b.length::c.b++rest)):=by
  simp[Cl.enc,List.append_assoc]
 have e1:rd1 (c.enc++rest)=ub c.a.length::c.a++(ub c.b.length::c.b++rest):=by rw[he];rfl
 obtain⟨t1,n1⟩:=rdText_app c.a (ub c.b.length::c.b++rest) (by omega);have e2:rd2 (c.enc++rest)=ub c.b.length::c.b++rest:=by
  unfold rd2;rw[e1,n1];simp
 obtain⟨t2,n2⟩:=rdText_app c.b rest (by omega);constructor
 ·have b0:=ub_val (x:=c.op - 1) (by omega) (by omega);have b1:=ub_val (x:=c.fd+4) (by omega) (by omega);have b2:=ub_val (x:=c.fl) (by omega) (by omega);have b3:=ub_val (x:=(c.n+256) / 256) (by omega) (by omega);have b4:=ub_mod (c.n+256);have b5:=ub_val (x:=(c.off+256) / 256) (by omega) (by omega);have b6:=ub_mod (c.off+256);have g:∀i,(c.enc++rest).getD i 0=([ub (c.op - 1),ub (c.fd+4),ub c.fl,ub ((c.n+256) / 256),ub (c.n+256),ub ((c.off+256) / 256),ub (c.off+256)]++(ub c.a.length::c.a++(ub c.b.length::c.b++rest))).getD i 0:=fun i=>by rw[he]
  have g0:(c.enc++rest).getD 0 0=ub (c.op - 1):=by rw[g];rfl
  have g1:(c.enc++rest).getD 1 0=ub (c.fd+4):=by rw[g];rfl
  have g2:(c.enc++rest).getD 2 0=ub c.fl:=by rw[g];rfl
  have g3:(c.enc++rest).getD 3 0=ub ((c.n+256) / 256):=by rw[g];rfl
  have g4:(c.enc++rest).getD 4 0=ub (c.n+256):=by rw[g];rfl
  have g5:(c.enc++rest).getD 5 0=ub ((c.off+256) / 256):=by rw[g];rfl
  have g6:(c.enc++rest).getD 6 0=ub (c.off+256):=by rw[g];rfl
  unfold rdCl;rw[g0,g1,g2,g3,g4,g5,g6,e1,e2,t1,t2,b0,b1,b2,b3,b4,b5,b6];obtain⟨op,fd,fl,n,off,a,b⟩:=c;simp only[Cl.mk.injEq,and_true];simp only at *;omega
 ·unfold rdN;rw[e1,e2,n1,n2];have hl:c.enc.length=7+(c.a.length+1)+(c.b.length+1):=by simp[Cl.enc];omega
  rw[←hl,List.drop_left]
theorem enc_ne (c:Cl):c.enc≠ []:=by simp[Cl.enc]
theorem dec_encs :∀(l:List Cl) (k:Nat) (rest:List UInt8),l.all Cl.may=true->l.length<=k->dec k (encs l++rest)=l++dec (k - l.length) rest
 | [],k,rest,_,_=>by simp[encs]
 | c::l,0,rest,_,hk=>by simp at hk
 | c::l,k+1,rest,h,hk=>by
  simp only[List.all_cons,Bool.and_eq_true]at h;obtain⟨r1,r2⟩:=rd_enc h.1 (encs l++rest);have he:encs (c::l)++rest=c.enc++(encs l++rest):=by simp[encs,List.append_assoc]
  have hne:c.enc++(encs l++rest)≠ []:=by simp[enc_ne]
  rw[he,dec,if_neg hne,r1,r2,dec_encs l k rest h.2 (by simpa using hk)];simp
end Go.Shade
namespace Go.Shade
theorem lowNil {B:Nat}:low B .nilSlice:=fun _ _ _ _ _ _ e=>by cases e
theorem okScr_len {l:List Cl}(h:okScr l=true):l.length<=200/\l.all Cl.may=true:=by
 unfold okScr at h;simpa using h
theorem okScr_dec (bs:List UInt8):okScr (dec 200 bs)=true:=by
 unfold okScr;rw[decide_eq_true (dec_len 200 bs),dec_may];rfl
end Go.Shade
namespace Go.Shade
variable {B : Nat} {H : Heap} {v : IV}
theorem BS.cells {H:Heap}{v:IV}{l:List UInt8}(h:BS H v l):xlen v=some l.length/\lxcells H 1 v l.length=some (bytes l):=by
 rcases h with⟨rfl,rfl⟩ | ⟨b,o,n,lb,ex,sz,rfl,h1,h2,h3,h4⟩
 ·exact⟨rfl,rfl⟩
 ·subst h3;refine⟨rfl,?_⟩;show lsl H 1 (.slice b o l.length lb ex sz) l.length=some (bytes l);simp only[lsl,Nat.le_refl,if_true];by_cases h0:l.length=0
  ·rw[if_pos h0,List.length_eq_zero_iff.1 h0];rfl
  ·rw[if_neg h0];obtain⟨cells,ro,g1,g2⟩:=h4 (by omega);have hlast:=g2 (l.length - 1) (by omega);have hlen:=(ges hlast).1;simp only[irow,g1,Nat.mul_one];rw[if_pos (by omega)]
   congr 1
   apply List.ext_getElem?;intro i;by_cases hi:i<l.length
   ·rw[List.getElem?_take,if_pos hi,List.getElem?_drop,g2 i hi];simp[bytes,hi,List.getD_eq_getElem?_getD]
   ·rw[List.getElem?_eq_none (by simp;omega),List.getElem?_eq_none (by simp[bytes];omega)]
theorem app_bs {x:IV}{acc bs:List UInt8}(h:Buf B 1 H v (bytes acc))(hB:B<=H.length)(hx:BS H x bs)(hb:acc.length+bs.length<=140737488355328):∃v' H',lapp H 1 1 v x=some (v',H')/\Buf B 1 H' v' (bytes (acc++bs))/\Keep B H H':=by
 obtain⟨e1,e2⟩:=hx.cells;rw[bytes_append];exact app_buf h hB (by omega) e1 e2 (by simp[bytes_length]) (bytes_one _) (by simp[bytes_length];omega)
theorem flat7_one (l:List Cl):(flat7 l).all IV.one=true:=by
 induction l with
 | nil=>rfl
 | cons c l ih=>simp only[flat7,List.map_cons,List.flatten_cons,List.all_append]at ih ⊢;rw[ih];rfl
theorem BS.keep' {H':Heap}{bs:List UInt8}(h:BS H v bs)(hl:low B v)(k:Keep B H H'):BS H' v bs:=h.keepB hl k.1
theorem CS.keep' {H':Heap}{l:List Cl}(h:CS H v l)(hl:low B v)(k:Keep B H H'):CS H' v l:=h.keepB hl k.1
theorem Buf.bs {B:Nat}{H:Heap}{v:IV}{bs:List UInt8}(h:Buf B 1 H v (bytes bs)):BS H v bs/\v.one=true/\low H.length v:=by
 rcases h with⟨rfl,e⟩ | ⟨r,n,ex,rfl,g1,g2,g3⟩
 ·have:bs=[]:=by cases bs<;>simp[bytes]at e ⊢
  subst this;exact⟨.inl ⟨rfl,rfl⟩,rfl,lowNil⟩
 ·rw[bytes_length,Nat.mul_one]at g3;subst g3;exact⟨ownBS g2,rfl,lowAt (ges g2).1⟩
theorem Buf.low {B s:Nat}{H:Heap}{v:IV}{cs:List IV}(h:Buf B s H v cs):Shade.low H.length v:=by
 rcases h with⟨rfl,e⟩ | ⟨r,n,ex,rfl,g1,g2,g3⟩
 ·exact lowNil
 ·exact lowAt (ges g2).1
end Go.Shade
namespace Go.Shade
theorem CS.take {H:Heap}{v:IV}{l:List Cl}(h:CS H v l){n:Nat}(hn:n<=l.length):∃v',lslice H (.slice 7) v none (some (.int .i64 (n:Nat))) none=some v'/\CS H v' (l.take n):=by
 rcases h with⟨rfl,rfl⟩ | ⟨b,o,m,lb,ex,sz,rfl,h1,h2,h3,h4⟩
 ·simp at hn;subst hn;exact⟨_,rfl,.inl ⟨rfl,rfl⟩⟩
 ·refine⟨.slice b (o+0*7) (n - 0) (lb - 0) ex sz,?_,.inr ⟨b,o+0*7,n - 0,lb - 0,ex,sz,rfl,by omega,h2,by simp;omega,fun i c hi=> ?_⟩⟩
  ·simp only[lslice,bnd];rw[if_pos (by omega)];simp only[Option.bind_some,Int.toNat_natCast];rw[if_neg (by omega),if_pos (by omega)]
  ·rw[List.getElem?_take]at hi;split at hi
   ·have:=h4 i c hi;simpa using this
   ·cases hi
theorem CS.drop {H:Heap}{v:IV}{l:List Cl}(h:CS H v l){n:Nat}(hn:n<=l.length):∃v',lslice H (.slice 7) v (some (.int .i64 (n:Nat))) none none=some v'/\CS H v' (l.drop n):=by
 rcases h with⟨rfl,rfl⟩ | ⟨b,o,m,lb,ex,sz,rfl,h1,h2,h3,h4⟩
 ·simp at hn;subst hn;exact⟨_,rfl,.inl ⟨rfl,rfl⟩⟩
 ·refine⟨.slice b (o+n*7) (m - n) (lb - n) ex sz,?_,.inr ⟨b,o+n*7,m - n,lb - n,ex,sz,rfl,by omega,h2,by simp;omega,fun i c hi=> ?_⟩⟩
  ·simp only[lslice,bnd];rw[if_pos (by omega)];simp only[Option.bind_some,Int.toNat_natCast];rw[if_neg (by omega),if_pos (by omega)]
  ·rw[List.getElem?_drop]at hi;have:=h4 (n+i) c hi;rw[Nat.add_mul,←Nat.add_assoc]at this;exact this
theorem BS.take {H:Heap}{v:IV}{l:List UInt8}(h:BS H v l){n:Nat}(hn:n<=l.length):∃v',lslice H (.slice 1) v none (some (.int .i64 (n:Nat))) none=some v'/\BS H v' (l.take n):=by
 rcases h with⟨rfl,rfl⟩ | ⟨b,o,m,lb,ex,sz,rfl,h1,h2,h3,h4⟩
 ·simp at hn;subst hn;exact⟨_,rfl,.inl ⟨rfl,rfl⟩⟩
 ·refine⟨.slice b (o+0*1) (n - 0) (lb - 0) ex sz,?_,.inr ⟨b,o+0*1,n - 0,lb - 0,ex,sz,rfl,by omega,h2,by simp;omega,fun hp=> ?_⟩⟩
  ·simp only[lslice,bnd];rw[if_pos (by omega)];simp only[Option.bind_some,Int.toNat_natCast];rw[if_neg (by omega),if_pos (by omega)]
  ·obtain⟨cells,ro,g1,g2⟩:=h4 (by omega);refine⟨cells,ro,g1,fun i hi=> ?_⟩;have:=g2 i (by omega);have e:(l.take n).getD i 0=l.getD i 0:=by simp[List.getD_eq_getElem?_getD,List.getElem?_take,show i<n by omega]
   rw[e];simpa using this
theorem BS.b2s {H:Heap}{v:IV}{l:List UInt8}(h:BS H v l):lb2s H v=some (.str l):=by
 obtain⟨e1,e2⟩:=h.cells;rcases h with⟨rfl,rfl⟩ | ⟨b,o,m,lb,ex,sz,rfl,h1,h2,h3,h4⟩
 ·rfl
 ·have e2':lsl H 1 (.slice b o m lb ex sz) m=some (bytes l):=by rw[h3]at e2;exact e2
  simp only[lb2s,e2',Option.bind_some,ibytes_bytes]
theorem dec_nil' (k:Nat):dec k []=[]:=by cases k<;>rfl
theorem apart {a b:Cl}(ha:a.may=true)(hb:b.may=true)(h:a.enc.length<=b.enc.length)(e:a.enc=b.enc.take a.enc.length):a=b:=by
 obtain⟨r1,_⟩:=rd_enc ha (b.enc.drop a.enc.length);obtain⟨r2,_⟩:=rd_enc hb [];rw[List.append_nil]at r2;have:a.enc++b.enc.drop a.enc.length=b.enc:=by
  have:=List.take_append_drop a.enc.length b.enc;rw[←e]at this;exact this
 rw[this]at r1;exact r1.symm.trans r2
theorem imin_nat (a b:Nat):ifold imin2 (.int .i64 (a:Nat)) [.int .i64 (b:Nat)]=some (.int .i64 ((min a b:Nat):Int)):=by
 have:(if((b:Nat):Int)<((a:Nat):Int)then((b:Nat):Int)else((a:Nat):Int))=((min a b:Nat):Int):=by split<;>omega
 simp only[ifold,imin2,if_true,Option.bind_some,this]
theorem encs_len :∀{l:List Cl},l.all Cl.may=true->(encs l).length<=135*l.length
 | [],_=>by simp[encs]
 | c::l,h=>by
  simp only[List.all_cons,Bool.and_eq_true]at h;have i1:=encs_len h.2;have i2:=enc_len h.1;simp only[encs,List.map_cons,List.flatten_cons,List.length_append,List.length_cons]at i1 ⊢;omega
theorem cell7 {H:Heap}{r:Nat}{c:Cl}(h:H[r]? =some (.row c.cells false)):lloadn H 7 (.ptr r 0)=some (.agg c.cells):=by rw[lloadn_ptr,h];rfl
end Go.Shade
namespace Go.Shade
variable {H : Heap} {N i : Nat} {bs : List UInt8} {cal : FuncId -> Bool} {fa : FuncId} {v : IV} {O : Oracle}
def Kp (H:Heap)(H':Heap):Prop:=Keep H.length H H'
theorem BS.at {H:Heap}{v:IV}{bs:List UInt8}(h:BS H v bs){i:Nat}(hi:i<bs.length):∃p,lix 1 v (.int .i64 (i:Nat))=some p/\lload1 H p=some (.int .u8 ((bs.getD i 0).toNat:Int)):=by
 rcases h with⟨rfl,rfl⟩ | ⟨b,o,n,lb,ex,sz,rfl,h1,h2,h3,h4⟩
 ·simp at hi
 ·obtain⟨cells,ro,g1,g2⟩:=h4 (by omega);refine⟨_,by rw[lix_slice,if_pos (by omega)],?_⟩;rw[lload1_ptr,g1,og1_row];have:=g2 i (by omega)
  simpa using this
theorem getD_big (h:bs.length<=i):bs.getD i 0=0:=by simp[List.getD_eq_getElem?_getD,List.getElem?_eq_none h]
theorem ref_at (hb:BS H v bs)(i:Nat) :
  vr08AtS cal O N v (.int .i64 (i:Nat)) H=some (.int .i64 ((bs.getD i 0).toNat:Int),H):=by
 unfold vr08AtS;rw[hb.len,ob_some,lbin_lss,ob_some];by_cases h:i<bs.length
 ·rw[decide_eq_true (by omega:(i:Int)<(bs.length:Nat)),cnd_true];obtain⟨p,e1,e2⟩:=hb.at h;have:=(bs.getD i 0).toNat_lt;rw[e1,ob_some,e2,ob_some,lcvt_int,ob_some,wrap_i64 (by omega) (by omega)]
 ·rw[decide_eq_false (by omega:¬(i:Int)<(bs.length:Nat)),cnd_false,getD_big (by omega)];rfl
def RAtOk (O:Oracle)(f:FuncId):Prop:=∀(H:Heap) (v:IV) (bs:List UInt8) (i:Nat),BS H v bs->O f [v,.int .i64 (i:Nat)] H=some (.int .i64 ((bs.getD i 0).toNat:Int),H)
def rdT (bs:List UInt8)(i n:Nat):List UInt8:=(List.range n).map fun k=>bs.getD (i+k) 0
theorem rdT_succ (bs:List UInt8)(i n:Nat):rdT bs i (n+1)=rdT bs i n++[bs.getD (i+n) 0]:=by
 simp[rdT,List.range_succ]
theorem rdT_length (bs:List UInt8)(i n:Nat):(rdT bs i n).length=n:=by simp[rdT]
theorem ref_text_go (ha:RAtOk O fa){B:Nat}(hl:low B v){m:Nat}(hi:i<=1000000)(hm:m<=64){gE0:IV->Heap->Option Out}{Q:Out->Prop}{H0:Heap}(hQ:∀v' H',Keep B H0 H'->Buf B 1 H' v' (bytes (rdT bs i m))->Wp (gE0 v' H') Q) :
  ∀(d k n:Nat) (w:IV) (H:Heap),k+d=m->d<n->B<=H.length->Keep B H0 H->BS H v bs->Buf B 1 H w (bytes (rdT bs i k)) ->
   Wp (vr08TextC0S cal O N fa gE0 n v (.int .i64 (i:Nat)) (.int .i64 (m:Nat)) w (.int .i64 (k:Nat)) H) Q:=by
 intro d
 induction d with
 | zero =>
  intro k n w H hk hn hB hK hb hw;obtain⟨n,rfl⟩:∃j,n=j+1:=⟨n - 1,by omega⟩;rw[vr08TextC0S,lbin_lss,ob_some,decide_eq_false (by omega),cnd_false];have:k=m:=by omega
  subst this;exact hQ w H hK hw
 | succ d ih =>
  intro k n w H hk hn hB hK hb hw;obtain⟨n,rfl⟩:∃j,n=j+1:=⟨n - 1,by omega⟩;rw[vr08TextC0S,lbin_lss,ob_some,decide_eq_true (by omega),cnd_true,lbin_add,ob_some,wrap_i64 (by omega) (by omega),←Int.natCast_add,ha H v bs (i+k) hb,ob_some];simp only;rw[lcvt_int,ob_some,wrap_u8,ub_toNat];have z:lbldS H 1 1 [(.int .u8 0)] [(0,.int .u8 ((bs.getD (i+k) 0).toNat:Int))]=some (.slice H.length 0 1 1 true 1,H++[.row (bytes [bs.getD (i+k) 0]) false]):=rfl;rw[z,ob_some];simp only;have hx:BS (H++[.row (bytes [bs.getD (i+k) 0]) false]) (.slice H.length 0 1 1 true 1) [bs.getD (i+k) 0] :=
   ((show Buf 0 1 _ _ _ from .inr ⟨_,1,true,rfl,by omega,by simp,rfl⟩):Buf 0 1 (H++[.row (bytes [bs.getD (i+k) 0]) false]) (.slice H.length 0 1 1 true 1) (bytes [bs.getD (i+k) 0])).bs.1
  have hw':Buf B 1 (H++[.row (bytes [bs.getD (i+k) 0]) false]) w (bytes (rdT bs i k)):=hw.keep (Keep.push (B:=H.length) H _ (Nat.le_refl _)) (fun r n' m' ex e=>by
   rcases hw with⟨e',_⟩ | ⟨r',n',ex',e',_,hr,_⟩
   ·rw[e]at e';cases e'
   ·rw[e]at e';cases e';exact(ges hr).1)
  obtain⟨w2,H2,a2,b2,k2⟩:=app_bs hw' (by simp;omega) hx (by rw[rdT_length];simp;omega);rw[a2,ob_some];simp only;have kk:Keep B H H2:=(Keep.push H _ hB).trans k2;rw[lbin_add,ob_some,wrap_i64 (by omega) (by omega)];rw[show((k:Nat):Int)+1=((k+1:Nat):Int) by omega];exact ih (k+1) n w2 H2 (by omega) (by omega) (by have:=kk.2;omega) (hK.trans kk) (hb.keep' hl kk) (by rw[rdT_succ];exact b2)
theorem Buf.b2s {B:Nat}(h:Buf B 1 H v (bytes bs)):lb2s H v=some (.str bs):=b2s_buf h
theorem ref_text (hN:64<N)(ha:RAtOk O fa)(hl:low H.length v)(hb:BS H v bs){m:Nat}(hi:i<=1000000)(hm:m<=64) :
  Wp (vr08TextS cal O N fa v (.int .i64 (i:Nat)) (.int .i64 (m:Nat)) H) fun r=>r.1=.str (rdT bs i m)/\Kp H r.2:=by
 unfold vr08TextS vr08TextC5S vr08TextC4S vr08TextC3S vr08TextC2S vr08TextC1S;have z:lbldS H 1 0 [(.int .u8 0)] []=some (.slice H.length 0 0 0 true 1,H++[.row [] false]):=rfl;rw[z,ob_some];have k1:Keep H.length H (H++[.row [] false]):=Keep.push H _ (Nat.le_refl _);refine ref_text_go ha hl hi hm (H0:=H) (fun v' H' hk hv=> ?_) m 0 N _ _ (by omega) (by omega) (by simp) k1 (hb.keep' hl k1) (.inr ⟨_,0,true,rfl,Nat.le_refl _,by simp[bytes,rdT],rfl⟩);exact Wp.of hv.b2s (Wp.ret ⟨rfl,hk⟩)
def RTextOk (O:Oracle)(f:FuncId):Prop:=∀(H:Heap) (v:IV) (bs:List UInt8) (i m:Nat),low H.length v->BS H v bs->i<=1000000->m<=64->Wp (O f [v,.int .i64 (i:Nat),.int .i64 (m:Nat)] H) fun r=>r.1=.str (rdT bs i m)/\Kp H r.2
theorem remk (x k:Nat){c:Int}(hc:c=(k:Nat))(hk:0<k):lbin .rem (.int .i64 (x:Nat)) (.int .i64 c)=some (.int .i64 ((x % k:Nat):Int)):=by
 subst hc;rw[lbin_rem (by omega),Int.tmod_eq_emod_of_nonneg (by omega),Int.natCast_emod]
theorem getD_drop' (bs:List UInt8)(i k:Nat):(bs.drop i).getD k 0=bs.getD (i+k) 0:=by simp[List.getD_eq_getElem?_getD]
theorem rdText_drop (bs:List UInt8)(i:Nat):rdText (bs.drop i)=rdT bs (i+1) ((bs.getD i 0).toNat % 64):=by
 unfold rdText rdT;rw[getD_drop',Nat.add_zero];apply List.map_congr_left;intro k _;rw[getD_drop'];congr 1;omega
theorem rd1_drop (bs:List UInt8)(i:Nat):rd1 (bs.drop i)=bs.drop (i+7):=by simp[rd1]
theorem rd2_drop (bs:List UInt8)(i:Nat):rd2 (bs.drop i)=bs.drop (i+(8+(bs.getD (i+7) 0).toNat % 64)):=by
 unfold rd2 TextN;rw[rd1_drop,getD_drop',List.drop_drop,Nat.add_zero];congr 1;omega
theorem rdN_drop (bs:List UInt8)(i:Nat):i+rdN (bs.drop i)=i+(8+(bs.getD (i+7) 0).toNat % 64)+(1+(bs.getD (i+(8+(bs.getD (i+7) 0).toNat % 64)) 0).toNat % 64):=by
 unfold rdN TextN;rw[rd1_drop,rd2_drop,getD_drop',getD_drop'];simp only[Nat.add_zero];omega
theorem rdCl_drop (bs:List UInt8)(i:Nat):(rdCl (bs.drop i)).cells=[.int .i64 (((bs.getD i 0).toNat % 20:Nat)+1),.int .i64 (((bs.getD (i+1) 0).toNat % 40:Nat) - 4),.int .i64 ((bs.getD (i+2) 0).toNat % 64:Nat),
  .int .i64 (((bs.getD (i+3) 0).toNat:Int)*256+(bs.getD (i+4) 0).toNat - 256),.int .i64 (((bs.getD (i+5) 0).toNat:Int)*256+(bs.getD (i+6) 0).toNat - 256),
  .str (rdT bs (i+8) ((bs.getD (i+7) 0).toNat % 64)),.str (rdT bs (i+(8+(bs.getD (i+7) 0).toNat % 64)+1) ((bs.getD (i+(8+(bs.getD (i+7) 0).toNat % 64)) 0).toNat % 64))]:=by
 unfold rdCl Cl.cells;simp only[rd1_drop,rd2_drop,rdText_drop,getD_drop',Nat.add_zero,Int.natCast_emod];rfl
theorem lst1 {b k:Nat}{cs:List IV}{x:IV}(h:H[b]? =some (.row cs false))(hx:x.one=true)(hk:k<cs.length):lstV H 1 (.ptr b k) x=some (.tuple [],H.set b (.row (cs.set k x) false)):=by
 rw[lstV_ptr,h,putO_one hx hk];rfl
theorem lstn {b n:Nat}{cs xs:List IV}(h:H[b]? =some (.row cs false))(hx:xs.all IV.one=true)(hn:xs.length=n)(hk:cs.length=n):lstV H n (.ptr b 0) (.agg xs)=some (.tuple [],H.set b (.row xs false)):=by
 rw[lstV_ptr,h,putO_all hx hn hk];rfl
set_option maxHeartbeats 1000000 in
theorem ref_dec_go {cal:FuncId->Bool}{O:Oracle}{N:Nat}{fa ft:FuncId}(ha:RAtOk O fa)(ht:RTextOk O ft){B:Nat}{v:IV}{bs:List UInt8}(hl:low B v)(hbs:bs.length<=65536){gE0:IV->Heap->Option Out}{Q:Out->Prop}{H0:Heap}{out:List Cl}
  (hQ:∀v' H',Keep B H0 H'->Buf B 7 H' v' (flat7 out)->Wp (gE0 v' H') Q) :
  ∀(d i n:Nat) (acc:List Cl) (w:IV) (H:Heap),acc.length+d=200->d<n->i<=70000->acc++dec d (bs.drop i)=out->B<=H.length->Keep B H0 H->BS H v bs->Buf B 7 H w (flat7 acc) ->
   Wp (vr08DecodeC0S cal O N fa ft gE0 n v w (.int .i64 (i:Nat)) H) Q:=by
 intro d
 induction d with
 | zero =>
  intro i n acc w H hk hn hi hout hB hK hb hw;obtain⟨n,rfl⟩:∃j,n=j+1:=⟨n - 1,by omega⟩;have:acc=out:=by simpa[dec]using hout
  subst this;rw[vr08DecodeC0S,hb.len,ob_some,lbin_lss,ob_some];have hc:=hw.calls
  cases decide (((i:Nat):Int)<(bs.length:Nat))
  ·simp only[isB_ft,gq_false,ob_some,lpick_false,cnd_false];exact hQ w H hK hw
  ·simp only[isB_tt,gq_true,ob_some,hc.len,lbin_lss];rw[lpick_true,ob_some,decide_eq_false (by omega),cnd_false];exact hQ w H hK hw
 | succ d ih =>
  intro i n acc w H hk hn hi hout hB hK hb hw;obtain⟨n,rfl⟩:∃j,n=j+1:=⟨n - 1,by omega⟩;rw[vr08DecodeC0S,hb.len,ob_some,lbin_lss,ob_some];have hc:=hw.calls;by_cases hlt:i<bs.length
  ·rw[decide_eq_true (by omega)];simp only[isB_tt,gq_true,ob_some,hc.len,lbin_lss];rw[lpick_true,ob_some,decide_eq_true (by omega),cnd_true];have hne:bs.drop i≠ []:=by intro e;have:=congrArg List.length e;simp at this;omega
   rw[dec,if_neg hne]at hout;have hcells:=rdCl_drop bs i;have hN:=rdN_drop bs i;have byte:∀k,(bs.getD k 0).toNat<256:=fun k=>(bs.getD k 0).toNat_lt;have at':=fun(H:Heap) (h:BS H v bs) (k:Nat)=>ha H v bs k h;have r20:=remk (bs.getD i 0).toNat 20 (c:=20) rfl (by omega);have r40:=remk (bs.getD (i+1) 0).toNat 40 (c:=40) rfl (by omega);have r64:=remk (bs.getD (i+2) 0).toNat 64 (c:=64) rfl (by omega);have r64b:=remk (bs.getD (i+7) 0).toNat 64 (c:=64) rfl (by omega);have wk:∀k:Nat,k<=8->IntKind.wrap .i64 (((i:Nat):Int)+((k:Nat):Int))=((i+k:Nat):Int):=fun k hk=>by rw[wrap_i64 (by omega) (by omega)];omega
   have w1:IntKind.wrap .i64 (((i:Nat):Int)+1)=((i+1:Nat):Int):=wk 1 (by omega);have w2:IntKind.wrap .i64 (((i:Nat):Int)+2)=((i+2:Nat):Int):=wk 2 (by omega);have w3:IntKind.wrap .i64 (((i:Nat):Int)+3)=((i+3:Nat):Int):=wk 3 (by omega);have w4:IntKind.wrap .i64 (((i:Nat):Int)+4)=((i+4:Nat):Int):=wk 4 (by omega);have w5:IntKind.wrap .i64 (((i:Nat):Int)+5)=((i+5:Nat):Int):=wk 5 (by omega);have w6:IntKind.wrap .i64 (((i:Nat):Int)+6)=((i+6:Nat):Int):=wk 6 (by omega);have w7:IntKind.wrap .i64 (((i:Nat):Int)+7)=((i+7:Nat):Int):=wk 7 (by omega);have w8:IntKind.wrap .i64 (((i:Nat):Int)+8)=((i+8:Nat):Int):=wk 8 (by omega);simp only[at' H hb,ob_some,r20,r40,r64,lbin_add,lbin_sub,w1,w2];rw[wrap_i64 (x:=(((bs.getD i 0).toNat % 20:Nat):Int)+1) (by omega) (by omega),wrap_i64 (x:=(((bs.getD (i+1) 0).toNat % 40:Nat):Int) - 4) (by omega) (by omega)];have z1:∀x y z:Int,lbld [(.int .i64 0),(.int .i64 0),(.int .i64 0),(.int .i64 0),(.int .i64 0),(.str []),(.str [])] [(0,1,.int .i64 x),(1,1,.int .i64 y),(2,1,.int .i64 z)]=some (.agg [.int .i64 x,.int .i64 y,.int .i64 z,.int .i64 0,.int .i64 0,.str [],.str []]):=fun x y z=>rfl;rw[z1,ob_some,lzbox_eq,ob_some];simp only[cells_agg];have g1:∀cs,(H++[IObj.row cs false])[H.length]? =some (.row cs false):=fun cs=>by simp
   have st:∀cs x,(H++[IObj.row cs false]).set H.length x=H++[x]:=fun cs x=>by simp
   have b1:∀cs,BS (H++[IObj.row cs false]) v bs:=fun cs=>hb.keep' hl (Keep.push H _ hB);rw[lstn (g1 _) (by rfl) (by rfl) (by rfl),ob_some,st];have e3:=byte (i+3);have e4:=byte (i+4);have e5:=byte (i+5);have e6:=byte (i+6);have e7:=byte (i+7);simp only[at' _ (b1 _),ob_some,w3,w4,lbin_mul,lbin_add,lbin_sub,loff_ptr,Nat.zero_add];rw[wrap_i64 (x:=((bs.getD (i+3) 0).toNat:Int)*256) (by omega) (by omega),wrap_i64 (x:=((bs.getD (i+3) 0).toNat:Int)*256+_) (by omega) (by omega),wrap_i64 (x:=((bs.getD (i+3) 0).toNat:Int)*256+_ - 256) (by omega) (by omega)];rw[lst1 (g1 _) (by rfl) (by simp),ob_some,st];simp only[at' _ (b1 _),ob_some,w5,w6,lbin_mul,lbin_add,lbin_sub,loff_ptr,Nat.zero_add];rw[wrap_i64 (x:=((bs.getD (i+5) 0).toNat:Int)*256) (by omega) (by omega),wrap_i64 (x:=((bs.getD (i+5) 0).toNat:Int)*256+_) (by omega) (by omega),wrap_i64 (x:=((bs.getD (i+5) 0).toNat:Int)*256+_ - 256) (by omega) (by omega)];rw[lst1 (g1 _) (by rfl) (by simp),ob_some,st];simp only[at' _ (b1 _),ob_some,w7,w8,r64b,lbin_add,loff_ptr,Nat.zero_add,List.set_cons_succ,List.set_cons_zero];generalize hn1:(bs.getD (i+7) 0).toNat % 64=n1 at *;have hn1':n1<64:=by omega
   have wJ:IntKind.wrap .i64 (((i:Nat):Int)+IntKind.wrap .i64 (8+((n1:Nat):Int)))=((i+(8+n1):Nat):Int):=by
    rw[wrap_i64 (x:=8+((n1:Nat):Int)) (by omega) (by omega),wrap_i64 (by omega) (by omega)];omega
   have wJ1:IntKind.wrap .i64 (((i+(8+n1):Nat):Int)+1)=((i+(8+n1)+1:Nat):Int):=by rw[wrap_i64 (by omega) (by omega)];omega
   rw[wJ,wJ1];generalize hcs: [IV.int .i64 (((bs.getD i 0).toNat % 20:Nat)+1),IV.int .i64 (((bs.getD (i+1) 0).toNat % 40:Nat) - 4),IV.int .i64 ((bs.getD (i+2) 0).toNat % 64:Nat),IV.int .i64 (((bs.getD (i+3) 0).toNat:Int)*256+(bs.getD (i+4) 0).toNat - 256),IV.int .i64 (((bs.getD (i+5) 0).toNat:Int)*256+(bs.getD (i+6) 0).toNat - 256),IV.str [],IV.str []]=cs;have hlen:cs.length=7:=by rw[←hcs];rfl
   have hlH:low H.length v:=low_mono hl hB;have kX:Keep H.length H (H++[IObj.row cs false]):=Keep.push H _ (Nat.le_refl _);have rX:=g1 cs;have lX:(H++[IObj.row cs false]).length=H.length+1:=by simp
   generalize H++[IObj.row cs false]=X at *;refine Wp.call (ht X v bs (i+8) n1 (low_mono hl (by omega)) (hb.keep' hlH kX) (by omega) (by omega)) ?_;rintro⟨x,H2⟩ ⟨e1,k2⟩;simp only at e1 k2 ⊢;subst e1;have k2B:Keep H.length X H2:=k2.mono (by omega);have kk2:=kX.trans k2B;have r2:H2[H.length]? =some (.row cs false):=k2.get (by omega) rX;rw[lst1 r2 (by rfl) (by omega),ob_some];simp only;have kk3:=kk2.trans (Keep.set H2 (IObj.row (cs.set 5 (.str (rdT bs (i+8) n1))) false) (Nat.le_refl _));have r3:(H2.set H.length (IObj.row (cs.set 5 (.str (rdT bs (i+8) n1))) false))[H.length]? =some (IObj.row (cs.set 5 (.str (rdT bs (i+8) n1))) false):=set_at r2;generalize H2.set H.length (IObj.row (cs.set 5 (.str (rdT bs (i+8) n1))) false)=H3 at *;have l3:H.length<H3.length:=(ges r3).1;have b3:=hb.keep' hlH kk3;simp only[at' _ b3,ob_some];rw[remk _ 64 (c:=64) rfl (by omega),ob_some];generalize hn2:(bs.getD (i+(8+n1)) 0).toNat % 64=n2 at *;have hn2':n2<64:=by omega
   refine Wp.call (ht H3 v bs (i+(8+n1)+1) n2 (low_mono hl (by omega)) b3 (by omega) (by omega)) ?_;rintro⟨x,H4⟩ ⟨e4,k4⟩;simp only at e4 k4 ⊢;subst e4;have kk4:=kk3.trans (k4.mono (show H.length<=H3.length by omega));have r4:=k4.get l3 r3;rw[lst1 r4 (by rfl) (by simp;omega),ob_some];simp only;have kk5:=kk4.trans (Keep.set H4 (IObj.row ((cs.set 5 (.str (rdT bs (i+8) n1))).set 6 (.str (rdT bs (i+(8+n1)+1) n2))) false) (Nat.le_refl _));have r5:=set_at (o':=IObj.row ((cs.set 5 (.str (rdT bs (i+8) n1))).set 6 (.str (rdT bs (i+(8+n1)+1) n2))) false) r4;generalize H4.set H.length (IObj.row ((cs.set 5 (.str (rdT bs (i+8) n1))).set 6 (.str (rdT bs (i+(8+n1)+1) n2))) false)=H5 at *;have hfin:(cs.set 5 (.str (rdT bs (i+8) n1))).set 6 (.str (rdT bs (i+(8+n1)+1) n2))=(rdCl (bs.drop i)).cells:=by rw[hcells,←hcs];rfl
   rw[hfin]at r5;rw[lbin_add,ob_some,lbin_add,ob_some];have wE:IntKind.wrap .i64 (((i+(8+n1):Nat):Int)+IntKind.wrap .i64 (1+((n2:Nat):Int)))=((i+(8+n1)+(1+n2):Nat):Int):=by
    rw[wrap_i64 (x:=1+((n2:Nat):Int)) (by omega) (by omega),wrap_i64 (by omega) (by omega)];omega
   rw[wE,cell7 r5,ob_some];have z2:lbldS H5 7 1 [(.int .i64 0),(.int .i64 0),(.int .i64 0),(.int .i64 0),(.int .i64 0),(.str []),(.str [])] [(0,.agg (rdCl (bs.drop i)).cells)]=some (.slice H5.length 0 1 1 true 7,H5++[.row (rdCl (bs.drop i)).cells false]):=rfl;rw[z2,ob_some];simp only;have kk6:=kk5.trans (Keep.push H5 [IObj.row (rdCl (bs.drop i)).cells false] (by have:=kk5.2;omega));have hw5:Buf B 7 (H5++[IObj.row (rdCl (bs.drop i)).cells false]) w (flat7 acc):=by
    refine hw.keep kk6 (fun r n' m' ex e=> ?_);rcases hw with⟨e',_⟩ | ⟨r',n',ex',e',_,hr,_⟩
    ·rw[e]at e';cases e'
    ·rw[e]at e';cases e';exact(ges hr).1
   have hx6:Buf 0 7 (H5++[IObj.row (rdCl (bs.drop i)).cells false]) (.slice H5.length 0 1 1 true 7) (flat7 [rdCl (bs.drop i)]):=.inr ⟨_,1,true,rfl,by omega,by simp[flat7],rfl⟩;obtain⟨w7,H7,a7,b7,k7⟩:=app_own (b:=72) hw5 (by have:=kk6.2;omega) (by omega) hx6 (flat7_one _) (by simp only[flat7_length];simp;omega);rw[←flat7_append]at b7;rw[a7,ob_some];simp only;have kk7:=(kk6.mono hB).trans k7;have hi':i+rdN (bs.drop i)<=70000:=by rw[hN];omega
   rw[←hN];exact ih (i+rdN (bs.drop i)) n (acc++[rdCl (bs.drop i)]) w7 H7 (by simp;omega) (by omega) hi' (by rw[←List.drop_drop] ;simpa using hout) (by have:=kk7.2;omega) (hK.trans kk7) (hb.keep' hl kk7) b7
  ·rw[decide_eq_false (by omega)];simp only[isB_ft,gq_false,ob_some,lpick_false,cnd_false];have he:bs.drop i=[]:=List.drop_eq_nil_of_le (by omega);rw[he,dec_nil',List.append_nil]at hout;subst hout;exact hQ w H hK hw
theorem ref_dec {ft:FuncId}(hN:200<N)(ha:RAtOk O fa)(ht:RTextOk O ft)(hl:low H.length v)(hb:BS H v bs)(hbs:bs.length<=65536) :
  Wp (vr08DecodeS cal O N fa ft v H) fun r=>CS r.2 r.1 (dec 200 bs)/\low r.2.length r.1/\Kp H r.2:=by
 unfold vr08DecodeS vr08DecodeC5S vr08DecodeC4S vr08DecodeC3S vr08DecodeC2S vr08DecodeC1S;have z:lbldS H 7 0 [(.int .i64 0),(.int .i64 0),(.int .i64 0),(.int .i64 0),(.int .i64 0),(.str []),(.str [])] []=some (.slice H.length 0 0 0 true 7,H++[.row [] false]):=rfl;rw[z,ob_some];have k1:Keep H.length H (H++[.row [] false]):=Keep.push H _ (Nat.le_refl _);refine ref_dec_go ha ht hl hbs (H0:=H) (out:=dec 200 bs) (fun v' H' hk hv=>Wp.ret ⟨hv.calls,hv.low,hk⟩) 200 0 N [] _ _ rfl hN (by omega) (by simp) (by simp) k1 (hb.keep' hl k1) (.inr ⟨_,0,true,rfl,Nat.le_refl _,by simp[flat7],rfl⟩)
def RDecOk (O:Oracle)(f:FuncId):Prop:=∀(H:Heap) (v:IV) (bs:List UInt8),low H.length v->BS H v bs->bs.length<=65536->Wp (O f [v] H) fun r=>CS r.2 r.1 (dec 200 bs)/\low r.2.length r.1/\Kp H r.2
end Go.Shade
