/- The law ScriptDeals, part 14. -/
import Derived.Test.YtmpdeebjhmgpgaaGreatDoorM2
import Derived.KernelRfl
import Derived.Test.YtmpdeebjhmgpgaaGreatDoorM3
set_option linter.all false
namespace Go.Shade
variable {k : KT (IV × Heap)}
def callWithin :LFun:=⟨(.seq (.reg [
  ⟨(some 6),(.mv (.k (.bool false))),none⟩])
 (.seq (.reg [
  ⟨(some 7),(.mv (.t 0)),none⟩,
  ⟨(some 8),(.mv (.t 1)),none⟩,
  ⟨(some 9),(.bin .geq (.t 7) (.t 8)),none⟩,
  ⟨(some 10),(.mv (.t 9)),none⟩,
  ⟨(some 11),(.mv (.t 0)),(some (10,true))⟩,
  ⟨(some 12),(.mv (.t 2)),(some (10,true))⟩,
  ⟨(some 13),(.bin .leq (.t 11) (.t 12)),(some (10,true))⟩,
  ⟨(some 14),(.pick (.t 10) (.t 13) (.k (.bool false))),none⟩,
  ⟨(some 6),(.mv (.t 14)),none⟩])
 .ret)),[(.tmp 6)],15⟩
def callWithinS (cal:FuncId->Bool)(O:Oracle)(N:Nat)(v0 v1 v2:IV)(H:Heap):Option (IV×Heap) :=
  ob (lbin .geq v0 v1) fun t1 =>
  ob (gq (isB t1 true) (some v0)) fun t2 =>
  ob (gq (isB t1 true) (some v2)) fun t3 =>
  ob (gq (isB t1 true) (lbin .leq t2 t3)) fun t4 =>
  ob (lpick t1 t4 (.bool false)) fun t5 =>
  some (t5,H)
theorem callWithinEq (cal:FuncId->Bool)(O:Oracle)(N:Nat)(v0 v1 v2:IV)(H:Heap):lrunK cal O N (callWithin) [v0,v1,v2] H=callWithinS cal O N v0 v1 v2 H:=by
 kernel_rfl
def callMay (cCallWithin:FuncId):LFun:=⟨(.seq (.reg [
  ⟨(some 1),(.box (.t 0)),none⟩,
  ⟨(some 2),(.mv (.k (.bool false))),none⟩])
 (.seq (.reg [
  ⟨(some 3),(.off (.t 1) 0),none⟩,
  ⟨(some 4),(.ld1 (.t 3)),none⟩,
  ⟨(some 5),(.callF cCallWithin [(.t 4),(.k (.int .i64 1)),(.k (.int .i64 20))]),none⟩,
  ⟨(some 6),(.mv (.t 5)),none⟩,
  ⟨(some 7),(.off (.t 1) 1),(some (6,true))⟩,
  ⟨(some 8),(.ld1 (.t 7)),(some (6,true))⟩,
  ⟨(some 9),(.callF cCallWithin [(.t 8),(.k (.int .i64 (-4))),(.k (.int .i64 35))]),(some (6,true))⟩,
  ⟨(some 10),(.pick (.t 6) (.t 9) (.k (.bool false))),none⟩,
  ⟨(some 11),(.mv (.t 10)),none⟩,
  ⟨(some 12),(.off (.t 1) 2),(some (11,true))⟩,
  ⟨(some 13),(.ld1 (.t 12)),(some (11,true))⟩,
  ⟨(some 14),(.callF cCallWithin [(.t 13),(.k (.int .i64 0)),(.k (.int .i64 63))]),(some (11,true))⟩,
  ⟨(some 15),(.pick (.t 11) (.t 14) (.k (.bool false))),none⟩,
  ⟨(some 16),(.mv (.t 15)),none⟩,
  ⟨(some 17),(.off (.t 1) 3),(some (16,true))⟩,
  ⟨(some 18),(.ld1 (.t 17)),(some (16,true))⟩,
  ⟨(some 19),(.callF cCallWithin [(.t 18),(.k (.int .i64 (-256))),(.k (.int .i64 65279))]),(some (16,true))⟩,
  ⟨(some 20),(.pick (.t 16) (.t 19) (.k (.bool false))),none⟩,
  ⟨(some 21),(.mv (.t 20)),none⟩,
  ⟨(some 22),(.off (.t 1) 4),(some (21,true))⟩,
  ⟨(some 23),(.ld1 (.t 22)),(some (21,true))⟩,
  ⟨(some 24),(.callF cCallWithin [(.t 23),(.k (.int .i64 (-256))),(.k (.int .i64 65279))]),(some (21,true))⟩,
  ⟨(some 25),(.pick (.t 21) (.t 24) (.k (.bool false))),none⟩,
  ⟨(some 26),(.mv (.t 25)),none⟩,
  ⟨(some 27),(.off (.t 1) 5),(some (26,true))⟩,
  ⟨(some 28),(.ld1 (.t 27)),(some (26,true))⟩,
  ⟨(some 29),(.len .str (.t 28)),(some (26,true))⟩,
  ⟨(some 30),(.bin .lss (.t 29) (.k (.int .i64 64))),(some (26,true))⟩,
  ⟨(some 31),(.pick (.t 26) (.t 30) (.k (.bool false))),none⟩,
  ⟨(some 32),(.mv (.t 31)),none⟩,
  ⟨(some 33),(.off (.t 1) 6),(some (32,true))⟩,
  ⟨(some 34),(.ld1 (.t 33)),(some (32,true))⟩,
  ⟨(some 35),(.len .str (.t 34)),(some (32,true))⟩,
  ⟨(some 36),(.bin .lss (.t 35) (.k (.int .i64 64))),(some (32,true))⟩,
  ⟨(some 37),(.pick (.t 32) (.t 36) (.k (.bool false))),none⟩,
  ⟨(some 2),(.mv (.t 37)),none⟩])
 .ret)),[(.tmp 2)],38⟩
def callMayS (cal:FuncId->Bool)(O:Oracle)(N:Nat)(cCallWithin:FuncId)(v0:IV)(H:Heap):Option (IV×Heap) :=
  ob (lbox H v0) fun r1 =>
  ob (loff r1.1 0) fun t2 =>
  ob (lload1 r1.2 t2) fun t3 =>
  ob (O cCallWithin [t3,(.int .i64 1),(.int .i64 20)] r1.2) fun r4 =>
  ob (gq (isB r4.1 true) (loff r1.1 1)) fun t5 =>
  ob (gq (isB r4.1 true) (lload1 r4.2 t5)) fun t6 =>
  ob (ge (isB r4.1 true) r4.2 (O cCallWithin [t6,(.int .i64 (-4)),(.int .i64 35)] r4.2)) fun r7 =>
  ob (lpick r4.1 r7.1 (.bool false)) fun t8 =>
  ob (gq (isB t8 true) (loff r1.1 2)) fun t9 =>
  ob (gq (isB t8 true) (lload1 r7.2 t9)) fun t10 =>
  ob (ge (isB t8 true) r7.2 (O cCallWithin [t10,(.int .i64 0),(.int .i64 63)] r7.2)) fun r11 =>
  ob (lpick t8 r11.1 (.bool false)) fun t12 =>
  ob (gq (isB t12 true) (loff r1.1 3)) fun t13 =>
  ob (gq (isB t12 true) (lload1 r11.2 t13)) fun t14 =>
  ob (ge (isB t12 true) r11.2 (O cCallWithin [t14,(.int .i64 (-256)),(.int .i64 65279)] r11.2)) fun r15 =>
  ob (lpick t12 r15.1 (.bool false)) fun t16 =>
  ob (gq (isB t16 true) (loff r1.1 4)) fun t17 =>
  ob (gq (isB t16 true) (lload1 r15.2 t17)) fun t18 =>
  ob (ge (isB t16 true) r15.2 (O cCallWithin [t18,(.int .i64 (-256)),(.int .i64 65279)] r15.2)) fun r19 =>
  ob (lpick t16 r19.1 (.bool false)) fun t20 =>
  ob (gq (isB t20 true) (loff r1.1 5)) fun t21 =>
  ob (gq (isB t20 true) (lload1 r19.2 t21)) fun t22 =>
  ob (gq (isB t20 true) (llen r19.2 .str t22)) fun t23 =>
  ob (gq (isB t20 true) (lbin .lss t23 (.int .i64 64))) fun t24 =>
  ob (lpick t20 t24 (.bool false)) fun t25 =>
  ob (gq (isB t25 true) (loff r1.1 6)) fun t26 =>
  ob (gq (isB t25 true) (lload1 r19.2 t26)) fun t27 =>
  ob (gq (isB t25 true) (llen r19.2 .str t27)) fun t28 =>
  ob (gq (isB t25 true) (lbin .lss t28 (.int .i64 64))) fun t29 =>
  ob (lpick t25 t29 (.bool false)) fun t30 =>
  some (t30,r19.2)
theorem callMayEq (cal:FuncId->Bool)(O:Oracle)(N:Nat)(cCallWithin:FuncId)(v0:IV)(H:Heap):lrunK cal O N (callMay cCallWithin) [v0] H=callMayS cal O N cCallWithin v0 H:=by
 kernel_rfl
def callEncode (cCallMay:FuncId):LFun:=⟨(.seq (.reg [
  ⟨(some 1),(.box (.t 0)),none⟩,
  ⟨(some 2),(.mv (.k .nilSlice)),none⟩,
  ⟨(some 3),(.mv (.k (.int .i64 0))),none⟩])
 (.seq (.seq (.reg [
  ⟨(some 7),(.ldn 7 (.t 1)),none⟩,
  ⟨(some 8),(.callF cCallMay [(.t 7)]),none⟩,
  ⟨(some 9),(.un .not (.t 8)),none⟩])
 (.cond (.t 9) (.seq (.reg [
  ⟨(some 2),(.mv (.k .nilSlice)),none⟩,
  ⟨(some 3),(.mv (.k (.int .i64 22))),none⟩])
 .ret)
 .skip))
 (.seq (.drw [
  ⟨(some 10),(.off (.t 1) 3),none⟩,
  ⟨(some 11),(.ld1 (.t 10)),none⟩,
  ⟨(some 12),(.bin .sub (.t 11) (.k (.int .i64 (-256)))),none⟩,
  ⟨(some 13),(.off (.t 1) 4),none⟩,
  ⟨(some 14),(.ld1 (.t 13)),none⟩,
  ⟨(some 15),(.bin .sub (.t 14) (.k (.int .i64 (-256)))),none⟩,
  ⟨(some 4),(.mv (.t 12)),none⟩,
  ⟨(some 5),(.mv (.t 15)),none⟩] [])
 (.seq (.reg [
  ⟨(some 16),(.off (.t 1) 0),none⟩,
  ⟨(some 17),(.ld1 (.t 16)),none⟩,
  ⟨(some 18),(.bin .sub (.t 17) (.k (.int .i64 1))),none⟩,
  ⟨(some 19),(.cvt .u8 (.t 18)),none⟩,
  ⟨(some 20),(.off (.t 1) 1),none⟩,
  ⟨(some 21),(.ld1 (.t 20)),none⟩,
  ⟨(some 22),(.bin .sub (.t 21) (.k (.int .i64 (-4)))),none⟩,
  ⟨(some 23),(.cvt .u8 (.t 22)),none⟩,
  ⟨(some 24),(.off (.t 1) 2),none⟩,
  ⟨(some 25),(.ld1 (.t 24)),none⟩,
  ⟨(some 26),(.cvt .u8 (.t 25)),none⟩,
  ⟨(some 27),(.mv (.t 4)),none⟩,
  ⟨(some 28),(.bin .shr (.t 27) (.k (.int .u64 8))),none⟩,
  ⟨(some 29),(.cvt .u8 (.t 28)),none⟩,
  ⟨(some 30),(.mv (.t 4)),none⟩,
  ⟨(some 31),(.cvt .u8 (.t 30)),none⟩,
  ⟨(some 32),(.mv (.t 5)),none⟩,
  ⟨(some 33),(.bin .shr (.t 32) (.k (.int .u64 8))),none⟩,
  ⟨(some 34),(.cvt .u8 (.t 33)),none⟩,
  ⟨(some 35),(.mv (.t 5)),none⟩,
  ⟨(some 36),(.cvt .u8 (.t 35)),none⟩,
  ⟨(some 37),(.off (.t 1) 5),none⟩,
  ⟨(some 38),(.ld1 (.t 37)),none⟩,
  ⟨(some 39),(.len .str (.t 38)),none⟩,
  ⟨(some 40),(.cvt .u8 (.t 39)),none⟩,
  ⟨(some 41),(.bldS 1 8 [(.int .u8 0)] [(0,(.t 19)),(1,(.t 23)),(2,(.t 26)),(3,(.t 29)),(4,(.t 31)),(5,(.t 34)),(6,(.t 36)),(7,(.t 40))]),none⟩,
  ⟨(some 6),(.mv (.t 41)),none⟩])
 (.seq (.reg [
  ⟨(some 42),(.mv (.t 6)),none⟩,
  ⟨(some 43),(.off (.t 1) 5),none⟩,
  ⟨(some 44),(.ld1 (.t 43)),none⟩,
  ⟨(some 45),(.app 1 1 (.t 42) (.t 44)),none⟩,
  ⟨(some 6),(.mv (.t 45)),none⟩])
 (.seq (.reg [
  ⟨(some 46),(.mv (.t 6)),none⟩,
  ⟨(some 47),(.off (.t 1) 6),none⟩,
  ⟨(some 48),(.ld1 (.t 47)),none⟩,
  ⟨(some 49),(.len .str (.t 48)),none⟩,
  ⟨(some 50),(.cvt .u8 (.t 49)),none⟩,
  ⟨(some 51),(.bldS 1 1 [(.int .u8 0)] [(0,(.t 50))]),none⟩,
  ⟨(some 52),(.app 1 1 (.t 46) (.t 51)),none⟩,
  ⟨(some 6),(.mv (.t 52)),none⟩])
 (.seq (.reg [
  ⟨(some 53),(.mv (.t 6)),none⟩,
  ⟨(some 54),(.off (.t 1) 6),none⟩,
  ⟨(some 55),(.ld1 (.t 54)),none⟩,
  ⟨(some 56),(.app 1 1 (.t 53) (.t 55)),none⟩,
  ⟨(some 2),(.mv (.t 56)),none⟩,
  ⟨(some 3),(.mv (.k (.int .i64 0))),none⟩])
 .ret))))))),[(.tmp 2),(.tmp 3)],57⟩
def callEncodeS (cal:FuncId->Bool)(O:Oracle)(N:Nat)(cCallMay:FuncId)(v0:IV)(H:Heap):Option (IV×Heap) :=
  ob (lbox H v0) fun r1 =>
  ob (lloadn r1.2 7 r1.1) fun t2 =>
  ob (O cCallMay [t2] r1.2) fun r3 =>
  ob (iun .not r3.1) fun t4 =>
  cnd t4
  (some ((.tuple [.nilSlice,(.int .i64 22)]),r3.2))
  (ob (loff r1.1 3) fun t5 =>
  ob (lload1 r3.2 t5) fun t6 =>
  ob (lbin .sub t6 (.int .i64 (-256))) fun t7 =>
  ob (loff r1.1 4) fun t8 =>
  ob (lload1 r3.2 t8) fun t9 =>
  ob (lbin .sub t9 (.int .i64 (-256))) fun t10 =>
  ob (loff r1.1 0) fun t11 =>
  ob (lload1 r3.2 t11) fun t12 =>
  ob (lbin .sub t12 (.int .i64 1)) fun t13 =>
  ob (lcvt .u8 t13) fun t14 =>
  ob (loff r1.1 1) fun t15 =>
  ob (lload1 r3.2 t15) fun t16 =>
  ob (lbin .sub t16 (.int .i64 (-4))) fun t17 =>
  ob (lcvt .u8 t17) fun t18 =>
  ob (loff r1.1 2) fun t19 =>
  ob (lload1 r3.2 t19) fun t20 =>
  ob (lcvt .u8 t20) fun t21 =>
  ob (lbin .shr t7 (.int .u64 8)) fun t22 =>
  ob (lcvt .u8 t22) fun t23 =>
  ob (lcvt .u8 t7) fun t24 =>
  ob (lbin .shr t10 (.int .u64 8)) fun t25 =>
  ob (lcvt .u8 t25) fun t26 =>
  ob (lcvt .u8 t10) fun t27 =>
  ob (loff r1.1 5) fun t28 =>
  ob (lload1 r3.2 t28) fun t29 =>
  ob (llen r3.2 .str t29) fun t30 =>
  ob (lcvt .u8 t30) fun t31 =>
  ob (lbldS r3.2 1 8 [(.int .u8 0)] [(0,t14),(1,t18),(2,t21),(3,t23),(4,t24),(5,t26),(6,t27),(7,t31)]) fun r32 =>
  ob (loff r1.1 5) fun t33 =>
  ob (lload1 r32.2 t33) fun t34 =>
  ob (lapp r32.2 1 1 r32.1 t34) fun r35 =>
  ob (loff r1.1 6) fun t36 =>
  ob (lload1 r35.2 t36) fun t37 =>
  ob (llen r35.2 .str t37) fun t38 =>
  ob (lcvt .u8 t38) fun t39 =>
  ob (lbldS r35.2 1 1 [(.int .u8 0)] [(0,t39)]) fun r40 =>
  ob (lapp r40.2 1 1 r35.1 r40.1) fun r41 =>
  ob (loff r1.1 6) fun t42 =>
  ob (lload1 r41.2 t42) fun t43 =>
  ob (lapp r41.2 1 1 r41.1 t43) fun r44 =>
  some ((.tuple [r44.1,(.int .i64 0)]),r44.2))
theorem callEncodeEq (cal:FuncId->Bool)(O:Oracle)(N:Nat)(cCallMay:FuncId)(v0:IV)(H:Heap):lrunK cal O N (callEncode cCallMay) [v0] H=callEncodeS cal O N cCallMay v0 H:=by
 kernel_rfl
def callScriptC0 (cCallEncode:FuncId):LC:=.loop (.seq (.reg [
  ⟨(some 15),(.bin .lss (.t 14) (.t 13)),none⟩])
 (.seq (.cond (.t 15) .skip
 (.exit 0))
 (.seq (.block 1 (.seq (.reg [
  ⟨(some 16),(.ix 7 (.t 12) (.t 14)),none⟩,
  ⟨(some 17),(.ldn 7 (.t 16)),none⟩,
  ⟨(some 6),(.zbox (.agg [(.int .i64 0),(.int .i64 0),(.int .i64 0),(.int .i64 0),(.int .i64 0),(.str []),(.str [])])),none⟩,
  ⟨none,(.st 7 (.t 6) (.t 17)),none⟩])
 (.seq (.reg [
  ⟨(some 19),(.ldn 7 (.t 6)),none⟩,
  ⟨(some 20),(.callF cCallEncode [(.t 19)]),none⟩,
  ⟨(some 18),(.mv (.t 20)),none⟩,
  ⟨(some 21),(.ext (.t 18) 0),none⟩,
  ⟨(some 22),(.ext (.t 18) 1),none⟩,
  ⟨(some 7),(.mv (.t 21)),none⟩,
  ⟨(some 8),(.mv (.t 22)),none⟩])
 (.seq (.seq (.reg [
  ⟨(some 23),(.mv (.t 8)),none⟩,
  ⟨(some 24),(.bin .neq (.t 23) (.k (.int .i64 0))),none⟩])
 (.cond (.t 24) (.seq (.reg [
  ⟨(some 25),(.mv (.t 8)),none⟩,
  ⟨(some 2),(.mv (.k .nilSlice)),none⟩,
  ⟨(some 3),(.mv (.t 25)),none⟩])
 .ret)
 .skip))
 (.reg [
  ⟨(some 26),(.mv (.t 4)),none⟩,
  ⟨(some 27),(.mv (.t 7)),none⟩,
  ⟨(some 28),(.app 1 1 (.t 26) (.t 27)),none⟩,
  ⟨(some 4),(.mv (.t 28)),none⟩])))))
 (.reg [
  ⟨(some 29),(.bin .add (.t 14) (.k (.int .i64 1))),none⟩,
  ⟨(some 14),(.mv (.t 29)),none⟩]))))
def callScriptC1 (cCallEncode:FuncId):LC:=.block 0 (callScriptC0 cCallEncode)
def callScriptC2 (cCallEncode:FuncId):LC:=.seq (.reg [
  ⟨(some 12),(.mv (.t 0)),none⟩,
  ⟨(some 13),(.len .slice (.t 12)),none⟩,
  ⟨(some 14),(.mv (.k (.int .i64 0))),none⟩]) (callScriptC1 cCallEncode)
def callScriptC3 (cCallEncode:FuncId):LC:=.seq (callScriptC2 cCallEncode) (.seq (.reg [
  ⟨(some 30),(.mv (.t 4)),none⟩,
  ⟨(some 2),(.mv (.t 30)),none⟩,
  ⟨(some 3),(.mv (.k (.int .i64 0))),none⟩])
 .ret)
def callScriptC4 (cCallEncode:FuncId):LC:=.seq (.reg [
  ⟨(some 4),(.mv (.k .nilSlice)),none⟩]) (callScriptC3 cCallEncode)
def callScriptC5 (cCallEncode:FuncId):LC:=.seq (.seq (.reg [
  ⟨(some 9),(.mv (.t 0)),none⟩,
  ⟨(some 10),(.len .slice (.t 9)),none⟩,
  ⟨(some 11),(.bin .gtr (.t 10) (.k (.int .i64 200))),none⟩])
 (.cond (.t 11) (.seq (.reg [
  ⟨(some 2),(.mv (.k .nilSlice)),none⟩,
  ⟨(some 3),(.mv (.k (.int .i64 22))),none⟩])
 .ret)
 .skip)) (callScriptC4 cCallEncode)
def callScriptC6 (cCallEncode:FuncId):LC:=.seq (.reg [
  ⟨(some 2),(.mv (.k .nilSlice)),none⟩,
  ⟨(some 3),(.mv (.k (.int .i64 0))),none⟩]) (callScriptC5 cCallEncode)
def callScriptC0S (cal:FuncId->Bool)(O:Oracle)(N:Nat)(cCallEncode:FuncId)(gE0:IV->Heap->Option (IV×Heap)):Nat->IV->IV->IV->IV->Heap->Option (IV×Heap)
 | 0,_,_,_,_,_=>none
 | n+1,v4,v12,v13,v14,H =>
  ob (lbin .lss v14 v13) fun t1 =>
  cnd t1
  (ob (lix 7 v12 v14) fun t2 =>
  ob (lloadn H 7 t2) fun t3 =>
  ob (lzbox H (.agg [(.int .i64 0),(.int .i64 0),(.int .i64 0),(.int .i64 0),(.int .i64 0),(.str []),(.str [])])) fun r4 =>
  ob (lstV r4.2 7 r4.1 t3) fun r5 =>
  ob (lloadn r5.2 7 r4.1) fun t6 =>
  ob (O cCallEncode [t6] r5.2) fun r7 =>
  ob (iextract r7.1 0) fun t8 =>
  ob (iextract r7.1 1) fun t9 =>
  ob (lbin .neq t9 (.int .i64 0)) fun t10 =>
  cnd t10
  (some ((.tuple [.nilSlice,t9]),r7.2))
  (ob (lapp r7.2 1 1 v4 t8) fun r11 =>
  ob (lbin .add v14 (.int .i64 1)) fun t12 =>
  callScriptC0S cal O N cCallEncode gE0 n r11.1 v12 v13 t12 r11.2))
  (gE0 v4 H)
theorem callScriptC0Eq (cal:FuncId->Bool)(O:Oracle)(N:Nat)(cCallEncode:FuncId)(gE0:IV->Heap->Option (IV×Heap))(hgE0:∀E H,k (.exit 0) E H=gE0 (lk E 4) H)(hR:∀E H,k .ret E H=resK [(.tmp 2),(.tmp 3)] [] E H):∀(n:Nat) (E:Sg) (H:Heap),itK (lxK cal O N (.seq (.reg [
  ⟨(some 15),(.bin .lss (.t 14) (.t 13)),none⟩])
 (.seq (.cond (.t 15) .skip
 (.exit 0))
 (.seq (.block 1 (.seq (.reg [
  ⟨(some 16),(.ix 7 (.t 12) (.t 14)),none⟩,
  ⟨(some 17),(.ldn 7 (.t 16)),none⟩,
  ⟨(some 6),(.zbox (.agg [(.int .i64 0),(.int .i64 0),(.int .i64 0),(.int .i64 0),(.int .i64 0),(.str []),(.str [])])),none⟩,
  ⟨none,(.st 7 (.t 6) (.t 17)),none⟩])
 (.seq (.reg [
  ⟨(some 19),(.ldn 7 (.t 6)),none⟩,
  ⟨(some 20),(.callF cCallEncode [(.t 19)]),none⟩,
  ⟨(some 18),(.mv (.t 20)),none⟩,
  ⟨(some 21),(.ext (.t 18) 0),none⟩,
  ⟨(some 22),(.ext (.t 18) 1),none⟩,
  ⟨(some 7),(.mv (.t 21)),none⟩,
  ⟨(some 8),(.mv (.t 22)),none⟩])
 (.seq (.seq (.reg [
  ⟨(some 23),(.mv (.t 8)),none⟩,
  ⟨(some 24),(.bin .neq (.t 23) (.k (.int .i64 0))),none⟩])
 (.cond (.t 24) (.seq (.reg [
  ⟨(some 25),(.mv (.t 8)),none⟩,
  ⟨(some 2),(.mv (.k .nilSlice)),none⟩,
  ⟨(some 3),(.mv (.t 25)),none⟩])
 .ret)
 .skip))
 (.reg [
  ⟨(some 26),(.mv (.t 4)),none⟩,
  ⟨(some 27),(.mv (.t 7)),none⟩,
  ⟨(some 28),(.app 1 1 (.t 26) (.t 27)),none⟩,
  ⟨(some 4),(.mv (.t 28)),none⟩])))))
 (.reg [
  ⟨(some 29),(.bin .add (.t 14) (.k (.int .i64 1))),none⟩,
  ⟨(some 14),(.mv (.t 29)),none⟩]))))) n E H k=callScriptC0S cal O N cCallEncode gE0 n (lk E 4) (lk E 12) (lk E 13) (lk E 14) H:=by
 have hk:k=(kE 0 (fun E H=>gE0 (lk E 4) H) (kR (resK [(.tmp 2),(.tmp 3)] []) k)):=(kE_mk hgE0 (kR_mk hR rfl));intro n
 induction n with
 | zero=>intro E H;rfl
 | succ n ih =>
  intro E H;rw[itK_succ,seqK_mk (g:=fun E H=>callScriptC0S cal O N cCallEncode gE0 n (lk E 4) (lk E 12) (lk E 13) (lk E 14) H) ih,hk];kernel_rfl
def callScriptC1S (cal:FuncId->Bool)(O:Oracle)(N:Nat)(cCallEncode:FuncId)(gN:IV->Heap->Option (IV×Heap))(v4 v12 v13 v14:IV)(H:Heap):Option (IV×Heap) :=
  callScriptC0S cal O N cCallEncode (fun v4 H=>gN v4 H) N v4 v12 v13 v14 H
theorem callScriptC1Eq (cal:FuncId->Bool)(O:Oracle)(N:Nat)(cCallEncode:FuncId)(gN:IV->Heap->Option (IV×Heap))(hgN:∀E H,k .normal E H=gN (lk E 4) H)(hR:∀E H,k .ret E H=resK [(.tmp 2),(.tmp 3)] [] E H):∀(E:Sg) (H:Heap),lxK cal O N (callScriptC1 cCallEncode) E H k=callScriptC1S cal O N cCallEncode gN (lk E 4) (lk E 12) (lk E 13) (lk E 14) H:=by
 have hk:k=(kN (fun E H=>gN (lk E 4) H) (kR (resK [(.tmp 2),(.tmp 3)] []) k)):=(kN_mk hgN (kR_mk hR rfl));intro E H;rw[hk];show lxK cal O N (callScriptC0 cCallEncode) E H (blockK 0 (kN (fun E H=>gN (lk E 4) H) (kR (resK [(.tmp 2),(.tmp 3)] []) k)))=_;exact callScriptC0Eq cal O N cCallEncode (k:=(blockK 0 (kN (fun E H=>gN (lk E 4) H) (kR (resK [(.tmp 2),(.tmp 3)] []) k)))) (fun v4 H=>gN v4 H) (fun _ _=>rfl) (fun _ _=>rfl) N E H
def callScriptC2S (cal:FuncId->Bool)(O:Oracle)(N:Nat)(cCallEncode:FuncId)(gN:IV->Heap->Option (IV×Heap))(v0 v4:IV)(H:Heap):Option (IV×Heap) :=
  ob (llen H .slice v0) fun t1 =>
  callScriptC1S cal O N cCallEncode (fun v4 H=>gN v4 H) v4 v0 t1 (.int .i64 0) H
theorem callScriptC2Eq (cal:FuncId->Bool)(O:Oracle)(N:Nat)(cCallEncode:FuncId)(gN:IV->Heap->Option (IV×Heap))(hgN:∀E H,k .normal E H=gN (lk E 4) H)(hR:∀E H,k .ret E H=resK [(.tmp 2),(.tmp 3)] [] E H):∀(E:Sg) (H:Heap),lxK cal O N (callScriptC2 cCallEncode) E H k=callScriptC2S cal O N cCallEncode gN (lk E 0) (lk E 4) H:=by
 have hk:k=(kN (fun E H=>gN (lk E 4) H) (kR (resK [(.tmp 2),(.tmp 3)] []) k)):=(kN_mk hgN (kR_mk hR rfl));intro E H;rw[hk];show lxK cal O N (.reg [
  ⟨(some 12),(.mv (.t 0)),none⟩,
  ⟨(some 13),(.len .slice (.t 12)),none⟩,
  ⟨(some 14),(.mv (.k (.int .i64 0))),none⟩]) E H (seqK (lxK cal O N (callScriptC1 cCallEncode)) (kN (fun E H=>gN (lk E 4) H) (kR (resK [(.tmp 2),(.tmp 3)] []) k)))=_
 rw[seqK_mk (g:=fun E H=>callScriptC1S cal O N cCallEncode (fun v4 H=>gN v4 H) (lk E 4) (lk E 12) (lk E 13) (lk E 14) H) (callScriptC1Eq cal O N cCallEncode (k:=(kN (fun E H=>gN (lk E 4) H) (kR (resK [(.tmp 2),(.tmp 3)] []) k))) (fun v4 H=>gN v4 H) (fun _ _=>rfl) (fun _ _=>rfl))];kernel_rfl
def callScriptC3S (cal:FuncId->Bool)(O:Oracle)(N:Nat)(cCallEncode:FuncId)(v0 v4:IV)(H:Heap):Option (IV×Heap) :=
  callScriptC2S cal O N cCallEncode (fun v4 H=>some ((.tuple [v4,(.int .i64 0)]),H)) v0 v4 H
theorem callScriptC3Eq (cal:FuncId->Bool)(O:Oracle)(N:Nat)(cCallEncode:FuncId)(hR:∀E H,k .ret E H=resK [(.tmp 2),(.tmp 3)] [] E H):∀(E:Sg) (H:Heap),lxK cal O N (callScriptC3 cCallEncode) E H k=callScriptC3S cal O N cCallEncode (lk E 0) (lk E 4) H:=by
 have hk:k=(kR (resK [(.tmp 2),(.tmp 3)] []) k):=(kR_mk hR rfl);intro E H;rw[hk];show lxK cal O N (callScriptC2 cCallEncode) E H (seqK (lxK cal O N (.seq (.reg [
  ⟨(some 30),(.mv (.t 4)),none⟩,
  ⟨(some 2),(.mv (.t 30)),none⟩,
  ⟨(some 3),(.mv (.k (.int .i64 0))),none⟩])
 .ret)) (kR (resK [(.tmp 2),(.tmp 3)] []) k))=_
 exact callScriptC2Eq cal O N cCallEncode (k:=(seqK (lxK cal O N (.seq (.reg [
  ⟨(some 30),(.mv (.t 4)),none⟩,
  ⟨(some 2),(.mv (.t 30)),none⟩,
  ⟨(some 3),(.mv (.k (.int .i64 0))),none⟩])
 .ret)) (kR (resK [(.tmp 2),(.tmp 3)] []) k))) (fun v4 H=>some ((.tuple [v4,(.int .i64 0)]),H)) (fun _ _=>rfl) (fun _ _=>rfl) E H
def callScriptC4S (cal:FuncId->Bool)(O:Oracle)(N:Nat)(cCallEncode:FuncId)(v0:IV)(H:Heap):Option (IV×Heap) :=
  callScriptC3S cal O N cCallEncode v0 .nilSlice H
theorem callScriptC4Eq (cal:FuncId->Bool)(O:Oracle)(N:Nat)(cCallEncode:FuncId)(hR:∀E H,k .ret E H=resK [(.tmp 2),(.tmp 3)] [] E H):∀(E:Sg) (H:Heap),lxK cal O N (callScriptC4 cCallEncode) E H k=callScriptC4S cal O N cCallEncode (lk E 0) H:=by
 have hk:k=(kR (resK [(.tmp 2),(.tmp 3)] []) k):=(kR_mk hR rfl);intro E H;rw[hk];show lxK cal O N (.reg [
  ⟨(some 4),(.mv (.k .nilSlice)),none⟩]) E H (seqK (lxK cal O N (callScriptC3 cCallEncode)) (kR (resK [(.tmp 2),(.tmp 3)] []) k))=_
 rw[seqK_mk (g:=fun E H=>callScriptC3S cal O N cCallEncode (lk E 0) (lk E 4) H) (callScriptC3Eq cal O N cCallEncode (k:=(kR (resK [(.tmp 2),(.tmp 3)] []) k)) (fun _ _=>rfl))];kernel_rfl
def callScriptC5S (cal:FuncId->Bool)(O:Oracle)(N:Nat)(cCallEncode:FuncId)(v0:IV)(H:Heap):Option (IV×Heap) :=
  ob (llen H .slice v0) fun t1 =>
  ob (lbin .gtr t1 (.int .i64 200)) fun t2 =>
  cnd t2
  (some ((.tuple [.nilSlice,(.int .i64 22)]),H))
  (callScriptC4S cal O N cCallEncode v0 H)
theorem callScriptC5Eq (cal:FuncId->Bool)(O:Oracle)(N:Nat)(cCallEncode:FuncId)(hR:∀E H,k .ret E H=resK [(.tmp 2),(.tmp 3)] [] E H):∀(E:Sg) (H:Heap),lxK cal O N (callScriptC5 cCallEncode) E H k=callScriptC5S cal O N cCallEncode (lk E 0) H:=by
 have hk:k=(kR (resK [(.tmp 2),(.tmp 3)] []) k):=(kR_mk hR rfl);intro E H;rw[hk];show lxK cal O N (.seq (.reg [
  ⟨(some 9),(.mv (.t 0)),none⟩,
  ⟨(some 10),(.len .slice (.t 9)),none⟩,
  ⟨(some 11),(.bin .gtr (.t 10) (.k (.int .i64 200))),none⟩])
 (.cond (.t 11) (.seq (.reg [
  ⟨(some 2),(.mv (.k .nilSlice)),none⟩,
  ⟨(some 3),(.mv (.k (.int .i64 22))),none⟩])
 .ret)
 .skip)) E H (seqK (lxK cal O N (callScriptC4 cCallEncode)) (kR (resK [(.tmp 2),(.tmp 3)] []) k))=_
 rw[seqK_mk (g:=fun E H=>callScriptC4S cal O N cCallEncode (lk E 0) H) (callScriptC4Eq cal O N cCallEncode (k:=(kR (resK [(.tmp 2),(.tmp 3)] []) k)) (fun _ _=>rfl))];kernel_rfl
def callScriptC6S (cal:FuncId->Bool)(O:Oracle)(N:Nat)(cCallEncode:FuncId)(v0:IV)(H:Heap):Option (IV×Heap) :=
  callScriptC5S cal O N cCallEncode v0 H
theorem callScriptC6Eq (cal:FuncId->Bool)(O:Oracle)(N:Nat)(cCallEncode:FuncId)(hR:∀E H,k .ret E H=resK [(.tmp 2),(.tmp 3)] [] E H):∀(E:Sg) (H:Heap),lxK cal O N (callScriptC6 cCallEncode) E H k=callScriptC6S cal O N cCallEncode (lk E 0) H:=by
 have hk:k=(kR (resK [(.tmp 2),(.tmp 3)] []) k):=(kR_mk hR rfl);intro E H;rw[hk];show lxK cal O N (.reg [
  ⟨(some 2),(.mv (.k .nilSlice)),none⟩,
  ⟨(some 3),(.mv (.k (.int .i64 0))),none⟩]) E H (seqK (lxK cal O N (callScriptC5 cCallEncode)) (kR (resK [(.tmp 2),(.tmp 3)] []) k))=_
 rw[seqK_mk (g:=fun E H=>callScriptC5S cal O N cCallEncode (lk E 0) H) (callScriptC5Eq cal O N cCallEncode (k:=(kR (resK [(.tmp 2),(.tmp 3)] []) k)) (fun _ _=>rfl))];kernel_rfl
def callScript (cCallEncode:FuncId):LFun:=⟨(callScriptC6 cCallEncode),[(.tmp 2),(.tmp 3)],31⟩
def callScriptS (cal:FuncId->Bool)(O:Oracle)(N:Nat)(cCallEncode:FuncId)(v0:IV)(H:Heap):Option (IV×Heap) :=
  callScriptC6S cal O N cCallEncode v0 H
theorem callScriptEq (cal:FuncId->Bool)(O:Oracle)(N:Nat)(cCallEncode:FuncId)(v0:IV)(H:Heap):lrunK cal O N (callScript cCallEncode) [v0] H=callScriptS cal O N cCallEncode v0 H:=by
 show lxK cal O N (callScriptC6 cCallEncode) (initFrom 0 [v0]) H (endK [(.tmp 2),(.tmp 3)])=_;exact callScriptC6Eq cal O N cCallEncode (k:=(endK [(.tmp 2),(.tmp 3)])) (fun _ _=>rfl) (initFrom 0 [v0]) H
def callDecodeC0 (cCallDecode1 cCallDecode2 cCallDecode3:FuncId):LC:=.loop (.seq (.seq (.reg [
  ⟨(some 11),(.ld1 (.t 1)),none⟩,
  ⟨(some 12),(.len .slice (.t 11)),none⟩,
  ⟨(some 13),(.bin .gtr (.t 12) (.k (.int .i64 0))),none⟩,
  ⟨(some 14),(.mv (.t 13)),none⟩,
  ⟨(some 15),(.mv (.t 6)),(some (14,true))⟩,
  ⟨(some 16),(.len .slice (.t 15)),(some (14,true))⟩,
  ⟨(some 17),(.bin .lss (.t 16) (.k (.int .i64 200))),(some (14,true))⟩,
  ⟨(some 18),(.pick (.t 14) (.t 17) (.k (.bool false))),none⟩])
 (.cond (.t 18) .skip
 (.exit 0)))
 (.block 1 (.seq (.reg [
  ⟨(some 7),(.zbox (.agg [(.int .i64 0),(.int .i64 0),(.int .i64 0),(.int .i64 0),(.int .i64 0),(.str []),(.str [])])),none⟩])
 (.seq (.reg [
  ⟨(some 19),(.ld1 (.t 3)),none⟩,
  ⟨(some 20),(.callV (.t 19) []),none⟩,
  ⟨(some 21),(.bin .rem (.t 20) (.k (.int .i64 20))),none⟩,
  ⟨(some 22),(.bin .add (.t 21) (.k (.int .i64 1))),none⟩,
  ⟨(some 23),(.off (.t 7) 0),none⟩,
  ⟨none,(.st 1 (.t 23) (.t 22)),none⟩])
 (.seq (.reg [
  ⟨(some 24),(.ld1 (.t 3)),none⟩,
  ⟨(some 25),(.callV (.t 24) []),none⟩,
  ⟨(some 26),(.bin .rem (.t 25) (.k (.int .i64 40))),none⟩,
  ⟨(some 27),(.bin .add (.t 26) (.k (.int .i64 (-4)))),none⟩,
  ⟨(some 28),(.off (.t 7) 1),none⟩,
  ⟨none,(.st 1 (.t 28) (.t 27)),none⟩])
 (.seq (.reg [
  ⟨(some 29),(.ld1 (.t 3)),none⟩,
  ⟨(some 30),(.callV (.t 29) []),none⟩,
  ⟨(some 31),(.bin .rem (.t 30) (.k (.int .i64 64))),none⟩,
  ⟨(some 32),(.off (.t 7) 2),none⟩,
  ⟨none,(.st 1 (.t 32) (.t 31)),none⟩])
 (.seq (.reg [
  ⟨(some 33),(.mv (.t 4)),none⟩,
  ⟨(some 34),(.callV (.t 33) []),none⟩,
  ⟨(some 35),(.off (.t 7) 3),none⟩,
  ⟨none,(.st 1 (.t 35) (.t 34)),none⟩])
 (.seq (.reg [
  ⟨(some 36),(.mv (.t 4)),none⟩,
  ⟨(some 37),(.callV (.t 36) []),none⟩,
  ⟨(some 38),(.off (.t 7) 4),none⟩,
  ⟨none,(.st 1 (.t 38) (.t 37)),none⟩])
 (.seq (.reg [
  ⟨(some 39),(.mv (.t 5)),none⟩,
  ⟨(some 40),(.callV (.t 39) []),none⟩,
  ⟨(some 41),(.off (.t 7) 5),none⟩,
  ⟨none,(.st 1 (.t 41) (.t 40)),none⟩])
 (.seq (.reg [
  ⟨(some 42),(.mv (.t 5)),none⟩,
  ⟨(some 43),(.callV (.t 42) []),none⟩,
  ⟨(some 44),(.off (.t 7) 6),none⟩,
  ⟨none,(.st 1 (.t 44) (.t 43)),none⟩])
 (.reg [
  ⟨(some 45),(.mv (.t 6)),none⟩,
  ⟨(some 46),(.ldn 7 (.t 7)),none⟩,
  ⟨(some 47),(.bldS 7 1 [(.int .i64 0),(.int .i64 0),(.int .i64 0),(.int .i64 0),(.int .i64 0),(.str []),(.str [])] [(0,(.t 46))]),none⟩,
  ⟨(some 48),(.app 7 72 (.t 45) (.t 47)),none⟩,
  ⟨(some 6),(.mv (.t 48)),none⟩])))))))))))
def callDecodeC1 (cCallDecode1 cCallDecode2 cCallDecode3:FuncId):LC:=.block 0 (callDecodeC0 cCallDecode1 cCallDecode2 cCallDecode3)
def callDecodeC2 (cCallDecode1 cCallDecode2 cCallDecode3:FuncId):LC:=.seq (callDecodeC1 cCallDecode1 cCallDecode2 cCallDecode3) (.seq (.reg [
  ⟨(some 49),(.mv (.t 6)),none⟩,
  ⟨(some 2),(.mv (.t 49)),none⟩])
 .ret)
def callDecodeC3 (cCallDecode1 cCallDecode2 cCallDecode3:FuncId):LC:=.seq (.reg [
  ⟨(some 6),(.mv (.k .nilSlice)),none⟩]) (callDecodeC2 cCallDecode1 cCallDecode2 cCallDecode3)
def callDecodeC4 (cCallDecode1 cCallDecode2 cCallDecode3:FuncId):LC:=.seq (.reg [
  ⟨(some 10),(.mkF (.func cCallDecode3) [] [(.t 3)]),none⟩,
  ⟨(some 5),(.mv (.t 10)),none⟩]) (callDecodeC3 cCallDecode1 cCallDecode2 cCallDecode3)
def callDecodeC5 (cCallDecode1 cCallDecode2 cCallDecode3:FuncId):LC:=.seq (.reg [
  ⟨(some 9),(.mkF (.func cCallDecode2) [] [(.t 3)]),none⟩,
  ⟨(some 4),(.mv (.t 9)),none⟩]) (callDecodeC4 cCallDecode1 cCallDecode2 cCallDecode3)
def callDecodeC6 (cCallDecode1 cCallDecode2 cCallDecode3:FuncId):LC:=.seq (.reg [
  ⟨(some 8),(.mkF (.func cCallDecode1) [] [(.t 1)]),none⟩,
  ⟨(some 3),(.zbox .nilFunc),none⟩,
  ⟨none,(.st 1 (.t 3) (.t 8)),none⟩]) (callDecodeC5 cCallDecode1 cCallDecode2 cCallDecode3)
def callDecodeC7 (cCallDecode1 cCallDecode2 cCallDecode3:FuncId):LC:=.seq (.reg [
  ⟨(some 1),(.box (.t 0)),none⟩,
  ⟨(some 2),(.mv (.k .nilSlice)),none⟩]) (callDecodeC6 cCallDecode1 cCallDecode2 cCallDecode3)
def callDecodeC0S (cal:FuncId->Bool)(O:Oracle)(N:Nat)(cCallDecode1 cCallDecode2 cCallDecode3:FuncId)(gE0:IV->Heap->Option (IV×Heap)):Nat->IV->IV->IV->IV->IV->Heap->Option (IV×Heap)
 | 0,_,_,_,_,_,_=>none
 | n+1,v1,v3,v4,v5,v6,H =>
  ob (lload1 H v1) fun t1 =>
  ob (llen H .slice t1) fun t2 =>
  ob (lbin .gtr t2 (.int .i64 0)) fun t3 =>
  ob (gq (isB t3 true) (some v6)) fun t4 =>
  ob (gq (isB t3 true) (llen H .slice t4)) fun t5 =>
  ob (gq (isB t3 true) (lbin .lss t5 (.int .i64 200))) fun t6 =>
  ob (lpick t3 t6 (.bool false)) fun t7 =>
  cnd t7
  (ob (lzbox H (.agg [(.int .i64 0),(.int .i64 0),(.int .i64 0),(.int .i64 0),(.int .i64 0),(.str []),(.str [])])) fun r8 =>
  ob (lload1 r8.2 v3) fun t9 =>
  ob (lcallV cal O r8.2 t9 []) fun r10 =>
  ob (lbin .rem r10.1 (.int .i64 20)) fun t11 =>
  ob (lbin .add t11 (.int .i64 1)) fun t12 =>
  ob (loff r8.1 0) fun t13 =>
  ob (lstV r10.2 1 t13 t12) fun r14 =>
  ob (lload1 r14.2 v3) fun t15 =>
  ob (lcallV cal O r14.2 t15 []) fun r16 =>
  ob (lbin .rem r16.1 (.int .i64 40)) fun t17 =>
  ob (lbin .add t17 (.int .i64 (-4))) fun t18 =>
  ob (loff r8.1 1) fun t19 =>
  ob (lstV r16.2 1 t19 t18) fun r20 =>
  ob (lload1 r20.2 v3) fun t21 =>
  ob (lcallV cal O r20.2 t21 []) fun r22 =>
  ob (lbin .rem r22.1 (.int .i64 64)) fun t23 =>
  ob (loff r8.1 2) fun t24 =>
  ob (lstV r22.2 1 t24 t23) fun r25 =>
  ob (lcallV cal O r25.2 v4 []) fun r26 =>
  ob (loff r8.1 3) fun t27 =>
  ob (lstV r26.2 1 t27 r26.1) fun r28 =>
  ob (lcallV cal O r28.2 v4 []) fun r29 =>
  ob (loff r8.1 4) fun t30 =>
  ob (lstV r29.2 1 t30 r29.1) fun r31 =>
  ob (lcallV cal O r31.2 v5 []) fun r32 =>
  ob (loff r8.1 5) fun t33 =>
  ob (lstV r32.2 1 t33 r32.1) fun r34 =>
  ob (lcallV cal O r34.2 v5 []) fun r35 =>
  ob (loff r8.1 6) fun t36 =>
  ob (lstV r35.2 1 t36 r35.1) fun r37 =>
  ob (lloadn r37.2 7 r8.1) fun t38 =>
  ob (lbldS r37.2 7 1 [(.int .i64 0),(.int .i64 0),(.int .i64 0),(.int .i64 0),(.int .i64 0),(.str []),(.str [])] [(0,t38)]) fun r39 =>
  ob (lapp r39.2 7 72 v6 r39.1) fun r40 =>
  callDecodeC0S cal O N cCallDecode1 cCallDecode2 cCallDecode3 gE0 n v1 v3 v4 v5 r40.1 r40.2)
  (gE0 v6 H)
theorem callDecodeC0Eq (cal:FuncId->Bool)(O:Oracle)(N:Nat)(cCallDecode1 cCallDecode2 cCallDecode3:FuncId)(gE0:IV->Heap->Option (IV×Heap))(hgE0:∀E H,k (.exit 0) E H=gE0 (lk E 6) H):∀(n:Nat) (E:Sg) (H:Heap),itK (lxK cal O N (.seq (.seq (.reg [
  ⟨(some 11),(.ld1 (.t 1)),none⟩,
  ⟨(some 12),(.len .slice (.t 11)),none⟩,
  ⟨(some 13),(.bin .gtr (.t 12) (.k (.int .i64 0))),none⟩,
  ⟨(some 14),(.mv (.t 13)),none⟩,
  ⟨(some 15),(.mv (.t 6)),(some (14,true))⟩,
  ⟨(some 16),(.len .slice (.t 15)),(some (14,true))⟩,
  ⟨(some 17),(.bin .lss (.t 16) (.k (.int .i64 200))),(some (14,true))⟩,
  ⟨(some 18),(.pick (.t 14) (.t 17) (.k (.bool false))),none⟩])
 (.cond (.t 18) .skip
 (.exit 0)))
 (.block 1 (.seq (.reg [
  ⟨(some 7),(.zbox (.agg [(.int .i64 0),(.int .i64 0),(.int .i64 0),(.int .i64 0),(.int .i64 0),(.str []),(.str [])])),none⟩])
 (.seq (.reg [
  ⟨(some 19),(.ld1 (.t 3)),none⟩,
  ⟨(some 20),(.callV (.t 19) []),none⟩,
  ⟨(some 21),(.bin .rem (.t 20) (.k (.int .i64 20))),none⟩,
  ⟨(some 22),(.bin .add (.t 21) (.k (.int .i64 1))),none⟩,
  ⟨(some 23),(.off (.t 7) 0),none⟩,
  ⟨none,(.st 1 (.t 23) (.t 22)),none⟩])
 (.seq (.reg [
  ⟨(some 24),(.ld1 (.t 3)),none⟩,
  ⟨(some 25),(.callV (.t 24) []),none⟩,
  ⟨(some 26),(.bin .rem (.t 25) (.k (.int .i64 40))),none⟩,
  ⟨(some 27),(.bin .add (.t 26) (.k (.int .i64 (-4)))),none⟩,
  ⟨(some 28),(.off (.t 7) 1),none⟩,
  ⟨none,(.st 1 (.t 28) (.t 27)),none⟩])
 (.seq (.reg [
  ⟨(some 29),(.ld1 (.t 3)),none⟩,
  ⟨(some 30),(.callV (.t 29) []),none⟩,
  ⟨(some 31),(.bin .rem (.t 30) (.k (.int .i64 64))),none⟩,
  ⟨(some 32),(.off (.t 7) 2),none⟩,
  ⟨none,(.st 1 (.t 32) (.t 31)),none⟩])
 (.seq (.reg [
  ⟨(some 33),(.mv (.t 4)),none⟩,
  ⟨(some 34),(.callV (.t 33) []),none⟩,
  ⟨(some 35),(.off (.t 7) 3),none⟩,
  ⟨none,(.st 1 (.t 35) (.t 34)),none⟩])
 (.seq (.reg [
  ⟨(some 36),(.mv (.t 4)),none⟩,
  ⟨(some 37),(.callV (.t 36) []),none⟩,
  ⟨(some 38),(.off (.t 7) 4),none⟩,
  ⟨none,(.st 1 (.t 38) (.t 37)),none⟩])
 (.seq (.reg [
  ⟨(some 39),(.mv (.t 5)),none⟩,
  ⟨(some 40),(.callV (.t 39) []),none⟩,
  ⟨(some 41),(.off (.t 7) 5),none⟩,
  ⟨none,(.st 1 (.t 41) (.t 40)),none⟩])
 (.seq (.reg [
  ⟨(some 42),(.mv (.t 5)),none⟩,
  ⟨(some 43),(.callV (.t 42) []),none⟩,
  ⟨(some 44),(.off (.t 7) 6),none⟩,
  ⟨none,(.st 1 (.t 44) (.t 43)),none⟩])
 (.reg [
  ⟨(some 45),(.mv (.t 6)),none⟩,
  ⟨(some 46),(.ldn 7 (.t 7)),none⟩,
  ⟨(some 47),(.bldS 7 1 [(.int .i64 0),(.int .i64 0),(.int .i64 0),(.int .i64 0),(.int .i64 0),(.str []),(.str [])] [(0,(.t 46))]),none⟩,
  ⟨(some 48),(.app 7 72 (.t 45) (.t 47)),none⟩,
  ⟨(some 6),(.mv (.t 48)),none⟩])))))))))))) n E H k=callDecodeC0S cal O N cCallDecode1 cCallDecode2 cCallDecode3 gE0 n (lk E 1) (lk E 3) (lk E 4) (lk E 5) (lk E 6) H:=by
 have hk:k=(kE 0 (fun E H=>gE0 (lk E 6) H) k):=(kE_mk hgE0 rfl);intro n
 induction n with
 | zero=>intro E H;rfl
 | succ n ih =>
  intro E H;rw[itK_succ,seqK_mk (g:=fun E H=>callDecodeC0S cal O N cCallDecode1 cCallDecode2 cCallDecode3 gE0 n (lk E 1) (lk E 3) (lk E 4) (lk E 5) (lk E 6) H) ih,hk];kernel_rfl
def callDecodeC1S (cal:FuncId->Bool)(O:Oracle)(N:Nat)(cCallDecode1 cCallDecode2 cCallDecode3:FuncId)(gN:IV->Heap->Option (IV×Heap))(v1 v3 v4 v5 v6:IV)(H:Heap):Option (IV×Heap) :=
  callDecodeC0S cal O N cCallDecode1 cCallDecode2 cCallDecode3 (fun v6 H=>gN v6 H) N v1 v3 v4 v5 v6 H
theorem callDecodeC1Eq (cal:FuncId->Bool)(O:Oracle)(N:Nat)(cCallDecode1 cCallDecode2 cCallDecode3:FuncId)(gN:IV->Heap->Option (IV×Heap))(hgN:∀E H,k .normal E H=gN (lk E 6) H):∀(E:Sg) (H:Heap),lxK cal O N (callDecodeC1 cCallDecode1 cCallDecode2 cCallDecode3) E H k=callDecodeC1S cal O N cCallDecode1 cCallDecode2 cCallDecode3 gN (lk E 1) (lk E 3) (lk E 4) (lk E 5) (lk E 6) H:=by
 have hk:k=(kN (fun E H=>gN (lk E 6) H) k):=(kN_mk hgN rfl);intro E H;rw[hk];show lxK cal O N (callDecodeC0 cCallDecode1 cCallDecode2 cCallDecode3) E H (blockK 0 (kN (fun E H=>gN (lk E 6) H) k))=_;exact callDecodeC0Eq cal O N cCallDecode1 cCallDecode2 cCallDecode3 (k:=(blockK 0 (kN (fun E H=>gN (lk E 6) H) k))) (fun v6 H=>gN v6 H) (fun _ _=>rfl) N E H
def callDecodeC2S (cal:FuncId->Bool)(O:Oracle)(N:Nat)(cCallDecode1 cCallDecode2 cCallDecode3:FuncId)(v1 v3 v4 v5 v6:IV)(H:Heap):Option (IV×Heap) :=
  callDecodeC1S cal O N cCallDecode1 cCallDecode2 cCallDecode3 (fun v6 H=>some (v6,H)) v1 v3 v4 v5 v6 H
theorem callDecodeC2Eq (cal:FuncId->Bool)(O:Oracle)(N:Nat)(cCallDecode1 cCallDecode2 cCallDecode3:FuncId)(hR:∀E H,k .ret E H=resK [(.tmp 2)] [] E H):∀(E:Sg) (H:Heap),lxK cal O N (callDecodeC2 cCallDecode1 cCallDecode2 cCallDecode3) E H k=callDecodeC2S cal O N cCallDecode1 cCallDecode2 cCallDecode3 (lk E 1) (lk E 3) (lk E 4) (lk E 5) (lk E 6) H:=by
 have hk:k=(kR (resK [(.tmp 2)] []) k):=(kR_mk hR rfl);intro E H;rw[hk];show lxK cal O N (callDecodeC1 cCallDecode1 cCallDecode2 cCallDecode3) E H (seqK (lxK cal O N (.seq (.reg [
  ⟨(some 49),(.mv (.t 6)),none⟩,
  ⟨(some 2),(.mv (.t 49)),none⟩])
 .ret)) (kR (resK [(.tmp 2)] []) k))=_
 exact callDecodeC1Eq cal O N cCallDecode1 cCallDecode2 cCallDecode3 (k:=(seqK (lxK cal O N (.seq (.reg [
  ⟨(some 49),(.mv (.t 6)),none⟩,
  ⟨(some 2),(.mv (.t 49)),none⟩])
 .ret)) (kR (resK [(.tmp 2)] []) k))) (fun v6 H=>some (v6,H)) (fun _ _=>rfl) E H
def callDecodeC3S (cal:FuncId->Bool)(O:Oracle)(N:Nat)(cCallDecode1 cCallDecode2 cCallDecode3:FuncId)(v1 v3 v4 v5:IV)(H:Heap):Option (IV×Heap) :=
  callDecodeC2S cal O N cCallDecode1 cCallDecode2 cCallDecode3 v1 v3 v4 v5 .nilSlice H
theorem callDecodeC3Eq (cal:FuncId->Bool)(O:Oracle)(N:Nat)(cCallDecode1 cCallDecode2 cCallDecode3:FuncId)(hR:∀E H,k .ret E H=resK [(.tmp 2)] [] E H):∀(E:Sg) (H:Heap),lxK cal O N (callDecodeC3 cCallDecode1 cCallDecode2 cCallDecode3) E H k=callDecodeC3S cal O N cCallDecode1 cCallDecode2 cCallDecode3 (lk E 1) (lk E 3) (lk E 4) (lk E 5) H:=by
 have hk:k=(kR (resK [(.tmp 2)] []) k):=(kR_mk hR rfl);intro E H;rw[hk];show lxK cal O N (.reg [
  ⟨(some 6),(.mv (.k .nilSlice)),none⟩]) E H (seqK (lxK cal O N (callDecodeC2 cCallDecode1 cCallDecode2 cCallDecode3)) (kR (resK [(.tmp 2)] []) k))=_
 rw[seqK_mk (g:=fun E H=>callDecodeC2S cal O N cCallDecode1 cCallDecode2 cCallDecode3 (lk E 1) (lk E 3) (lk E 4) (lk E 5) (lk E 6) H) (callDecodeC2Eq cal O N cCallDecode1 cCallDecode2 cCallDecode3 (k:=(kR (resK [(.tmp 2)] []) k)) (fun _ _=>rfl))];kernel_rfl
def callDecodeC4S (cal:FuncId->Bool)(O:Oracle)(N:Nat)(cCallDecode1 cCallDecode2 cCallDecode3:FuncId)(v1 v3 v4:IV)(H:Heap):Option (IV×Heap) :=
  ob (some (.func (.func cCallDecode3) [] [v3])) fun t1 =>
  callDecodeC3S cal O N cCallDecode1 cCallDecode2 cCallDecode3 v1 v3 v4 t1 H
theorem callDecodeC4Eq (cal:FuncId->Bool)(O:Oracle)(N:Nat)(cCallDecode1 cCallDecode2 cCallDecode3:FuncId)(hR:∀E H,k .ret E H=resK [(.tmp 2)] [] E H):∀(E:Sg) (H:Heap),lxK cal O N (callDecodeC4 cCallDecode1 cCallDecode2 cCallDecode3) E H k=callDecodeC4S cal O N cCallDecode1 cCallDecode2 cCallDecode3 (lk E 1) (lk E 3) (lk E 4) H:=by
 have hk:k=(kR (resK [(.tmp 2)] []) k):=(kR_mk hR rfl);intro E H;rw[hk];show lxK cal O N (.reg [
  ⟨(some 10),(.mkF (.func cCallDecode3) [] [(.t 3)]),none⟩,
  ⟨(some 5),(.mv (.t 10)),none⟩]) E H (seqK (lxK cal O N (callDecodeC3 cCallDecode1 cCallDecode2 cCallDecode3)) (kR (resK [(.tmp 2)] []) k))=_
 rw[seqK_mk (g:=fun E H=>callDecodeC3S cal O N cCallDecode1 cCallDecode2 cCallDecode3 (lk E 1) (lk E 3) (lk E 4) (lk E 5) H) (callDecodeC3Eq cal O N cCallDecode1 cCallDecode2 cCallDecode3 (k:=(kR (resK [(.tmp 2)] []) k)) (fun _ _=>rfl))];kernel_rfl
def callDecodeC5S (cal:FuncId->Bool)(O:Oracle)(N:Nat)(cCallDecode1 cCallDecode2 cCallDecode3:FuncId)(v1 v3:IV)(H:Heap):Option (IV×Heap) :=
  ob (some (.func (.func cCallDecode2) [] [v3])) fun t1 =>
  callDecodeC4S cal O N cCallDecode1 cCallDecode2 cCallDecode3 v1 v3 t1 H
theorem callDecodeC5Eq (cal:FuncId->Bool)(O:Oracle)(N:Nat)(cCallDecode1 cCallDecode2 cCallDecode3:FuncId)(hR:∀E H,k .ret E H=resK [(.tmp 2)] [] E H):∀(E:Sg) (H:Heap),lxK cal O N (callDecodeC5 cCallDecode1 cCallDecode2 cCallDecode3) E H k=callDecodeC5S cal O N cCallDecode1 cCallDecode2 cCallDecode3 (lk E 1) (lk E 3) H:=by
 have hk:k=(kR (resK [(.tmp 2)] []) k):=(kR_mk hR rfl);intro E H;rw[hk];show lxK cal O N (.reg [
  ⟨(some 9),(.mkF (.func cCallDecode2) [] [(.t 3)]),none⟩,
  ⟨(some 4),(.mv (.t 9)),none⟩]) E H (seqK (lxK cal O N (callDecodeC4 cCallDecode1 cCallDecode2 cCallDecode3)) (kR (resK [(.tmp 2)] []) k))=_
 rw[seqK_mk (g:=fun E H=>callDecodeC4S cal O N cCallDecode1 cCallDecode2 cCallDecode3 (lk E 1) (lk E 3) (lk E 4) H) (callDecodeC4Eq cal O N cCallDecode1 cCallDecode2 cCallDecode3 (k:=(kR (resK [(.tmp 2)] []) k)) (fun _ _=>rfl))];kernel_rfl
def callDecodeC6S (cal:FuncId->Bool)(O:Oracle)(N:Nat)(cCallDecode1 cCallDecode2 cCallDecode3:FuncId)(v1:IV)(H:Heap):Option (IV×Heap) :=
  ob (some (.func (.func cCallDecode1) [] [v1])) fun t1 =>
  ob (lzbox H .nilFunc) fun r2 =>
  ob (lstV r2.2 1 r2.1 t1) fun r3 =>
  callDecodeC5S cal O N cCallDecode1 cCallDecode2 cCallDecode3 v1 r2.1 r3.2
theorem callDecodeC6Eq (cal:FuncId->Bool)(O:Oracle)(N:Nat)(cCallDecode1 cCallDecode2 cCallDecode3:FuncId)(hR:∀E H,k .ret E H=resK [(.tmp 2)] [] E H):∀(E:Sg) (H:Heap),lxK cal O N (callDecodeC6 cCallDecode1 cCallDecode2 cCallDecode3) E H k=callDecodeC6S cal O N cCallDecode1 cCallDecode2 cCallDecode3 (lk E 1) H:=by
 have hk:k=(kR (resK [(.tmp 2)] []) k):=(kR_mk hR rfl);intro E H;rw[hk];show lxK cal O N (.reg [
  ⟨(some 8),(.mkF (.func cCallDecode1) [] [(.t 1)]),none⟩,
  ⟨(some 3),(.zbox .nilFunc),none⟩,
  ⟨none,(.st 1 (.t 3) (.t 8)),none⟩]) E H (seqK (lxK cal O N (callDecodeC5 cCallDecode1 cCallDecode2 cCallDecode3)) (kR (resK [(.tmp 2)] []) k))=_
 rw[seqK_mk (g:=fun E H=>callDecodeC5S cal O N cCallDecode1 cCallDecode2 cCallDecode3 (lk E 1) (lk E 3) H) (callDecodeC5Eq cal O N cCallDecode1 cCallDecode2 cCallDecode3 (k:=(kR (resK [(.tmp 2)] []) k)) (fun _ _=>rfl))];kernel_rfl
def callDecodeC7S (cal:FuncId->Bool)(O:Oracle)(N:Nat)(cCallDecode1 cCallDecode2 cCallDecode3:FuncId)(v0:IV)(H:Heap):Option (IV×Heap) :=
  ob (lbox H v0) fun r1 =>
  callDecodeC6S cal O N cCallDecode1 cCallDecode2 cCallDecode3 r1.1 r1.2
theorem callDecodeC7Eq (cal:FuncId->Bool)(O:Oracle)(N:Nat)(cCallDecode1 cCallDecode2 cCallDecode3:FuncId)(hR:∀E H,k .ret E H=resK [(.tmp 2)] [] E H):∀(E:Sg) (H:Heap),lxK cal O N (callDecodeC7 cCallDecode1 cCallDecode2 cCallDecode3) E H k=callDecodeC7S cal O N cCallDecode1 cCallDecode2 cCallDecode3 (lk E 0) H:=by
 have hk:k=(kR (resK [(.tmp 2)] []) k):=(kR_mk hR rfl);intro E H;rw[hk];show lxK cal O N (.reg [
  ⟨(some 1),(.box (.t 0)),none⟩,
  ⟨(some 2),(.mv (.k .nilSlice)),none⟩]) E H (seqK (lxK cal O N (callDecodeC6 cCallDecode1 cCallDecode2 cCallDecode3)) (kR (resK [(.tmp 2)] []) k))=_
 rw[seqK_mk (g:=fun E H=>callDecodeC6S cal O N cCallDecode1 cCallDecode2 cCallDecode3 (lk E 1) H) (callDecodeC6Eq cal O N cCallDecode1 cCallDecode2 cCallDecode3 (k:=(kR (resK [(.tmp 2)] []) k)) (fun _ _=>rfl))];kernel_rfl
def callDecode (cCallDecode1 cCallDecode2 cCallDecode3:FuncId):LFun:=⟨(callDecodeC7 cCallDecode1 cCallDecode2 cCallDecode3),[(.tmp 2)],50⟩
def callDecodeS (cal:FuncId->Bool)(O:Oracle)(N:Nat)(cCallDecode1 cCallDecode2 cCallDecode3:FuncId)(v0:IV)(H:Heap):Option (IV×Heap) :=
  callDecodeC7S cal O N cCallDecode1 cCallDecode2 cCallDecode3 v0 H
theorem callDecodeEq (cal:FuncId->Bool)(O:Oracle)(N:Nat)(cCallDecode1 cCallDecode2 cCallDecode3:FuncId)(v0:IV)(H:Heap):lrunK cal O N (callDecode cCallDecode1 cCallDecode2 cCallDecode3) [v0] H=callDecodeS cal O N cCallDecode1 cCallDecode2 cCallDecode3 v0 H:=by
 show lxK cal O N (callDecodeC7 cCallDecode1 cCallDecode2 cCallDecode3) (initFrom 0 [v0]) H (endK [(.tmp 2)])=_;exact callDecodeC7Eq cal O N cCallDecode1 cCallDecode2 cCallDecode3 (k:=(endK [(.tmp 2)])) (fun _ _=>rfl) (initFrom 0 [v0]) H
def callDecode1 :LFun:=⟨(.seq (.reg [
  ⟨(some 1),(.mv (.k (.int .i64 0))),none⟩])
 (.seq (.seq (.reg [
  ⟨(some 3),(.ld1 (.t 0)),none⟩,
  ⟨(some 4),(.len .slice (.t 3)),none⟩,
  ⟨(some 5),(.bin .eql (.t 4) (.k (.int .i64 0))),none⟩])
 (.cond (.t 5) (.seq (.reg [
  ⟨(some 1),(.mv (.k (.int .i64 0))),none⟩])
 .ret)
 .skip))
 (.seq (.reg [
  ⟨(some 6),(.ld1 (.t 0)),none⟩,
  ⟨(some 7),(.ix 1 (.t 6) (.k (.int .i64 0))),none⟩,
  ⟨(some 8),(.ld1 (.t 7)),none⟩,
  ⟨(some 2),(.mv (.t 8)),none⟩])
 (.seq (.reg [
  ⟨(some 9),(.ld1 (.t 0)),none⟩,
  ⟨(some 10),(.slc (.slice 1) (.t 9) (some (.k (.int .i64 1))) none none),none⟩,
  ⟨none,(.st 1 (.t 0) (.t 10)),none⟩])
 (.seq (.reg [
  ⟨(some 11),(.mv (.t 2)),none⟩,
  ⟨(some 12),(.cvt .i64 (.t 11)),none⟩,
  ⟨(some 1),(.mv (.t 12)),none⟩])
 .ret))))),[(.tmp 1)],13⟩
def callDecode1S (cal:FuncId->Bool)(O:Oracle)(N:Nat)(v0:IV)(H:Heap):Option (IV×Heap) :=
  ob (lload1 H v0) fun t1 =>
  ob (llen H .slice t1) fun t2 =>
  ob (lbin .eql t2 (.int .i64 0)) fun t3 =>
  cnd t3
  (some ((.int .i64 0),H))
  (ob (lload1 H v0) fun t4 =>
  ob (lix 1 t4 (.int .i64 0)) fun t5 =>
  ob (lload1 H t5) fun t6 =>
  ob (lload1 H v0) fun t7 =>
  ob (lslice H (.slice 1) t7 (some (.int .i64 1)) none none) fun t8 =>
  ob (lstV H 1 v0 t8) fun r9 =>
  ob (lcvt .i64 t6) fun t10 =>
  some (t10,r9.2))
theorem callDecode1Eq (cal:FuncId->Bool)(O:Oracle)(N:Nat)(v0:IV)(H:Heap):lrunK cal O N (callDecode1) [v0] H=callDecode1S cal O N v0 H:=by
 kernel_rfl
def callDecode2 :LFun:=⟨(.seq (.reg [
  ⟨(some 1),(.mv (.k (.int .i64 0))),none⟩])
 (.seq (.reg [
  ⟨(some 3),(.ld1 (.t 0)),none⟩,
  ⟨(some 4),(.callV (.t 3) []),none⟩,
  ⟨(some 2),(.mv (.t 4)),none⟩])
 (.seq (.reg [
  ⟨(some 5),(.mv (.t 2)),none⟩,
  ⟨(some 6),(.bin .shl (.t 5) (.k (.int .u64 8))),none⟩,
  ⟨(some 7),(.ld1 (.t 0)),none⟩,
  ⟨(some 8),(.callV (.t 7) []),none⟩,
  ⟨(some 9),(.bin .add (.t 6) (.t 8)),none⟩,
  ⟨(some 10),(.bin .add (.t 9) (.k (.int .i64 (-256)))),none⟩,
  ⟨(some 1),(.mv (.t 10)),none⟩])
 .ret))),[(.tmp 1)],11⟩
def callDecode2S (cal:FuncId->Bool)(O:Oracle)(N:Nat)(v0:IV)(H:Heap):Option (IV×Heap) :=
  ob (lload1 H v0) fun t1 =>
  ob (lcallV cal O H t1 []) fun r2 =>
  ob (lbin .shl r2.1 (.int .u64 8)) fun t3 =>
  ob (lload1 r2.2 v0) fun t4 =>
  ob (lcallV cal O r2.2 t4 []) fun r5 =>
  ob (lbin .add t3 r5.1) fun t6 =>
  ob (lbin .add t6 (.int .i64 (-256))) fun t7 =>
  some (t7,r5.2)
theorem callDecode2Eq (cal:FuncId->Bool)(O:Oracle)(N:Nat)(v0:IV)(H:Heap):lrunK cal O N (callDecode2) [v0] H=callDecode2S cal O N v0 H:=by
 kernel_rfl
def callDecode3C0 :LC:=.loop (.seq (.seq (.reg [
  ⟨(some 7),(.mv (.t 3)),none⟩,
  ⟨(some 8),(.bin .gtr (.t 7) (.k (.int .i64 0))),none⟩])
 (.cond (.t 8) .skip
 (.exit 0)))
 (.seq (.block 1 (.reg [
  ⟨(some 11),(.mv (.t 2)),none⟩,
  ⟨(some 12),(.ld1 (.t 0)),none⟩,
  ⟨(some 13),(.callV (.t 12) []),none⟩,
  ⟨(some 14),(.cvt .u8 (.t 13)),none⟩,
  ⟨(some 15),(.bldS 1 1 [(.int .u8 0)] [(0,(.t 14))]),none⟩,
  ⟨(some 16),(.app 1 1 (.t 11) (.t 15)),none⟩,
  ⟨(some 2),(.mv (.t 16)),none⟩]))
 (.reg [
  ⟨(some 9),(.mv (.t 3)),none⟩,
  ⟨(some 10),(.bin .sub (.t 9) (.k (.int .i64 1))),none⟩,
  ⟨(some 3),(.mv (.t 10)),none⟩])))
def callDecode3C1 :LC:=.block 0 callDecode3C0
def callDecode3C2 :LC:=.seq (.reg [
  ⟨(some 4),(.ld1 (.t 0)),none⟩,
  ⟨(some 5),(.callV (.t 4) []),none⟩,
  ⟨(some 6),(.bin .rem (.t 5) (.k (.int .i64 64))),none⟩,
  ⟨(some 3),(.mv (.t 6)),none⟩]) callDecode3C1
def callDecode3C3 :LC:=.seq callDecode3C2 (.seq (.reg [
  ⟨(some 17),(.mv (.t 2)),none⟩,
  ⟨(some 18),(.b2s (.t 17)),none⟩,
  ⟨(some 1),(.mv (.t 18)),none⟩])
 .ret)
def callDecode3C4 :LC:=.seq (.reg [
  ⟨(some 2),(.mv (.k .nilSlice)),none⟩]) callDecode3C3
def callDecode3C5 :LC:=.seq (.reg [
  ⟨(some 1),(.mv (.k (.str []))),none⟩]) callDecode3C4
def callDecode3C0S (cal:FuncId->Bool)(O:Oracle)(N:Nat)(gE0:IV->Heap->Option (IV×Heap)):Nat->IV->IV->IV->Heap->Option (IV×Heap)
 | 0,_,_,_,_=>none
 | n+1,v0,v2,v3,H =>
  ob (lbin .gtr v3 (.int .i64 0)) fun t1 =>
  cnd t1
  (ob (lload1 H v0) fun t2 =>
  ob (lcallV cal O H t2 []) fun r3 =>
  ob (lcvt .u8 r3.1) fun t4 =>
  ob (lbldS r3.2 1 1 [(.int .u8 0)] [(0,t4)]) fun r5 =>
  ob (lapp r5.2 1 1 v2 r5.1) fun r6 =>
  ob (lbin .sub v3 (.int .i64 1)) fun t7 =>
  callDecode3C0S cal O N gE0 n v0 r6.1 t7 r6.2)
  (gE0 v2 H)
theorem callDecode3C0Eq (cal:FuncId->Bool)(O:Oracle)(N:Nat)(gE0:IV->Heap->Option (IV×Heap))(hgE0:∀E H,k (.exit 0) E H=gE0 (lk E 2) H):∀(n:Nat) (E:Sg) (H:Heap),itK (lxK cal O N (.seq (.seq (.reg [
  ⟨(some 7),(.mv (.t 3)),none⟩,
  ⟨(some 8),(.bin .gtr (.t 7) (.k (.int .i64 0))),none⟩])
 (.cond (.t 8) .skip
 (.exit 0)))
 (.seq (.block 1 (.reg [
  ⟨(some 11),(.mv (.t 2)),none⟩,
  ⟨(some 12),(.ld1 (.t 0)),none⟩,
  ⟨(some 13),(.callV (.t 12) []),none⟩,
  ⟨(some 14),(.cvt .u8 (.t 13)),none⟩,
  ⟨(some 15),(.bldS 1 1 [(.int .u8 0)] [(0,(.t 14))]),none⟩,
  ⟨(some 16),(.app 1 1 (.t 11) (.t 15)),none⟩,
  ⟨(some 2),(.mv (.t 16)),none⟩]))
 (.reg [
  ⟨(some 9),(.mv (.t 3)),none⟩,
  ⟨(some 10),(.bin .sub (.t 9) (.k (.int .i64 1))),none⟩,
  ⟨(some 3),(.mv (.t 10)),none⟩])))) n E H k=callDecode3C0S cal O N gE0 n (lk E 0) (lk E 2) (lk E 3) H:=by
 have hk:k=(kE 0 (fun E H=>gE0 (lk E 2) H) k):=(kE_mk hgE0 rfl);intro n
 induction n with
 | zero=>intro E H;rfl
 | succ n ih =>
  intro E H;rw[itK_succ,seqK_mk (g:=fun E H=>callDecode3C0S cal O N gE0 n (lk E 0) (lk E 2) (lk E 3) H) ih,hk];kernel_rfl
def callDecode3C1S (cal:FuncId->Bool)(O:Oracle)(N:Nat)(gN:IV->Heap->Option (IV×Heap))(v0 v2 v3:IV)(H:Heap):Option (IV×Heap) :=
  callDecode3C0S cal O N (fun v2 H=>gN v2 H) N v0 v2 v3 H
theorem callDecode3C1Eq (cal:FuncId->Bool)(O:Oracle)(N:Nat)(gN:IV->Heap->Option (IV×Heap))(hgN:∀E H,k .normal E H=gN (lk E 2) H):∀(E:Sg) (H:Heap),lxK cal O N callDecode3C1 E H k=callDecode3C1S cal O N gN (lk E 0) (lk E 2) (lk E 3) H:=by
 have hk:k=(kN (fun E H=>gN (lk E 2) H) k):=(kN_mk hgN rfl);intro E H;rw[hk];show lxK cal O N callDecode3C0 E H (blockK 0 (kN (fun E H=>gN (lk E 2) H) k))=_;exact callDecode3C0Eq cal O N (k:=(blockK 0 (kN (fun E H=>gN (lk E 2) H) k))) (fun v2 H=>gN v2 H) (fun _ _=>rfl) N E H
def callDecode3C2S (cal:FuncId->Bool)(O:Oracle)(N:Nat)(gN:IV->Heap->Option (IV×Heap))(v0 v2:IV)(H:Heap):Option (IV×Heap) :=
  ob (lload1 H v0) fun t1 =>
  ob (lcallV cal O H t1 []) fun r2 =>
  ob (lbin .rem r2.1 (.int .i64 64)) fun t3 =>
  callDecode3C1S cal O N (fun v2 H=>gN v2 H) v0 v2 t3 r2.2
theorem callDecode3C2Eq (cal:FuncId->Bool)(O:Oracle)(N:Nat)(gN:IV->Heap->Option (IV×Heap))(hgN:∀E H,k .normal E H=gN (lk E 2) H):∀(E:Sg) (H:Heap),lxK cal O N callDecode3C2 E H k=callDecode3C2S cal O N gN (lk E 0) (lk E 2) H:=by
 have hk:k=(kN (fun E H=>gN (lk E 2) H) k):=(kN_mk hgN rfl);intro E H;rw[hk];show lxK cal O N (.reg [
  ⟨(some 4),(.ld1 (.t 0)),none⟩,
  ⟨(some 5),(.callV (.t 4) []),none⟩,
  ⟨(some 6),(.bin .rem (.t 5) (.k (.int .i64 64))),none⟩,
  ⟨(some 3),(.mv (.t 6)),none⟩]) E H (seqK (lxK cal O N callDecode3C1) (kN (fun E H=>gN (lk E 2) H) k))=_
 rw[seqK_mk (g:=fun E H=>callDecode3C1S cal O N (fun v2 H=>gN v2 H) (lk E 0) (lk E 2) (lk E 3) H) (callDecode3C1Eq cal O N (k:=(kN (fun E H=>gN (lk E 2) H) k)) (fun v2 H=>gN v2 H) (fun _ _=>rfl))];kernel_rfl
def callDecode3C3S (cal:FuncId->Bool)(O:Oracle)(N:Nat)(v0 v2:IV)(H:Heap):Option (IV×Heap) :=
  callDecode3C2S cal O N (fun v2 H=>ob (lb2s H v2) fun t1 =>
  some (t1,H)) v0 v2 H
theorem callDecode3C3Eq (cal:FuncId->Bool)(O:Oracle)(N:Nat)(hR:∀E H,k .ret E H=resK [(.tmp 1)] [] E H):∀(E:Sg) (H:Heap),lxK cal O N callDecode3C3 E H k=callDecode3C3S cal O N (lk E 0) (lk E 2) H:=by
 have hk:k=(kR (resK [(.tmp 1)] []) k):=(kR_mk hR rfl);intro E H;rw[hk];show lxK cal O N callDecode3C2 E H (seqK (lxK cal O N (.seq (.reg [
  ⟨(some 17),(.mv (.t 2)),none⟩,
  ⟨(some 18),(.b2s (.t 17)),none⟩,
  ⟨(some 1),(.mv (.t 18)),none⟩])
 .ret)) (kR (resK [(.tmp 1)] []) k))=_
 exact callDecode3C2Eq cal O N (k:=(seqK (lxK cal O N (.seq (.reg [
  ⟨(some 17),(.mv (.t 2)),none⟩,
  ⟨(some 18),(.b2s (.t 17)),none⟩,
  ⟨(some 1),(.mv (.t 18)),none⟩])
 .ret)) (kR (resK [(.tmp 1)] []) k))) (fun v2 H=>ob (lb2s H v2) fun t1 =>
some (t1,H)) (fun _ _=>rfl) E H
def callDecode3C4S (cal:FuncId->Bool)(O:Oracle)(N:Nat)(v0:IV)(H:Heap):Option (IV×Heap) :=
  callDecode3C3S cal O N v0 .nilSlice H
theorem callDecode3C4Eq (cal:FuncId->Bool)(O:Oracle)(N:Nat)(hR:∀E H,k .ret E H=resK [(.tmp 1)] [] E H):∀(E:Sg) (H:Heap),lxK cal O N callDecode3C4 E H k=callDecode3C4S cal O N (lk E 0) H:=by
 have hk:k=(kR (resK [(.tmp 1)] []) k):=(kR_mk hR rfl);intro E H;rw[hk];show lxK cal O N (.reg [
  ⟨(some 2),(.mv (.k .nilSlice)),none⟩]) E H (seqK (lxK cal O N callDecode3C3) (kR (resK [(.tmp 1)] []) k))=_
 rw[seqK_mk (g:=fun E H=>callDecode3C3S cal O N (lk E 0) (lk E 2) H) (callDecode3C3Eq cal O N (k:=(kR (resK [(.tmp 1)] []) k)) (fun _ _=>rfl))];kernel_rfl
def callDecode3C5S (cal:FuncId->Bool)(O:Oracle)(N:Nat)(v0:IV)(H:Heap):Option (IV×Heap) :=
  callDecode3C4S cal O N v0 H
theorem callDecode3C5Eq (cal:FuncId->Bool)(O:Oracle)(N:Nat)(hR:∀E H,k .ret E H=resK [(.tmp 1)] [] E H):∀(E:Sg) (H:Heap),lxK cal O N callDecode3C5 E H k=callDecode3C5S cal O N (lk E 0) H:=by
 have hk:k=(kR (resK [(.tmp 1)] []) k):=(kR_mk hR rfl);intro E H;rw[hk];show lxK cal O N (.reg [
  ⟨(some 1),(.mv (.k (.str []))),none⟩]) E H (seqK (lxK cal O N callDecode3C4) (kR (resK [(.tmp 1)] []) k))=_
 rw[seqK_mk (g:=fun E H=>callDecode3C4S cal O N (lk E 0) H) (callDecode3C4Eq cal O N (k:=(kR (resK [(.tmp 1)] []) k)) (fun _ _=>rfl))];kernel_rfl
def callDecode3 :LFun:=⟨callDecode3C5,[(.tmp 1)],19⟩
def callDecode3S (cal:FuncId->Bool)(O:Oracle)(N:Nat)(v0:IV)(H:Heap):Option (IV×Heap) :=
  callDecode3C5S cal O N v0 H
theorem callDecode3Eq (cal:FuncId->Bool)(O:Oracle)(N:Nat)(v0:IV)(H:Heap):lrunK cal O N (callDecode3) [v0] H=callDecode3S cal O N v0 H:=by
 show lxK cal O N callDecode3C5 (initFrom 0 [v0]) H (endK [(.tmp 1)])=_;exact callDecode3C5Eq cal O N (k:=(endK [(.tmp 1)])) (fun _ _=>rfl) (initFrom 0 [v0]) H
end Go.Shade
namespace Go.Shade
variable {N : Nat} {cal : FuncId -> Bool} {O : Oracle}
theorem within_s (a lo hi:Int)(H:Heap):callWithinS cal O N (.int .i64 a) (.int .i64 lo) (.int .i64 hi) H=some (.bool (decide (lo<=a)&&decide (a<=hi)),H):=by
 unfold callWithinS
 cases h1:decide (lo<=a)<;>simp only[go_sem,h1]
structure Cl where
 op:Int
 fd:Int
 fl:Int
 n:Int
 off:Int
 a:List UInt8
 b:List UInt8
 deriving DecidableEq
def Cl.cells (c:Cl):List IV:=[.int .i64 c.op,.int .i64 c.fd,.int .i64 c.fl,.int .i64 c.n,.int .i64 c.off,.str c.a,.str c.b]
def Cl.may (c:Cl):Bool:=(decide (1<=c.op)&&decide (c.op<=20))&&((decide (-4<=c.fd)&&decide (c.fd<=35))&&((decide (0<=c.fl)&&decide (c.fl<=63))&&((decide (-256<=c.n)&&decide (c.n<=65279))&&((decide (-256<=c.off)&&decide (c.off<=65279))&&(decide ((c.a.length:Int)<64)&&decide ((c.b.length:Int)<64))))))
def WithinOk (O:Oracle)(w:FuncId):Prop:=∀(a lo hi:Int) (H:Heap),O w [.int .i64 a,.int .i64 lo,.int .i64 hi] H=some (.bool (decide (lo<=a)&&decide (a<=hi)),H)
theorem may_s {w:FuncId}(hw:WithinOk O w)(c:Cl)(H:Heap):callMayS cal O N w (.agg c.cells) H=some (.bool c.may,H++[IObj.row c.cells false]):=by
 unfold callMayS Cl.may;have hb:lbox H (.agg c.cells)=some (.ptr H.length 0,H++[IObj.row c.cells false]):=lbox_agg rfl;unfold WithinOk at hw;simp only[hb,hw,go_sem]
 cases h1:(decide (1<=c.op)&&decide (c.op<=20))
 ·simp only[go_sem,Cl.cells,hw,h1]
 cases h2:(decide (-4<=c.fd)&&decide (c.fd<=35))
 ·simp only[go_sem,Cl.cells,hw,h1,h2]
 cases h3:(decide (0<=c.fl)&&decide (c.fl<=63))
 ·simp only[go_sem,Cl.cells,hw,h1,h2,h3]
 cases h4:(decide (-256<=c.n)&&decide (c.n<=65279))
 ·simp only[go_sem,Cl.cells,hw,h1,h2,h3,h4]
 cases h5:(decide (-256<=c.off)&&decide (c.off<=65279))
 ·simp only[go_sem,Cl.cells,hw,h1,h2,h3,h4,h5]
 cases h6:decide ((c.a.length:Int)<64)
 ·simp only[go_sem,Cl.cells,hw,h1,h2,h3,h4,h5,h6]
 simp only[go_sem,Cl.cells,hw,h1,h2,h3,h4,h5,h6]
def ub (x:Int):UInt8:=UInt8.ofNat (x % 256).toNat
theorem wrap_u8 (x:Int):IntKind.wrap .u8 x=((ub x).toNat:Int):=by
 have h:IntKind.wrap .u8 x=x % 256:=by unfold IntKind.wrap;simp[IntKind.bits,IntKind.signed]
 rw[h];simp only[ub,UInt8.toNat_ofNat'];omega
theorem shr8 {a:Int}:lbin .shr (.int .i64 a) (.int .u64 8)=some (.int .i64 (a / 256)):=by
 simp only[lbin,ishift];rw[if_neg (by decide)];have:(2:Int) ^ (min (8:Int).toNat IntKind.i64.bits)=256:=by simp[IntKind.bits]
 rw[this,Int.fdiv_eq_ediv_of_nonneg _ (by decide)]
def Cl.enc (c:Cl):List UInt8:=[ub (c.op - 1),ub (c.fd+4),ub c.fl,ub ((c.n+256) / 256),ub (c.n+256),ub ((c.off+256) / 256),ub (c.off+256),ub c.a.length]++c.a++([ub c.b.length]++c.b)
def MayOk (O:Oracle)(f:FuncId):Prop:=∀(c:Cl) (H:Heap),O f [.agg c.cells] H=some (.bool c.may,H)
theorem Cl.c0 (c:Cl):c.cells[0]? =some (.int .i64 c.op):=rfl
theorem Cl.c1 (c:Cl):c.cells[1]? =some (.int .i64 c.fd):=rfl
theorem Cl.c2 (c:Cl):c.cells[2]? =some (.int .i64 c.fl):=rfl
theorem Cl.c3 (c:Cl):c.cells[3]? =some (.int .i64 c.n):=rfl
theorem Cl.c4 (c:Cl):c.cells[4]? =some (.int .i64 c.off):=rfl
theorem Cl.c5 (c:Cl):c.cells[5]? =some (.str c.a):=rfl
theorem Cl.c6 (c:Cl):c.cells[6]? =some (.str c.b):=rfl
theorem Cl.may_iff (c:Cl):c.may=true↔(1<=c.op/\c.op<=20)/\(-4<=c.fd/\c.fd<=35)/\(0<=c.fl/\c.fl<=63)/\(-256<=c.n/\c.n<=65279)/\(-256<=c.off/\c.off<=65279)/\(c.a.length:Int)<64/\(c.b.length:Int)<64:=by
 simp only[Cl.may,Bool.and_eq_true,decide_eq_true_eq]
theorem enc_no {f:FuncId}(hm:MayOk O f){c:Cl}(h:c.may=false)(H:Heap):callEncodeS cal O N f (.agg c.cells) H=some (.tuple [.nilSlice,.int .i64 22],H++[IObj.row c.cells false]):=by
 unfold callEncodeS;unfold MayOk at hm;have hb:lbox H (.agg c.cells)=some (.ptr H.length 0,H++[IObj.row c.cells false]):=lbox_agg rfl;have hl:lloadn (H++[IObj.row c.cells false]) 7 (.ptr H.length 0)=some (.agg c.cells):=by
  rw[lloadn_ptr,at_new];rfl
 rw[hb,ob_some];simp only;rw[hl,ob_some,hm,ob_some];simp only;rw[h,iun_not,ob_some];rfl
theorem enc_yes {f:FuncId}(hm:MayOk O f){c:Cl}(h:c.may=true)(H:Heap) :
  ∃v H',callEncodeS cal O N f (.agg c.cells) H=some (.tuple [v,.int .i64 0],H')/\Buf (H.length+1) 1 H' v (bytes c.enc)/\Keep (H.length+1) (H++[IObj.row c.cells false]) H':=by
 unfold callEncodeS;unfold MayOk at hm;obtain⟨⟨m1,m2⟩,⟨m3,m4⟩,⟨m5,m6⟩,⟨m7,m8⟩,⟨m9,m10⟩,m11,m12⟩:=c.may_iff.1 h;have hb:lbox H (.agg c.cells)=some (.ptr H.length 0,H++[IObj.row c.cells false]):=lbox_agg rfl;have hl:lloadn (H++[IObj.row c.cells false]) 7 (.ptr H.length 0)=some (.agg c.cells):=by
  rw[lloadn_ptr,at_new];rfl
 have hcell:∀{H':Heap},H'[H.length]? =some (.row c.cells false)->∀k,lload1 H' (.ptr H.length k)=c.cells[k]? :=by
  intro H' e k;rw[lload1_ptr,e];rfl
 have h0:(H++[IObj.row c.cells false])[H.length]? =some (.row c.cells false):=by rw[at_new];rfl
 have w1:IntKind.wrap .i64 (c.n - (-256))=c.n+256:=by rw[wrap_i64 (by omega) (by omega)];omega
 have w2:IntKind.wrap .i64 (c.off - (-256))=c.off+256:=by rw[wrap_i64 (by omega) (by omega)];omega
 have w3:IntKind.wrap .i64 (c.op - 1)=c.op - 1:=wrap_i64 (by omega) (by omega);have w4:IntKind.wrap .i64 (c.fd - (-4))=c.fd+4:=by rw[wrap_i64 (by omega) (by omega)];omega
 rw[hb,ob_some];simp only;rw[hl,ob_some,hm,ob_some];simp only;rw[h,iun_not,ob_some];simp only[Bool.not_true];rw[cnd_false];simp only[loff_ptr,Nat.zero_add,ob_some,hcell h0,Cl.c0,Cl.c1,Cl.c2,Cl.c3,Cl.c4,Cl.c5,Cl.c6,lbin_sub,w1,w2,w3,w4];simp only[lcvt_int,ob_some,shr8,wrap_u8,llen_str];have hbl:lbldS (H++[IObj.row c.cells false]) 1 8 [.int .u8 0] [(0,.int .u8 ((ub (c.op - 1)).toNat:Int)),(1,.int .u8 ((ub (c.fd+4)).toNat:Int)),(2,.int .u8 ((ub c.fl).toNat:Int)),(3,.int .u8 ((ub ((c.n+256) / 256)).toNat:Int)),(4,.int .u8 ((ub (c.n+256)).toNat:Int)),(5,.int .u8 ((ub ((c.off+256) / 256)).toNat:Int)),(6,.int .u8 ((ub (c.off+256)).toNat:Int)),(7,.int .u8 ((ub c.a.length).toNat:Int))] =
   some (.slice (H++[IObj.row c.cells false]).length 0 8 8 true 1,(H++[IObj.row c.cells false])++[.row (bytes [ub (c.op - 1),ub (c.fd+4),ub c.fl,ub ((c.n+256) / 256),ub (c.n+256),ub ((c.off+256) / 256),ub (c.off+256),ub c.a.length]) false]):=rfl
 rw[hbl,ob_some];have k0:Keep (H.length+1) (H++[IObj.row c.cells false]) ((H++[IObj.row c.cells false])++[IObj.row (bytes [ub (c.op - 1),ub (c.fd+4),ub c.fl,ub ((c.n+256) / 256),ub (c.n+256),ub ((c.off+256) / 256),ub (c.off+256),ub c.a.length]) false]):=Keep.push _ _ (by simp);have b0:Buf (H.length+1) 1 ((H++[IObj.row c.cells false])++[IObj.row (bytes [ub (c.op - 1),ub (c.fd+4),ub c.fl,ub ((c.n+256) / 256),ub (c.n+256),ub ((c.off+256) / 256),ub (c.off+256),ub c.a.length]) false]) (.slice (H++[IObj.row c.cells false]).length 0 8 8 true 1) (bytes [ub (c.op - 1),ub (c.fd+4),ub c.fl,ub ((c.n+256) / 256),ub (c.n+256),ub ((c.off+256) / 256),ub (c.off+256),ub c.a.length]) :=
  .inr ⟨_,8,true,rfl,by simp,by simp,rfl⟩
 generalize (H++[IObj.row c.cells false])++[IObj.row (bytes [ub (c.op - 1),ub (c.fd+4),ub c.fl,ub ((c.n+256) / 256),ub (c.n+256),ub ((c.off+256) / 256),ub (c.off+256),ub c.a.length]) false]=H1 at k0 b0 ⊢;generalize (IV.slice (H++[IObj.row c.cells false]).length 0 8 8 true 1)=v1 at b0 ⊢;have hB:∀{H':Heap},Keep (H.length+1) (H++[IObj.row c.cells false]) H'->H.length+1<=H'.length:=fun k=>by have:=k.2;simp at this;exact this
 have hC:∀{H':Heap},Keep (H.length+1) (H++[IObj.row c.cells false]) H'->H'[H.length]? =some (.row c.cells false):=fun k=>k.get (by omega) h0;simp only[hcell (hC k0),Cl.c5,ob_some];obtain⟨v2,H2,a1,b1,k1⟩:=app_str (b:=1) (l:=c.a) b0 (hB k0) (by simp[bytes_length];omega);have k1:=k0.trans k1;rw[a1,ob_some];simp only[hcell (hC k1),Cl.c6,ob_some,llen_str,lcvt_int,wrap_u8];have hbl2:lbldS H2 1 1 [.int .u8 0] [(0,.int .u8 ((ub c.b.length).toNat:Int))]=some (.slice H2.length 0 1 1 true 1,H2++[.row (bytes [ub c.b.length]) false]):=rfl;rw[hbl2,ob_some];have k2:Keep (H.length+1) H2 (H2++[.row (bytes [ub c.b.length]) false]):=Keep.push _ _ (hB k1);have b2:Buf 0 1 (H2++[.row (bytes [ub c.b.length]) false]) (.slice H2.length 0 1 1 true 1) (bytes [ub c.b.length]):=.inr ⟨_,1,true,rfl,by omega,by simp,rfl⟩;have b1':Buf (H.length+1) 1 (H2++[.row (bytes [ub c.b.length]) false]) v2 _:=b1.keep (Keep.push (B:=H2.length) H2 [.row (bytes [ub c.b.length]) false] (Nat.le_refl _)) (fun r n m ex e=>by
  rcases b1 with⟨e',_⟩ | ⟨r',n',ex',e',_,hr,_⟩
  ·rw[e]at e';cases e'
  ·rw[e]at e';cases e';exact(ges hr).1)
 have k2':=k1.trans k2;obtain⟨v3,H3,a3,b3,k3⟩:=app_own (b:=1) b1' (hB k2') (by omega) b2 (bytes_one _) (by simp[bytes_length];omega);have k3:=k2'.trans k3;simp only at a3 ⊢;rw[a3,ob_some];simp only[hcell (hC k3),Cl.c6,ob_some];obtain⟨v4,H4,a4,b4,k4⟩:=app_str (b:=1) (l:=c.b) b3 (hB k3) (by simp[bytes_length];omega);rw[a4,ob_some];refine⟨v4,H4,rfl,?_,k3.trans k4⟩;have:bytes c.enc=bytes [ub (c.op - 1),ub (c.fd+4),ub c.fl,ub ((c.n+256) / 256),ub (c.n+256),ub ((c.off+256) / 256),ub (c.off+256),ub c.a.length]++bytes c.a++bytes [ub c.b.length]++bytes c.b:=by
  simp only[Cl.enc,←bytes_append,List.append_assoc]
 rw[this];exact b4
end Go.Shade
namespace Go.Shade
variable {B N f1 p q : Nat} {H H' : Heap} {bs : List UInt8} {cal : FuncId -> Bool} {o : IObj} {v : IV} {O : Oracle}
def BS (H:Heap)(v:IV)(bs:List UInt8):Prop :=
 (v=.nilSlice/\bs=[])∨∃b o n lb ex sz,v=.slice b o n lb ex sz/\n<=lb/\(sz=0∨sz=1)/\bs.length=n/\(0<n->∃cells ro,H[b]? =some (.row cells ro)/\∀i,i<n->cells[o+i]? =some (.int .u8 ((bs.getD i 0).toNat:Int)))
def tailN (k:Nat):IV->IV
 | .slice b o n lb ex sz=>.slice b (o+min k n) (n - min k n) (lb - min k n) ex sz
 | v=>v
def off (H:Heap)(p:Nat)(v:IV):Prop:=∀b o n lb ex sz,v=.slice b o n lb ex sz->b≠p
theorem BS.tail (h:BS H v bs)(k:Nat):BS H (tailN k v) (bs.drop k):=by
 rcases h with⟨rfl,rfl⟩ | ⟨b,o,n,lb,ex,sz,rfl,h1,h2,h3,h4⟩
 ·exact .inl ⟨rfl,by simp⟩
 ·refine .inr ⟨b,o+min k n,n - min k n,lb - min k n,ex,sz,rfl,by omega,h2,by simp;omega,fun hn=> ?_⟩;obtain⟨cells,ro,g1,g2⟩:=h4 (by omega);refine⟨cells,ro,g1,fun i hi=> ?_⟩;have:=g2 (min k n+i) (by omega);rw[Nat.add_assoc,this];have e:min k n=k:=by omega
  simp only[e,List.getD_eq_getElem?_getD,List.getElem?_drop]
theorem BS.set {H:Heap}{v:IV}{bs:List UInt8}(h:BS H v bs){p:Nat}(o:IObj)(hp:off H p v):BS (H.set p o) v bs:=by
 rcases h with⟨rfl,rfl⟩ | ⟨b,o',n,lb,ex,sz,rfl,h1,h2,h3,h4⟩
 ·exact .inl ⟨rfl,rfl⟩
 ·refine .inr ⟨b,o',n,lb,ex,sz,rfl,h1,h2,h3,fun hn=> ?_⟩;obtain⟨cells,ro,g1,g2⟩:=h4 hn;exact⟨cells,ro,by rw[List.getElem?_set_ne (Ne.symm (hp _ _ _ _ _ _ rfl))];exact g1,g2⟩
theorem BS.keep (h:BS H v bs)(hk:∀(i:Nat) o,H[i]? =some o->H'[i]? =some o):BS H' v bs:=by
 rcases h with⟨rfl,rfl⟩ | ⟨b,o',n,lb,ex,sz,rfl,h1,h2,h3,h4⟩
 ·exact .inl ⟨rfl,rfl⟩
 ·refine .inr ⟨b,o',n,lb,ex,sz,rfl,h1,h2,h3,fun hn=> ?_⟩;obtain⟨cells,ro,g1,g2⟩:=h4 hn;exact⟨cells,ro,hk _ _ g1,g2⟩
theorem off_tail {k:Nat}(h:off H p v):off H p (tailN k v):=by
 intro b o n lb ex sz e
 cases v<;>simp only[tailN]at e<;>first | (cases e;done) | skip
 cases e;exact h _ _ _ _ _ _ rfl
theorem tailN_tailN (j k:Nat)(v:IV):tailN k (tailN j v)=tailN (j+k) v:=by
 cases v<;>simp only[tailN]
 rename_i b o n lb ex sz
 congr 1<;>omega
theorem tailN_zero (v:IV):tailN 0 v=v:=by cases v<;>simp[tailN]
theorem one_s {cal:FuncId->Bool}{O:Oracle}{N:Nat}{H:Heap}{p:Nat}{v:IV}{bs:List UInt8}(hp:H[p]? =some (.row [v] false))(hb:BS H v bs) :
  callDecode1S cal O N (.ptr p 0) H=some (.int .i64 ((bs.getD 0 0).toNat:Int),H.set p (.row [tailN 1 v] false)):=by
 unfold callDecode1S;have hl:lload1 H (.ptr p 0)=some v:=by rw[lload1_ptr,hp];rfl
 have hself:H.set p (.row [v] false)=H:=by
  apply List.ext_getElem?;intro i;rw[List.getElem?_set];split
  ·rename_i e;subst e;split
   ·exact hp.symm
   ·rename_i hlt;rw[List.getElem?_eq_none (by omega)]
  ·rfl
 rw[hl,ob_some];rcases hb with⟨rfl,rfl⟩ | ⟨b,o,n,lb,ex,sz,rfl,h1,h2,h3,h4⟩
 ·rw[llen_nil,ob_some,lbin_eql,ob_some];simp only[decide_true,cnd_true,tailN,hself];rfl
 ·rw[llen_slice,ob_some,lbin_eql,ob_some];by_cases h0:n=0
  ·subst h0;have:bs=[]:=List.length_eq_zero_iff.1 h3;subst this;simp only[Int.natCast_zero,decide_true,cnd_true,tailN,Nat.min_zero,Nat.add_zero,Nat.sub_zero,hself];rfl
  ·have hd:decide ((n:Int)=0)=false:=decide_eq_false (by omega);rw[hd,cnd_false,ob_some,lix_slice,if_pos (by omega),ob_some];obtain⟨cells,ro,g1,g2⟩:=h4 (by omega);have hx:lload1 H (.ptr b (o+(0:Int).toNat*1))=some (.int .u8 ((bs.getD 0 0).toNat:Int)):=by
    rw[lload1_ptr,g1,og1_row];exact g2 0 (by omega)
   rw[hx,ob_some,ob_some];have hs:lslice H (.slice 1) (.slice b o n lb ex sz) (some (.int .i64 1)) none none=some (.slice b (o+1) (n - 1) (lb - 1) ex sz):=by
    have e1:bnd n none=some n:=rfl;have e2:bnd 0 (some (.int .i64 1))=some 1:=rfl;simp only[lslice,e1,e2,Option.bind_some];rw[if_neg (by omega),if_pos (by omega)]
   rw[hs,ob_some,lstV_ptr,hp,putO_one rfl (by simp),ob_some,ob_some,lcvt_int,ob_some];have hw:IntKind.wrap .i64 ((bs.getD 0 0).toNat:Int)=((bs.getD 0 0).toNat:Int):=wrap_i64 (by omega) (by have:=(bs.getD 0 0).toNat_lt;omega);simp only[hw,List.set_cons_zero,tailN,Nat.min_eq_left (show 1<=n by omega)]
def OneOk (O:Oracle)(f1:FuncId):Prop:=∀(H:Heap) (p:Nat) (v:IV) (bs:List UInt8),H[p]? =some (.row [v] false)->BS H v bs->O f1 [.ptr p 0] H=some (.int .i64 ((bs.getD 0 0).toNat:Int),H.set p (.row [tailN 1 v] false))
theorem set_same (hp:H[p]? =some o):H.set p o=H:=by
 apply List.ext_getElem?;intro i;rw[List.getElem?_set];split
 ·rename_i e;subst e;split
  ·exact hp.symm
  ·rename_i hlt;rw[List.getElem?_eq_none (by omega)]
 ·rfl
theorem set_at {o':IObj}(hp:H[p]? =some o):(H.set p o')[p]? =some o':=by
 rw[List.getElem?_set];rw[if_pos rfl,if_pos (ges hp).1]
theorem getD_drop (bs:List UInt8)(k:Nat):(bs.drop k).getD 0 0=bs.getD k 0:=by
 simp[List.getD_eq_getElem?_getD]
def OneF (f1:FuncId)(p:Nat):IV:=.func (.func f1) [] [.ptr p 0]
theorem two_s (hc:cal f1=true)(h1:OneOk O f1)(hq:H[q]? =some (.row [OneF f1 p] false))(hp:H[p]? =some (.row [v] false))(hpq:q≠p)(ho:off H p v)(hb:BS H v bs) :
  callDecode2S cal O N (.ptr q 0) H=some (.int .i64 (((bs.getD 0 0).toNat:Int)*256+((bs.getD 1 0).toNat:Int) - 256),H.set p (.row [tailN 2 v] false)):=by
 unfold callDecode2S;have hl:lload1 H (.ptr q 0)=some (OneF f1 p):=by rw[lload1_ptr,hq];rfl
 have hcall:∀{H':Heap},lcallV cal O H' (OneF f1 p) []=O f1 [.ptr p 0] H':=fun {H'}=>by unfold OneF;rw[lcallV_func hc];rfl
 rw[hl,ob_some,hcall,h1 H p v bs hp hb,ob_some];have hp1:(H.set p (.row [tailN 1 v] false))[p]? =some (.row [tailN 1 v] false):=set_at hp;have hb1:BS (H.set p (.row [tailN 1 v] false)) (tailN 1 v) (bs.drop 1):=(hb.tail 1).set _ (off_tail (H:=H) ho);have hl1:lload1 (H.set p (.row [tailN 1 v] false)) (.ptr q 0)=some (OneF f1 p):=by rw[lload1_ptr,List.getElem?_set_ne (Ne.symm hpq),hq];rfl
 have ht:(bs.getD 0 0).toNat<256:=(bs.getD 0 0).toNat_lt;have ht1:(bs.getD 1 0).toNat<256:=(bs.getD 1 0).toNat_lt;have hshl:lbin .shl (.int .i64 ((bs.getD 0 0).toNat:Int)) (.int .u64 8)=some (.int .i64 (((bs.getD 0 0).toNat:Int)*256)):=by
  simp only[lbin,ishift];rw[if_neg (by decide)];have:(2:Int) ^ (min (8:Int).toNat IntKind.i64.bits)=256:=by simp[IntKind.bits]
  rw[this,wrap_i64 (by omega) (by omega)]
 simp only;rw[hshl,ob_some,hl1,ob_some,hcall,h1 _ p _ _ hp1 hb1,ob_some];simp only;have w1:IntKind.wrap .i64 (((bs.getD 0 0).toNat:Int)*256+((bs.getD 1 0).toNat:Int))=((bs.getD 0 0).toNat:Int)*256+((bs.getD 1 0).toNat:Int):=wrap_i64 (by omega) (by omega);have w2:IntKind.wrap .i64 (((bs.getD 0 0).toNat:Int)*256+((bs.getD 1 0).toNat:Int)+ -256)=((bs.getD 0 0).toNat:Int)*256+((bs.getD 1 0).toNat:Int) - 256:=wrap_i64 (by omega) (by omega);rw[lbin_add,ob_some,lbin_add,ob_some,getD_drop,w1,w2,tailN_tailN,List.set_set]
def low (B:Nat)(v:IV):Prop:=∀b o n lb ex sz,v=.slice b o n lb ex sz->b<B
theorem low_tail {k:Nat}(h:low B v):low B (tailN k v):=by
 intro b o n lb ex sz e
 cases v<;>simp only[tailN]at e<;>first | (cases e;done) | skip
 cases e;exact h _ _ _ _ _ _ rfl
theorem BS.keepB (h:BS H v bs)(hl:low B v)(hk:∀i,i<B->H'[i]? =H[i]?):BS H' v bs:=by
 rcases h with⟨rfl,rfl⟩ | ⟨b,o',n,lb,ex,sz,rfl,h1,h2,h3,h4⟩
 ·exact .inl ⟨rfl,rfl⟩
 ·refine .inr ⟨b,o',n,lb,ex,sz,rfl,h1,h2,h3,fun hn=> ?_⟩;obtain⟨cells,ro,g1,g2⟩:=h4 hn;exact⟨cells,ro,by rw[hk b (hl _ _ _ _ _ _ rfl)];exact g1,g2⟩
theorem keep_set (h:∀i,i<B->i≠p->H'[i]? =H[i]?)(hl:H.length<=H'.length)(hp:p<H.length):Keep B (H.set p o) (H'.set p o):=by
 refine⟨fun i hi=> ?_,by simpa using hl⟩;rw[List.getElem?_set,List.getElem?_set];by_cases e:p=i
 ·subst e;rw[if_pos rfl,if_pos rfl,if_pos (by omega),if_pos hp]
 ·rw[if_neg e,if_neg e];exact h i hi (Ne.symm e)
theorem ub_toNat (x:UInt8):ub (x.toNat:Int)=x:=by
 unfold ub;have:=x.toNat_lt;have e:((x.toNat:Int) % 256).toNat=x.toNat:=by omega
 rw[e];simp
theorem text_loop {gE0:IV->Heap->Option (IV×Heap)}(hc:cal f1=true)(h1:OneOk O f1)(hpq:q≠p)(hpB:p<B)(hqB:q<B) :
  ∀(k n:Nat) (H:Heap) (v v2:IV) (bs acc:List UInt8),k<n->H[q]? =some (.row [OneF f1 p] false)->H[p]? =some (.row [v] false)->B<=H.length->off H p v->low B v->BS H v bs->Buf B 1 H v2 (bytes acc)->acc.length+k<=1000 ->
  ∃v2' H',callDecode3C0S cal O N gE0 n (.ptr q 0) v2 (.int .i64 (k:Int)) H=gE0 v2' H'/\Buf B 1 H' v2' (bytes (acc++(List.range k).map fun i=>bs.getD i 0))/\Keep B (H.set p (.row [tailN k v] false)) H':=by
 intro k
 induction k with
 | zero =>
  intro n H v v2 bs acc hn hq hp hB ho hlow hb hv2 hk;obtain⟨n,rfl⟩:∃m,n=m+1:=⟨n - 1,by omega⟩;refine⟨v2,H,?_,by simpa using hv2,?_⟩
  ·rw[callDecode3C0S,lbin_gtr,ob_some];rfl
  ·rw[tailN_zero,set_same hp];exact Keep.refl _ _
 | succ k ih =>
  intro n H v v2 bs acc hn hq hp hB ho hlow hb hv2 hk;obtain⟨n,rfl⟩:∃m,n=m+1:=⟨n - 1,by omega⟩;have hl:lload1 H (.ptr q 0)=some (OneF f1 p):=by rw[lload1_ptr,hq];rfl
  have hcall:∀{H':Heap},lcallV cal O H' (OneF f1 p) []=O f1 [.ptr p 0] H':=fun {H'}=>by unfold OneF;rw[lcallV_func hc];rfl
  have hplt:p<H.length:=by omega
  have hgt:decide ((0:Int)<((k+1:Nat):Int))=true:=decide_eq_true (by omega);rw[callDecode3C0S,lbin_gtr,ob_some,hgt,cnd_true,hl,ob_some,hcall,h1 H p v bs hp hb,ob_some];simp only;rw[lcvt_int,ob_some,wrap_u8,ub_toNat];generalize hH1:H.set p (.row [tailN 1 v] false)=H1;have hH1p:H1[p]? =some (.row [tailN 1 v] false):=by rw[←hH1];exact set_at hp
  have hH1len:H1.length=H.length:=by rw[←hH1];simp
  have hH1i:∀i,i≠p->H1[i]? =H[i]? :=fun i hi=>by rw[←hH1,List.getElem?_set_ne (Ne.symm hi)]
  have hbl:lbldS H1 1 1 [.int .u8 0] [(0,.int .u8 ((bs.getD 0 0).toNat:Int))]=some (.slice H1.length 0 1 1 true 1,H1++[.row (bytes [bs.getD 0 0]) false]):=rfl;rw[hbl,ob_some];have hv2':Buf B 1 (H1++[.row (bytes [bs.getD 0 0]) false]) v2 (bytes acc):=by
   rcases hv2 with h | ⟨r,m,ex,e,g1,g2,g3⟩
   ·exact .inl h
   ·refine .inr ⟨r,m,ex,e,g1,?_,g3⟩;have hr:=(ges g2).1;rw[List.getElem?_append_left (by omega),hH1i r (by omega)];exact g2
  have hx:Buf 0 1 (H1++[.row (bytes [bs.getD 0 0]) false]) (.slice H1.length 0 1 1 true 1) (bytes [bs.getD 0 0]):=.inr ⟨_,1,true,rfl,by omega,by simp,rfl⟩;obtain⟨v3,H3,a3,b3,k3⟩:=app_own (b:=1) hv2' (by simp;omega) (by omega) hx (bytes_one _) (by simp[bytes_length];omega);simp only at a3 ⊢;rw[a3,ob_some,lbin_sub,ob_some];have hki:IntKind.wrap .i64 (((k+1:Nat):Int) - 1)=(k:Int):=by rw[wrap_i64 (by omega) (by omega)];omega
  rw[hki];have h3i:∀i,i<B->H3[i]? =H1[i]? :=fun i hi=>by rw[k3.1 i hi,List.getElem?_append_left (by omega)]
  have h3len:H.length<=H3.length:=by have:=k3.2;simp at this;omega
  rw[←bytes_append]at b3;obtain⟨v4,H4,a4,b4,k4⟩:=ih n H3 (tailN 1 v) v3 (bs.drop 1) (acc++[bs.getD 0 0]) (by omega) (by rw[h3i q hqB,hH1i q hpq];exact hq) (by rw[h3i p hpB];exact hH1p) (by omega) (off_tail (H:=H) ho) (low_tail hlow)
   (((hb.tail 1).set (.row [tailN 1 v] false) (off_tail (H:=H) ho)).keepB (low_tail hlow) (by rw[hH1];exact h3i)) b3 (by simp;omega)
  refine⟨v4,H4,a4,?_,?_⟩
  ·have e:acc++[bs.getD 0 0]++(List.range k).map (fun i=>(bs.drop 1).getD i 0)=acc++(List.range (k+1)).map (fun i=>bs.getD i 0):=by
    rw[List.append_assoc,List.range_succ_eq_map]
    congr 1
    simp only[List.map_cons,List.map_map,List.cons_append,List.nil_append]
    congr 1
    apply List.map_congr_left;intro i _;simp[List.getD_eq_getElem?_getD,Nat.add_comm]
   rw[←e];exact b4
  ·rw[tailN_tailN,Nat.add_comm 1 k]at k4;refine Keep.trans ?_ k4;exact keep_set (fun i hi hne=>by rw[h3i i hi,hH1i i hne]) h3len hplt
theorem b2s_buf {l:List UInt8}(h:Buf B 1 H v (bytes l)):lb2s H v=some (.str l):=by
 rcases h with⟨rfl,e⟩ | ⟨r,n,ex,rfl,g1,g2,g3⟩
 ·have:l=[]:=by cases l<;>simp[bytes]at e ⊢
  subst this;rfl
 ·have:=Buf.cells (B:=B) (s:=1) (H:=H) (v:=.slice r 0 n n ex 1) (cs:=bytes l) (.inr ⟨r,n,ex,rfl,g1,g2,g3⟩) (n:=n) rfl;simp only[lb2s,this,Option.bind_some,ibytes_bytes]
def rdText (bs:List UInt8):List UInt8:=(List.range ((bs.getD 0 0).toNat % 64)).map fun i=>bs.getD (i+1) 0
def TextN (bs:List UInt8):Nat:=(bs.getD 0 0).toNat % 64+1
theorem text_s (hN:64<N)(hc:cal f1=true)(h1:OneOk O f1)(hpq:q≠p)(hq:H[q]? =some (.row [OneF f1 p] false))(hp:H[p]? =some (.row [v] false))(ho:off H p v)(hlow:low H.length v)(hb:BS H v bs) :
  ∃H',callDecode3S cal O N (.ptr q 0) H=some (.str (rdText bs),H')/\Keep H.length (H.set p (.row [tailN (TextN bs) v] false)) H':=by
 have hpl:=(ges hp).1;have hql:=(ges hq).1;have hl:lload1 H (.ptr q 0)=some (OneF f1 p):=by rw[lload1_ptr,hq];rfl
 have hcall:∀{H':Heap},lcallV cal O H' (OneF f1 p) []=O f1 [.ptr p 0] H':=fun {H'}=>by unfold OneF;rw[lcallV_func hc];rfl
 unfold callDecode3S callDecode3C5S callDecode3C4S callDecode3C3S callDecode3C2S callDecode3C1S;rw[hl,ob_some,hcall,h1 H p v bs hp hb,ob_some];simp only;rw[lbin_rem (by decide),ob_some];have hmod:((bs.getD 0 0).toNat:Int).tmod 64=(((bs.getD 0 0).toNat % 64:Nat):Int):=by
  rw[Int.tmod_eq_emod_of_nonneg (by omega)];omega
 rw[hmod];generalize hH1:H.set p (.row [tailN 1 v] false)=H1;have hH1p:H1[p]? =some (.row [tailN 1 v] false):=by rw[←hH1];exact set_at hp
 have hH1len:H1.length=H.length:=by rw[←hH1];simp
 have hH1i:∀i,i≠p->H1[i]? =H[i]? :=fun i hi=>by rw[←hH1,List.getElem?_set_ne (Ne.symm hi)]
 obtain⟨v4,H4,a4,b4,k4⟩:=text_loop (cal:=cal) (O:=O) (N:=N) (gE0:=fun v2 H=>ob (lb2s H v2) fun t1=>some (t1,H)) (B:=H.length) hc h1 hpq hpl hql ((bs.getD 0 0).toNat % 64) N H1 (tailN 1 v) .nilSlice (bs.drop 1) [] (by omega)
  (by rw[hH1i q hpq];exact hq) hH1p (by omega) (off_tail (H:=H) ho) (low_tail hlow) (by rw[←hH1];exact(hb.tail 1).set _ (off_tail (H:=H) ho)) (.inl ⟨rfl,rfl⟩) (by simp;omega)
 refine⟨H4,?_,?_⟩
 ·rw[a4];simp only[b2s_buf b4,ob_some]
  congr 3
  simp only[List.nil_append,rdText]
  congr 1
  funext i
  simp[List.getD_eq_getElem?_getD,Nat.add_comm]
 ·rw[←hH1,List.set_set,tailN_tailN]at k4;have:TextN bs=1+(bs.getD 0 0).toNat % 64:=by unfold TextN;omega
  rw[this];exact k4
end Go.Shade
namespace Go.Shade
variable {H : Heap} {bs : List UInt8} {cal : FuncId -> Bool} {v : IV} {O : Oracle}
def TwoOk (O:Oracle)(f1 f2:FuncId):Prop:=∀(H:Heap) (p q:Nat) (v:IV) (bs:List UInt8),q≠p->H[q]? =some (.row [OneF f1 p] false)->H[p]? =some (.row [v] false)->off H p v->low H.length v->BS H v bs ->
 O f2 [.ptr q 0] H=some (.int .i64 (((bs.getD 0 0).toNat:Int)*256+((bs.getD 1 0).toNat:Int) - 256),H.set p (.row [tailN 2 v] false))
def TextOk (O:Oracle)(f1 f3:FuncId):Prop:=∀(H:Heap) (p q:Nat) (v:IV) (bs:List UInt8),q≠p->H[q]? =some (.row [OneF f1 p] false)->H[p]? =some (.row [v] false)->off H p v->low H.length v->BS H v bs ->
 O f3 [.ptr q 0] H=some (.str (rdText bs),H.set p (.row [tailN (TextN bs) v] false))
def rd1 (bs:List UInt8):List UInt8:=bs.drop 7
def rd2 (bs:List UInt8):List UInt8:=(rd1 bs).drop (TextN (rd1 bs))
def rdCl (bs:List UInt8):Cl:= { op:=((bs.getD 0 0).toNat:Int) % 20+1,fd:=((bs.getD 1 0).toNat:Int) % 40 - 4,fl:=((bs.getD 2 0).toNat:Int) % 64,n:=((bs.getD 3 0).toNat:Int)*256+((bs.getD 4 0).toNat:Int) - 256,off:=((bs.getD 5 0).toNat:Int)*256+((bs.getD 6 0).toNat:Int) - 256,a:=rdText (rd1 bs),b:=rdText (rd2 bs) }
def rdN (bs:List UInt8):Nat:=7+TextN (rd1 bs)+TextN (rd2 bs)
def dec :Nat->List UInt8->List Cl
 | 0,_=>[]
 | k+1,bs=>if bs=[]then []else rdCl bs::dec k (bs.drop (rdN bs))
def flat7 (l:List Cl):List IV:=(l.map Cl.cells).flatten
theorem flat7_length (l:List Cl):(flat7 l).length=l.length*7:=by
 induction l with
 | nil=>rfl
 | cons c l ih=>simp only[flat7,List.map_cons,List.flatten_cons,List.length_append]at ih ⊢;rw[ih];simp[Cl.cells];omega
theorem flat7_append (a b:List Cl):flat7 (a++b)=flat7 a++flat7 b:=by simp[flat7]
def GH (H:Heap)(p:Nat)(v:IV)(cs:List IV):Heap:=H.set p (.row [v] false)++[.row cs false]
section
variable {H : Heap} {p q : Nat} {v v' : IV} {cs cs' : List IV} {bs : List UInt8}
theorem GH_p (hp:p<H.length):(GH H p v cs)[p]? =some (.row [v] false):=by
 unfold GH;rw[List.getElem?_append_left (by simpa using hp),List.getElem?_set,if_pos rfl,if_pos hp]
theorem GH_o {i:Nat}(hi:i<H.length)(hne:i≠p):(GH H p v cs)[i]? =H[i]? :=by
 unfold GH;rw[List.getElem?_append_left (by simpa using hi),List.getElem?_set_ne (Ne.symm hne)]
theorem GH_b :(GH H p v cs)[H.length]? =some (.row cs false):=by
 unfold GH;rw[List.getElem?_append_right (by simp)];simp
theorem GH_len :(GH H p v cs).length=H.length+1:=by simp[GH]
theorem GH_setp (hp:p<H.length):(GH H p v cs).set p (.row [v'] false)=GH H p v' cs:=by
 unfold GH;rw[List.set_append_left _ _ (by simpa using hp),List.set_set]
theorem GH_setb :(GH H p v cs).set H.length (.row cs' false)=GH H p v cs':=by
 unfold GH;rw[List.set_append_right _ _ (by simp)];simp
theorem GH_bs (hp:p<H.length)(h:BS H v bs)(ho:off H p v)(hl:low H.length v):BS (GH H p v' cs) v bs:=by
 rcases h with⟨rfl,rfl⟩ | ⟨b,o',n,lb,ex,sz,rfl,h1,h2,h3,h4⟩
 ·exact .inl ⟨rfl,rfl⟩
 ·refine .inr ⟨b,o',n,lb,ex,sz,rfl,h1,h2,h3,fun hn=> ?_⟩;obtain⟨cells,ro,g1,g2⟩:=h4 hn;exact⟨cells,ro,by rw[GH_o (hl _ _ _ _ _ _ rfl) (ho _ _ _ _ _ _ rfl)];exact g1,g2⟩
end
theorem low_mono {B C:Nat}(h:low B v)(hc:B<=C):low C v:=fun b o n lb ex sz e=>Nat.lt_of_lt_of_le (h b o n lb ex sz e) hc
structure DecSt (H:Heap)(f1 p q:Nat)(v:IV)(bs:List UInt8):Prop where
 hpq:q≠p
 hq:H[q]? =some (.row [OneF f1 p] false)
 hp:H[p]? =some (.row [v] false)
 ho:off H p v
 hl:low H.length v
 hb:BS H v bs
theorem dec_step {f1 f2 f3:FuncId}(hc1:cal f1=true)(hc2:cal f2=true)(hc3:cal f3=true)(h1:OneOk O f1)(h2:TwoOk O f1 f2)(h3:TextOk O f1 f3){p q:Nat}(hs:DecSt H f1 p q v bs){R:Type}(k:IV->Heap->Option R) :
  (ob (lzbox H (.agg [(.int .i64 0),(.int .i64 0),(.int .i64 0),(.int .i64 0),(.int .i64 0),(.str []),(.str [])])) fun r8 =>
  ob (lload1 r8.2 (.ptr q 0)) fun t9 =>
  ob (lcallV cal O r8.2 t9 []) fun r10 =>
  ob (lbin .rem r10.1 (.int .i64 20)) fun t11 =>
  ob (lbin .add t11 (.int .i64 1)) fun t12 =>
  ob (loff r8.1 0) fun t13 =>
  ob (lstV r10.2 1 t13 t12) fun r14 =>
  ob (lload1 r14.2 (.ptr q 0)) fun t15 =>
  ob (lcallV cal O r14.2 t15 []) fun r16 =>
  ob (lbin .rem r16.1 (.int .i64 40)) fun t17 =>
  ob (lbin .add t17 (.int .i64 (-4))) fun t18 =>
  ob (loff r8.1 1) fun t19 =>
  ob (lstV r16.2 1 t19 t18) fun r20 =>
  ob (lload1 r20.2 (.ptr q 0)) fun t21 =>
  ob (lcallV cal O r20.2 t21 []) fun r22 =>
  ob (lbin .rem r22.1 (.int .i64 64)) fun t23 =>
  ob (loff r8.1 2) fun t24 =>
  ob (lstV r22.2 1 t24 t23) fun r25 =>
  ob (lcallV cal O r25.2 (.func (.func f2) [] [.ptr q 0]) []) fun r26 =>
  ob (loff r8.1 3) fun t27 =>
  ob (lstV r26.2 1 t27 r26.1) fun r28 =>
  ob (lcallV cal O r28.2 (.func (.func f2) [] [.ptr q 0]) []) fun r29 =>
  ob (loff r8.1 4) fun t30 =>
  ob (lstV r29.2 1 t30 r29.1) fun r31 =>
  ob (lcallV cal O r31.2 (.func (.func f3) [] [.ptr q 0]) []) fun r32 =>
  ob (loff r8.1 5) fun t33 =>
  ob (lstV r32.2 1 t33 r32.1) fun r34 =>
  ob (lcallV cal O r34.2 (.func (.func f3) [] [.ptr q 0]) []) fun r35 =>
  ob (loff r8.1 6) fun t36 =>
  ob (lstV r35.2 1 t36 r35.1) fun r37=>k r8.1 r37.2)=k (.ptr H.length 0) (GH H p (tailN (rdN bs) v) (rdCl bs).cells):=by
 obtain⟨hpq,hq,hp,ho,hl,hb⟩:=hs;have hpl:=(ges hp).1;have hql:=(ges hq).1;have start:lzbox H (.agg [(.int .i64 0),(.int .i64 0),(.int .i64 0),(.int .i64 0),(.int .i64 0),(.str []),(.str [])])=some (.ptr H.length 0,GH H p v [(.int .i64 0),(.int .i64 0),(.int .i64 0),(.int .i64 0),(.int .i64 0),(.str []),(.str [])]):=by
  unfold lzbox GH;rw[set_same hp];rfl
 have ld:∀{v cs},lload1 (GH H p v cs) (.ptr q 0)=some (OneF f1 p):=fun {v cs}=>by rw[lload1_ptr,GH_o hql hpq,hq];rfl
 have ok:∀{j cs},BS (GH H p (tailN j v) cs) (tailN j v) (bs.drop j):=fun {j cs}=>GH_bs hpl (hb.tail j) (off_tail (H:=H) ho) (low_tail hl);have c1:∀{j cs},lcallV cal O (GH H p (tailN j v) cs) (OneF f1 p) []=some (.int .i64 ((bs.getD j 0).toNat:Int),GH H p (tailN (j+1) v) cs):=fun {j cs}=>by
  unfold OneF;rw[lcallV_func hc1];show O f1 [.ptr p 0] _=_;rw[h1 _ p _ _ (GH_p hpl) ok,GH_setp hpl,tailN_tailN,getD_drop]
 have c2:∀{j cs},lcallV cal O (GH H p (tailN j v) cs) (.func (.func f2) [] [.ptr q 0]) []=some (.int .i64 (((bs.getD j 0).toNat:Int)*256+((bs.getD (j+1) 0).toNat:Int) - 256),GH H p (tailN (j+2) v) cs):=fun {j cs}=>by
  rw[lcallV_func hc2];show O f2 [.ptr q 0] _=_;rw[h2 _ p q _ _ hpq (by rw[GH_o hql hpq];exact hq) (GH_p hpl) (off_tail (H:=H) ho) (low_mono (low_tail hl) (by rw[GH_len];omega)) ok,GH_setp hpl,tailN_tailN,getD_drop];have:(bs.drop j).getD 1 0=bs.getD (j+1) 0:=by simp[List.getD_eq_getElem?_getD]
  rw[this]
 have c3:∀{j cs},lcallV cal O (GH H p (tailN j v) cs) (.func (.func f3) [] [.ptr q 0]) []=some (.str (rdText (bs.drop j)),GH H p (tailN (j+TextN (bs.drop j)) v) cs):=fun {j cs}=>by
  rw[lcallV_func hc3];show O f3 [.ptr q 0] _=_;rw[h3 _ p q _ _ hpq (by rw[GH_o hql hpq];exact hq) (GH_p hpl) (off_tail (H:=H) ho) (low_mono (low_tail hl) (by rw[GH_len];omega)) ok,GH_setp hpl,tailN_tailN]
 have st:∀{v cs i x},x.one=true->i<cs.length->lstV (GH H p v cs) 1 (.ptr H.length i) x=some (.tuple [],GH H p v (cs.set i x)):=fun {v cs i x} hx hi=>by
  rw[lstV_ptr,GH_b,putO_one hx hi,ob_some,GH_setb]
 have m:∀(x:UInt8) (n:Int),0<n->(x.toNat:Int).tmod n=(x.toNat:Int) % n:=fun x n hn=>Int.tmod_eq_emod_of_nonneg (by omega);have e0:v=tailN 0 v:=(tailN_zero v).symm;rw[start,ob_some];simp only;rw[ld,ob_some]
 conv=>lhs;rw[e0]
 rw[c1,ob_some];simp only;rw[lbin_rem (by decide),ob_some,m _ _ (by decide),lbin_add,ob_some,wrap_i64 (by omega) (by omega),loff_ptr,ob_some,st rfl (by simp),ob_some];simp only;rw[ld,ob_some,c1,ob_some];simp only;rw[lbin_rem (by decide),ob_some,m _ _ (by decide),lbin_add,ob_some,wrap_i64 (by omega) (by omega),loff_ptr,ob_some,st rfl (by simp),ob_some];simp only;rw[ld,ob_some,c1,ob_some];simp only;rw[lbin_rem (by decide),ob_some,m _ _ (by decide),loff_ptr,ob_some,st rfl (by simp),ob_some];simp only;rw[c2,ob_some,loff_ptr,ob_some,st rfl (by simp),ob_some];simp only;rw[c2,ob_some,loff_ptr,ob_some,st rfl (by simp),ob_some];simp only;rw[c3,ob_some,loff_ptr,ob_some,st rfl (by simp),ob_some];simp only;rw[c3,ob_some,loff_ptr,ob_some,st rfl (by simp),ob_some];simp only
 congr 1
 have ed:bs.drop (0+1+1+1+2+2+TextN (bs.drop (0+1+1+1+2+2)))=rd2 bs:=by
  simp only[rd2,rd1,List.drop_drop]
 have ed1:bs.drop (0+1+1+1+2+2)=rd1 bs:=rfl;rw[ed,ed1];have en:0+1+1+1+2+2+TextN (rd1 bs)+TextN (rd2 bs)=rdN bs:=by unfold rdN;omega
 rw[en];rfl
theorem BS.len (h:BS H v bs):llen H .slice v=some (.int .i64 (bs.length:Nat)):=by
 rcases h with⟨rfl,rfl⟩ | ⟨b,o',n,lb,ex,sz,rfl,h1,h2,h3,h4⟩
 ·rfl
 ·subst h3;rfl
theorem dec_loop {N:Nat}{f1 f2 f3 p q B:Nat}{gE0:IV->Heap->Option (IV×Heap)}(hc1:cal f1=true)(hc2:cal f2=true)(hc3:cal f3=true)(h1:OneOk O f1)(h2:TwoOk O f1 f2)(h3:TextOk O f1 f3)(hpB:p<B)(hqB:q<B) :
  ∀(k n:Nat) (H:Heap) (v v6:IV) (bs:List UInt8) (acc:List Cl),k<n->acc.length+k=200->DecSt H f1 p q v bs->B<=H.length->low B v->Buf B 7 H v6 (flat7 acc) ->
  ∃v6' H',callDecodeC0S cal O N f1 f2 f3 gE0 n (.ptr p 0) (.ptr q 0) (.func (.func f2) [] [.ptr q 0]) (.func (.func f3) [] [.ptr q 0]) v6 H=gE0 v6' H'/\Buf B 7 H' v6' (flat7 (acc++dec k bs))/\(∀i,i<B->i≠p->H'[i]? =H[i]?)/\H.length<=H'.length/\(dec k bs=[]->v6'=v6):=by
 intro k
 induction k with
 | zero =>
  intro n H v v6 bs acc hn hk hs hB hlow hv6;obtain⟨n,rfl⟩:∃m,n=m+1:=⟨n - 1,by omega⟩;have hl:lload1 H (.ptr p 0)=some v:=by rw[lload1_ptr,hs.hp];rfl
  refine⟨v6,H,?_,by simpa[dec]using hv6,fun _ _ _=>rfl,Nat.le_refl _,fun _=>rfl⟩;rw[callDecodeC0S,hl,ob_some,hs.hb.len,ob_some,lbin_gtr,ob_some];obtain⟨m,_,hm,hlen⟩:=hv6.len (by omega);rw[flat7_length]at hm;have hm':m=200:=by omega
  subst hm'
  cases hd:decide ((0:Int)<(bs.length:Nat))
  ·simp only[isB_ft,gq_false,ob_some,lpick_false,cnd_false]
  ·have:decide (((200:Nat):Int)<200)=false:=rfl;simp only[isB_tt,gq_true,ob_some,hlen,lbin_lss,this,lpick_true,cnd_false]
 | succ k ih =>
  intro n H v v6 bs acc hn hk hs hB hlow hv6;obtain⟨n,rfl⟩:∃m,n=m+1:=⟨n - 1,by omega⟩;have hl:lload1 H (.ptr p 0)=some v:=by rw[lload1_ptr,hs.hp];rfl
  rw[callDecodeC0S,hl,ob_some,hs.hb.len,ob_some,lbin_gtr,ob_some];by_cases hbs:bs=[]
  ·subst hbs;refine⟨v6,H,?_,by simpa[dec]using hv6,fun _ _ _=>rfl,Nat.le_refl _,fun _=>rfl⟩;have hd:decide ((0:Int)<(([]:List UInt8).length:Nat))=false:=rfl;simp only[hd,isB_ft,gq_false,ob_some,lpick_false,cnd_false]
  ·have hpos:0<bs.length:=List.length_pos_iff.2 hbs;have hd:decide ((0:Int)<(bs.length:Nat))=true:=decide_eq_true (by omega);obtain⟨m,_,hm,hlen⟩:=hv6.len (by omega);rw[flat7_length]at hm;have hm':m=acc.length:=by omega
   subst hm';have hd2:decide (((acc.length:Nat):Int)<200)=true:=decide_eq_true (by omega);rw[hd];simp only[isB_tt,gq_true,ob_some,hlen,lbin_lss,hd2,lpick_true,cnd_true];have hpl:=(ges hs.hp).1;have hql:=(ges hs.hq).1;rw[dec_step hc1 hc2 hc3 h1 h2 h3 hs (fun px Hx=>ob (lloadn Hx 7 px) fun t38 =>
    ob (lbldS Hx 7 1 [(.int .i64 0),(.int .i64 0),(.int .i64 0),(.int .i64 0),(.int .i64 0),(.str []),(.str [])] [(0,t38)]) fun r39 =>
    ob (lapp r39.2 7 72 v6 r39.1) fun r40 =>
    callDecodeC0S cal O N f1 f2 f3 gE0 n (.ptr p 0) (.ptr q 0) (.func (.func f2) [] [.ptr q 0]) (.func (.func f3) [] [.ptr q 0]) r40.1 r40.2)]
   generalize hG:GH H p (tailN (rdN bs) v) (rdCl bs).cells=G;have hGb:G[H.length]? =some (.row (rdCl bs).cells false):=by rw[←hG];exact GH_b
   have hGlen:G.length=H.length+1:=by rw[←hG];exact GH_len
   have hGi:∀i,i<H.length->i≠p->G[i]? =H[i]? :=fun i hi hne=>by rw[←hG];exact GH_o hi hne
   have hGp:G[p]? =some (.row [tailN (rdN bs) v] false):=by rw[←hG];exact GH_p hpl
   have hln:lloadn G 7 (.ptr H.length 0)=some (.agg (rdCl bs).cells):=by rw[lloadn_ptr,hGb];rfl
   have hbl:lbldS G 7 1 [(.int .i64 0),(.int .i64 0),(.int .i64 0),(.int .i64 0),(.int .i64 0),(.str []),(.str [])] [(0,.agg (rdCl bs).cells)]=some (.slice G.length 0 1 1 true 7,G++[.row (rdCl bs).cells false]):=rfl;simp only[hln,ob_some,hbl];have hv6':Buf B 7 (G++[.row (rdCl bs).cells false]) v6 (flat7 acc):=by
    rcases hv6 with h | ⟨r,m,ex,e,g1,g2,g3⟩
    ·exact .inl h
    ·refine .inr ⟨r,m,ex,e,g1,?_,g3⟩;have hr:=(ges g2).1;rw[List.getElem?_append_left (by omega),hGi r hr (by omega)];exact g2
   have hx:Buf 0 7 (G++[.row (rdCl bs).cells false]) (.slice G.length 0 1 1 true 7) (rdCl bs).cells:=.inr ⟨_,1,true,rfl,by omega,by simp,rfl⟩;obtain⟨v7,H7,a7,b7,k7⟩:=app_own (b:=72) hv6' (by simp;omega) (by omega) hx rfl (by rw[flat7_length];simp[Cl.cells];omega);rw[a7,ob_some];have hfl:flat7 acc++(rdCl bs).cells=flat7 (acc++[rdCl bs]):=by rw[flat7_append];simp[flat7]
   rw[hfl]at b7;have h7i:∀i,i<B->H7[i]? =G[i]? :=fun i hi=>by rw[k7.1 i hi,List.getElem?_append_left (by omega)]
   have h7len:G.length<=H7.length:=by have:=k7.2;simp at this;omega
   have hst:DecSt H7 f1 p q (tailN (rdN bs) v) (bs.drop (rdN bs)):=by
    refine⟨hs.hpq,by rw[h7i q hqB,hGi q hql hs.hpq];exact hs.hq,by rw[h7i p hpB];exact hGp,off_tail (H:=H) hs.ho,low_mono (low_tail hs.hl) (by omega),?_⟩;exact(GH_bs (v':=tailN (rdN bs) v) (cs:=(rdCl bs).cells) hpl (hs.hb.tail _) (off_tail (H:=H) hs.ho) (low_tail hs.hl)).keepB (low_tail hlow) (by rw[hG];exact h7i)
   obtain⟨v8,H8,a8,b8,i8,l8,_⟩:=ih n H7 (tailN (rdN bs) v) v7 (bs.drop (rdN bs)) (acc++[rdCl bs]) (by omega) (by simp;omega) hst (by omega) (low_tail hlow) b7;refine⟨v8,H8,a8,?_,fun i hi hne=>by rw[i8 i hi hne,h7i i hi,hGi i (by omega) hne],by omega,fun e=>by simp[dec,hbs]at e⟩;have:acc++dec (k+1) bs=acc++[rdCl bs]++dec k (bs.drop (rdN bs)):=by simp[dec,hbs]
   rw[this];exact b8
theorem dec_s {N:Nat}{f1 f2 f3:FuncId}(hN:200<N)(hc1:cal f1=true)(hc2:cal f2=true)(hc3:cal f3=true)(h1:OneOk O f1)(h2:TwoOk O f1 f2)(h3:TextOk O f1 f3)(hv:v.one=true)(hl:low H.length v)(hb:BS H v bs) :
  ∃v' H',callDecodeS cal O N f1 f2 f3 v H=some (v',H')/\Buf H.length 7 H' v' (flat7 (dec 200 bs))/\(∀i,i<H.length->H'[i]? =H[i]?)/\(dec 200 bs=[]->v'=.nilSlice):=by
 unfold callDecodeS callDecodeC7S callDecodeC6S callDecodeC5S callDecodeC4S callDecodeC3S callDecodeC2S callDecodeC1S;rw[lbox_one hv,ob_some,ob_some,lzbox_eq,ob_some];simp only;have hq:((H++[IObj.row [v] false])++[IObj.row (IV.nilFunc).cells false])[(H++[IObj.row [v] false]).length]? =some (IObj.row [.nilFunc] false):=by simp[IV.cells]
 rw[lstV_ptr,hq,putO_one rfl (by simp),ob_some,ob_some,ob_some,ob_some];simp only;have hset:(H++[IObj.row [v] false]++[IObj.row (IV.nilFunc).cells false]).set (H++[IObj.row [v] false]).length (IObj.row ([IV.nilFunc].set 0 (.func (.func f1) [] [.ptr H.length 0])) false)=H++[IObj.row [v] false]++[IObj.row [OneF f1 H.length] false]:=by
  rw[List.set_append_right _ _ (Nat.le_refl _),Nat.sub_self];rfl
 rw[hset];generalize hK:H++[IObj.row [v] false]++[IObj.row [OneF f1 H.length] false]=K;have hKlen:K.length=H.length+2:=by rw[←hK];simp
 have hKi:∀i,i<H.length->K[i]? =H[i]? :=fun i hi=>by rw[←hK,List.append_assoc,List.getElem?_append_left hi]
 have hKp:K[H.length]? =some (IObj.row [v] false):=by rw[←hK];simp
 have hKq:K[H.length+1]? =some (IObj.row [OneF f1 H.length] false):=by rw[←hK];simp
 have hlen:(H++[IObj.row [v] false]).length=H.length+1:=by simp
 rw[hlen];obtain⟨v6,H6,a6,b6,i6,l6,n6⟩:=dec_loop (cal:=cal) (O:=O) (N:=N) (p:=H.length) (q:=H.length+1) (B:=H.length+2) (gE0:=fun v6 H=>some (v6,H)) hc1 hc2 hc3 h1 h2 h3 (by omega) (by omega) 200 N K v .nilSlice bs [] (by omega) rfl
  ⟨by omega,hKq,hKp,fun b o n lb ex sz e=>by have:=hl b o n lb ex sz e;omega,low_mono hl (by omega),hb.keepB hl hKi⟩ (by omega) (low_mono hl (by omega)) (.inl ⟨rfl,rfl⟩)
 refine⟨v6,H6,a6,?_,fun i hi=>by rw[i6 i (by omega) (by omega),hKi i hi],n6⟩;rcases b6 with h | ⟨r,m,ex,e,g1,g2,g3⟩
 ·exact .inl h
 ·exact .inr ⟨r,m,ex,e,by omega,g2,g3⟩
end Go.Shade
namespace Go.Shade
variable {H : Heap}
def CS (H:Heap)(v:IV)(l:List Cl):Prop :=
 (v=.nilSlice/\l=[])∨∃b o n lb ex sz,v=.slice b o n lb ex sz/\n<=lb/\(sz=0∨sz=7)/\l.length=n/\∀i c,l[i]? =some c->lloadn H 7 (.ptr b (o+i*7))=some (.agg c.cells)
theorem CS.len {v:IV}{l:List Cl}(h:CS H v l):llen H .slice v=some (.int .i64 (l.length:Nat)):=by
 rcases h with⟨rfl,rfl⟩ | ⟨b,o,n,lb,ex,sz,rfl,h1,h2,h3,h4⟩
 ·rfl
 ·subst h3;rfl
theorem CS.at {H:Heap}{v:IV}{l:List Cl}(h:CS H v l){i:Nat}{c:Cl}(hi:l[i]? =some c):∃b o,lix 7 v (.int .i64 (i:Nat))=some (.ptr b o)/\lloadn H 7 (.ptr b o)=some (.agg c.cells):=by
 rcases h with⟨rfl,rfl⟩ | ⟨b,o,n,lb,ex,sz,rfl,h1,h2,h3,h4⟩
 ·simp at hi
 ·have:=(ges hi).1;refine⟨b,o+i*7,?_,h4 i c hi⟩;rw[lix_slice,if_pos (by omega)];simp
theorem lloadn_keep {H':Heap}{b o n:Nat}(h:H'[b]? =H[b]?):lloadn H' n (.ptr b o)=lloadn H n (.ptr b o):=by rw[lloadn_ptr,lloadn_ptr,h]
theorem CS.keepB {B:Nat}{H':Heap}{v:IV}{l:List Cl}(h:CS H v l)(hl:low B v)(hk:∀i,i<B->H'[i]? =H[i]?):CS H' v l:=by
 rcases h with⟨rfl,rfl⟩ | ⟨b,o',n,lb,ex,sz,rfl,h1,h2,h3,h4⟩
 ·exact .inl ⟨rfl,rfl⟩
 ·exact .inr ⟨b,o',n,lb,ex,sz,rfl,h1,h2,h3,fun i c hi=>by rw[lloadn_keep (hk b (hl _ _ _ _ _ _ rfl))];exact h4 i c hi⟩
theorem flat7_get :∀(l:List Cl) (i:Nat) (c:Cl),l[i]? =some c->((flat7 l).drop (i*7)).take 7=c.cells
 | [],i,c,h=>by simp at h
 | d::l,0,c,h=>by
  simp at h;subst h;simp only[flat7,List.map_cons,List.flatten_cons,Nat.zero_mul,List.drop_zero];rw[List.take_append_of_le_length (by simp[Cl.cells])];rfl
 | d::l,i+1,c,h=>by
  have:=flat7_get l i c (by simpa using h);simp only[flat7,List.map_cons,List.flatten_cons]at this ⊢;have e:(i+1)*7=d.cells.length+i*7:=by simp[Cl.cells];omega
  rw[e,←List.drop_drop,List.drop_left']
  ·exact this
  ·rfl
theorem Buf.calls {B:Nat}{H:Heap}{v:IV}{l:List Cl}(h:Buf B 7 H v (flat7 l)):CS H v l:=by
 rcases h with⟨rfl,e⟩ | ⟨r,n,ex,rfl,g1,g2,g3⟩
 ·refine .inl ⟨rfl,?_⟩;have:=flat7_length l;rw[e]at this;simp at this;exact List.length_eq_zero_iff.1 (by omega)
 ·rw[flat7_length]at g3;refine .inr ⟨r,0,n,n,ex,7,rfl,Nat.le_refl _,.inr rfl,by omega,fun i c hi=> ?_⟩;have hil:=(ges hi).1;rw[lloadn_ptr,g2,ogn_row,if_pos (by rw[flat7_length];omega),Nat.zero_add,flat7_get l i c hi]
end Go.Shade
namespace Go.Shade
def EncOk (O:Oracle)(f:FuncId):Prop:=∀(c:Cl) (H:Heap),O f [.agg c.cells] H=if c.may=true then some (.tuple [.slice H.length 0 c.enc.length c.enc.length false 1,.int .i64 0],H++[.row (bytes c.enc) false])else some (.tuple [.nilSlice,.int .i64 22],H)
theorem enc_len {c:Cl}(h:c.may=true):c.enc.length<=135:=by
 obtain⟨_,_,_,_,_,m11,m12⟩:=c.may_iff.1 h;simp only[Cl.enc,List.length_append,List.length_cons,List.length_nil];omega
def encs (l:List Cl):List UInt8:=(l.map Cl.enc).flatten
theorem script_loop {cal:FuncId->Bool}{O:Oracle}{N:Nat}{f:FuncId}(he:EncOk O f){gE0:IV->Heap->Option (IV×Heap)}{B:Nat}{v:IV}{l:List Cl}(hl:low B v)(hl200:l.length<=200):∀(k i n:Nat) (H:Heap) (v4:IV) (acc:List UInt8),i+k=l.length->k<n->B<=H.length->CS H v l->Buf B 1 H v4 (bytes acc)->acc.length<=135*i ->
  ∃v4' H',callScriptC0S cal O N f gE0 n v4 v (.int .i64 (l.length:Nat)) (.int .i64 (i:Nat)) H=(if(l.drop i).all Cl.may=true then gE0 v4' H' else some (.tuple [.nilSlice,.int .i64 22],H'))/\Keep B H H'/\((l.drop i).all Cl.may=true->Buf B 1 H' v4' (bytes (acc++encs (l.drop i))))/\(l.drop i=[]->v4'=v4):=by
 intro k
 induction k with
 | zero =>
  intro i n H v4 acc hi hn hB hc hv hacc;obtain⟨n,rfl⟩:∃m,n=m+1:=⟨n - 1,by omega⟩;have hd:decide (((i:Nat):Int)<(l.length:Nat))=false:=decide_eq_false (by omega);have hdr:l.drop i=[]:=List.drop_of_length_le (by omega);refine⟨v4,H,?_,Keep.refl _ _,(fun _=>by rw[hdr];simpa[encs]using hv),fun _=>rfl⟩;rw[callScriptC0S,lbin_lss,ob_some,hd,cnd_false,hdr];rfl
 | succ k ih =>
  intro i n H v4 acc hi hn hB hc hv hacc;obtain⟨n,rfl⟩:∃m,n=m+1:=⟨n - 1,by omega⟩;have hd:decide (((i:Nat):Int)<(l.length:Nat))=true:=decide_eq_true (by omega);have e1:=List.getElem?_eq_getElem (l:=l) (i:=i) (by omega);obtain⟨b1,o1,x1,y1⟩:=hc.at e1;have d1:l.drop i=l[i]::l.drop (i+1):=List.drop_eq_getElem_cons (by omega);generalize l[i]=c at e1 y1 d1;rw[callScriptC0S,lbin_lss,ob_some,hd,cnd_true,x1,ob_some,y1,ob_some,lzbox_eq,ob_some];simp only;have hz:(H++[IObj.row (IV.cells (.agg [(.int .i64 0),(.int .i64 0),(.int .i64 0),(.int .i64 0),(.int .i64 0),(.str []),(.str [])])) false])[H.length]? =some (.row [(.int .i64 0),(.int .i64 0),(.int .i64 0),(.int .i64 0),(.int .i64 0),(.str []),(.str [])] false):=by rw[at_new];rfl
  rw[lstV_ptr,hz,putO_all (n:=7) (xs:=c.cells) (show c.cells.all IV.one=true from rfl) (show c.cells.length=7 from rfl) (by simp),ob_some,ob_some];simp only;have hset:(H++[IObj.row (IV.cells (.agg [(.int .i64 0),(.int .i64 0),(.int .i64 0),(.int .i64 0),(.int .i64 0),(.str []),(.str [])])) false]).set H.length (.row c.cells false)=H++[.row c.cells false]:=by rw[set_new];rfl
  rw[hset];have hld:lloadn (H++[IObj.row c.cells false]) 7 (.ptr H.length 0)=some (.agg c.cells):=by rw[lloadn_ptr,at_new];rfl
  rw[hld,ob_some,he];by_cases hm:c.may=true
  ·rw[if_pos hm,ob_some];simp only;rw[iextract_tuple,iextract_tuple];simp only[List.getElem?_cons_zero,List.getElem?_cons_succ,ob_some,lbin_neq,decide_true,Bool.not_true,cnd_false];generalize hK:H++[IObj.row c.cells false]=K;have hKlen:K.length=H.length+1:=by rw[←hK];simp
   have hKi:∀i,i<H.length->K[i]? =H[i]? :=fun i hi=>by rw[←hK,List.getElem?_append_left hi]
   have hv':Buf B 1 (K++[.row (bytes c.enc) false]) v4 (bytes acc):=by
    rcases hv with h | ⟨r,m,ex,e,g1,g2,g3⟩
    ·exact .inl h
    ·refine .inr ⟨r,m,ex,e,g1,?_,g3⟩;have hr:=(ges g2).1;rw[List.getElem?_append_left (by omega),hKi r hr];exact g2
   have hx:Buf 0 1 (K++[.row (bytes c.enc) false]) (.slice K.length 0 c.enc.length c.enc.length false 1) (bytes c.enc):=.inr ⟨_,_,false,rfl,by omega,by simp,by simp[bytes_length]⟩;have hel:=enc_len hm;obtain⟨v7,H7,a7,b7,k7⟩:=app_own (b:=1) hv' (by simp;omega) (by omega) hx (bytes_one _) (by rw[bytes_length,bytes_length];omega);rw[a7,ob_some,lbin_add,ob_some,wrap_i64 (by omega) (by omega)];rw[←bytes_append]at b7;have h7i:∀i,i<B->H7[i]? =H[i]? :=fun i hi=>by rw[k7.1 i hi,List.getElem?_append_left (by omega),hKi i (by omega)]
   have h7len:H.length<=H7.length:=by have:=k7.2;simp at this;omega
   obtain⟨v8,H8,a8,k8,b8,_⟩:=ih (i+1) n H7 v7 (acc++c.enc) (by omega) (by omega) (by omega) (hc.keepB hl h7i) b7 (by simp;omega);refine⟨v8,H8,?_,⟨fun i hi=>by rw[k8.1 i hi,h7i i hi],Nat.le_trans h7len k8.2⟩,fun hall=> ?_,fun e=>by rw[d1]at e;cases e⟩
   ·rw[show(((i:Nat):Int)+1)=((i+1:Nat):Int) by omega,a8,d1];simp only[List.all_cons,hm,Bool.true_and]
   ·rw[d1]at hall ⊢;simp only[List.all_cons,hm,Bool.true_and]at hall;have:=b8 hall
    simpa[encs,List.append_assoc]using this
  ·rw[if_neg hm,ob_some];simp only;rw[iextract_tuple,iextract_tuple];have h22:decide ((22:Int)=0)=false:=rfl;simp only[List.getElem?_cons_zero,List.getElem?_cons_succ,ob_some,lbin_neq,h22,Bool.not_false,cnd_true];have hf:(l.drop i).all Cl.may=false:=by
    rw[d1,List.all_cons]
    cases hcm:c.may with
    | true=>exact absurd hcm hm
    | false=>rfl
   refine⟨v4,H++[IObj.row c.cells false],?_,Keep.push _ _ hB,fun hall=> ?_,fun _=>rfl⟩
   ·rw[hf];rfl
   ·rw[hf]at hall;cases hall
def okScr (l:List Cl):Bool:=decide (l.length<=200)&&l.all Cl.may
theorem script_s {cal:FuncId->Bool}{O:Oracle}{N:Nat}{f:FuncId}(he:EncOk O f)(hN:200<N){H:Heap}{v:IV}{l:List Cl}(hl:low H.length v)(hc:CS H v l) :
  ∃v' H',callScriptS cal O N f v H=(if okScr l=true then some (.tuple [v',.int .i64 0],H')else some (.tuple [.nilSlice,.int .i64 22],H'))/\Keep H.length H H'/\(okScr l=true->Buf H.length 1 H' v' (bytes (encs l)))/\(l=[]->v'=.nilSlice):=by
 unfold callScriptS callScriptC6S callScriptC5S callScriptC4S callScriptC3S callScriptC2S callScriptC1S;rw[hc.len,ob_some,lbin_gtr,ob_some];by_cases h200:l.length<=200
 ·have:decide ((200:Int)<(l.length:Nat))=false:=decide_eq_false (by omega);rw[this,cnd_false,ob_some];obtain⟨v4,H4,a,k,b,n4⟩:=script_loop (cal:=cal) (O:=O) (N:=N) he (gE0:=fun v4 H=>some ((.tuple [v4,(.int .i64 0)]),H)) hl h200 l.length 0 N H .nilSlice [] (by omega) (by omega) (Nat.le_refl _) hc (.inl ⟨rfl,rfl⟩) (by simp);have hok:okScr l=l.all Cl.may:=by unfold okScr;rw[decide_eq_true h200,Bool.true_and]
  rw[hok];exact⟨v4,H4,by simpa using a,k,by simpa using b,by simpa using n4⟩
 ·have:decide ((200:Int)<(l.length:Nat))=true:=decide_eq_true (by omega);have hok:okScr l=false:=by unfold okScr;rw[decide_eq_false h200];rfl
  rw[this,cnd_true,hok];exact⟨.nilSlice,H,rfl,Keep.refl _ _,(fun h=>by cases h),fun _=>rfl⟩
end Go.Shade
namespace Go.Shade
variable {H : Heap} {P : Program} {T : Table} {f f1 w : FuncId}
theorem simOf (hT:SoundT P T)(hm:P.follows .mixedOrders=true){lf:LFun}(h0:T f=none)(hl:LoF P f lf)(N:Nat){args:List IV}{H':Heap}{r:IV}(hn:args.length<=lf.n)(hr:lrunK (callable P) (den P T) N lf args H=some (r,H')):SimCall P f args H r H':=by
 obtain⟨⟨fn,h1,h2⟩,_⟩:=hl;exact sim_low hT hm (cal:=callable P) (fun _ h=>h) h0 h1 h2 hn (lrunK_le hr)
abbrev RelT :=List IV->Heap->IV×Heap->Prop
theorem den_tab {S:RelT}(h:T f=some (tab S)){args:List IV}{x:IV×Heap}(hf:∀x y,S args H x->S args H y->x=y)(hs:S args H x):den P T f args H=some x:=by
 rw[den_table h];exact tab_eq hf hs
def WithinR :RelT:=fun args H x=>∃a lo hi,args=[.int .i64 a,.int .i64 lo,.int .i64 hi]/\x=(.bool (decide (lo<=a)&&decide (a<=hi)),H)
theorem simWithin (hT:SoundT P T)(hm:P.follows .mixedOrders=true)(h0:T f=none)(hl:LoF P f callWithin):∀args H x,WithinR args H x->SimCall P f args H x.1 x.2:=by
 rintro args H x ⟨a,lo,hi,rfl,rfl⟩;exact simOf hT hm h0 hl 0 (nble rfl) (by rw[callWithinEq];exact within_s a lo hi H)
theorem okWithin (h:T w=some (tab WithinR)):WithinOk (den P T) w:=fun a lo hi H =>
 den_tab h (fun x y ⟨_,_,_,e,hx⟩ ⟨_,_,_,e',hy⟩=>by cases e;cases e';rw[hx,hy]) ⟨a,lo,hi,rfl,rfl⟩
theorem Cl.inj {c d:Cl}(h:c.cells=d.cells):c=d:=by
 simp only[Cl.cells,List.cons.injEq,IV.int.injEq,IV.str.injEq,true_and,and_true]at h;obtain⟨h1,h2,h3,h4,h5,h6,h7⟩:=h
 cases c;cases d;simp_all
def MayR :RelT:=fun args H x=>∃c:Cl,args=[.agg c.cells]/\x=(.bool c.may,H)
theorem simMay (hT:SoundT P T)(hm:P.follows .mixedOrders=true)(hw:T w=some (tab WithinR))(h0:T f=none)(hl:LoF P f (callMay w)):∀args H x,MayR args H x->SimCall P f args H x.1 x.2:=by
 rintro args H x ⟨c,rfl,rfl⟩;exact(simOf hT hm h0 hl 0 (nble rfl) (by rw[callMayEq];exact may_s (okWithin hw) c H)).drop (fun i o hi=>by rw[List.getElem?_append_left (ges hi).1];exact hi) rfl
theorem okMay (h:T f=some (tab MayR)):MayOk (den P T) f:=fun c H =>
 den_tab h (fun x y ⟨c1,e,hx⟩ ⟨c2,e',hy⟩=>by
  rw[hx,hy];have e1:c.cells=c1.cells:=by simpa using e
  have e2:c.cells=c2.cells:=by simpa using e'
  rw[←Cl.inj e1,←Cl.inj e2]) ⟨c,rfl,rfl⟩
def EncR :RelT:=fun args H x=>∃c:Cl,args=[.agg c.cells]/\x=if c.may=true then(.tuple [.slice H.length 0 c.enc.length c.enc.length false 1,.int .i64 0],H++[.row (bytes c.enc) false])else(.tuple [.nilSlice,.int .i64 22],H)
theorem VR_tuple2 {m:Mp}{a b a':IV}{u:Value}(h:VR m (.tuple [a,b]) u)(k:∀u,VR m a u->VR m a' u):VR m (.tuple [a',b]) u:=by
 simp only[VR,VRs]at h ⊢;obtain⟨l,h1,v,vs,h2,h3,h4⟩:=h;exact⟨l,h1,v,vs,h2,k v h3,h4⟩
theorem simEnc (hT:SoundT P T)(hm:P.follows .mixedOrders=true)(hw:T w=some (tab MayR))(h0:T f=none)(hl:LoF P f (callEncode w)):∀args H x,EncR args H x->SimCall P f args H x.1 x.2:=by
 rintro args H x ⟨c,rfl,rfl⟩;by_cases hc:c.may=true
 ·rw[if_pos hc];obtain⟨v,H',h1,h2,h3⟩:=enc_yes (cal:=callable P) (N:=0) (okMay hw) hc H;have hs:=simOf hT hm h0 hl 0 (args:=[.agg c.cells]) (nble rfl) (by rw[callEncodeEq];exact h1);have hk:∀(i:Nat) o,H[i]? =some o->H'[i]? =some o:=fun i o hi=>by
   have hlt:=(ges hi).1;rw[h3.1 i (by omega),List.getElem?_append_left hlt];exact hi
  have hne:c.enc≠ []:=by simp[Cl.enc]
  rcases h2 with⟨_,e⟩ | ⟨r,n,ex,rfl,g1,g2,g3⟩
  ·exact absurd (by simpa[bytes]using e) hne
  ·rw[bytes_length,Nat.mul_one]at g3;subst g3;refine SimCall.one (r':=.tuple [.slice H.length 0 c.enc.length c.enc.length false 1,.int .i64 0]) (hs.weak (r':=.tuple [.slice r 0 c.enc.length c.enc.length false 1,.int .i64 0]) fun m u hu=>VR_tuple2 hu fun u h=>VR_exact h) hk g2 (by omega) (bytes_inB _ _) ?_ ?_
   ·simp only[ren,rens,if_true]
   ·simp only[inB,inBs,Bool.and_true,decide_eq_true_eq];omega
 ·have hf:c.may=false:=by simpa using hc
  rw[if_neg hc];exact(simOf hT hm h0 hl 0 (nble rfl) (by rw[callEncodeEq];exact enc_no (okMay hw) hf H)).drop (fun i o hi=>by rw[List.getElem?_append_left (ges hi).1];exact hi) rfl
theorem okEnc (h:T f=some (tab EncR)):EncOk (den P T) f:=fun c H=>by
 have:=den_tab (P:=P) h (args:=[.agg c.cells]) (H:=H) (fun x y ⟨c1,e,hx⟩ ⟨c2,e',hy⟩=>by
  rw[hx,hy];have e1:c.cells=c1.cells:=by simpa using e
  have e2:c.cells=c2.cells:=by simpa using e'
  rw[←Cl.inj e1,←Cl.inj e2]) ⟨c,rfl,rfl⟩
 rw[this];split<;>rfl
theorem BS.inj {v:IV}{bs cs:List UInt8}(h:BS H v bs)(k:BS H v cs):bs=cs:=by
 rcases h with⟨rfl,rfl⟩ | ⟨b,o,n,lb,ex,sz,rfl,h1,h2,h3,h4⟩
 ·rcases k with⟨_,rfl⟩ | ⟨b,o,n,lb,ex,sz,e,_⟩
  ·rfl
  ·cases e
 ·rcases k with⟨e,_⟩ | ⟨b',o',n',lb',ex',sz',e,k1,k2,k3,k4⟩
  ·cases e
  ·cases e
   apply List.ext_getElem (by omega);intro i hi hi';obtain⟨cells,ro,g1,g2⟩:=h4 (by omega);obtain⟨cells',ro',g1',g2'⟩:=k4 (by omega);rw[g1]at g1';cases g1'
   have a:=g2 i (by omega);have b':=g2' i (by omega);rw[a]at b';simp only[Option.some.injEq,IV.int.injEq,true_and,List.getD_eq_getElem?_getD,List.getElem?_eq_getElem hi,List.getElem?_eq_getElem hi',Option.getD_some]at b';exact UInt8.toNat_inj.1 (by omega)
theorem BS.inB {H:Heap}{v:IV}{bs:List UInt8}(h:BS H v bs)(hl:low H.length v)(k:Nat):Shade.inB H.length (tailN k v)=true:=by
 rcases h with⟨rfl,rfl⟩ | ⟨b,o,n,lb,ex,sz,rfl,_⟩
 ·rfl
 ·simp only[tailN,Shade.inB,decide_eq_true_eq];exact hl _ _ _ _ _ _ rfl
def OneR :RelT:=fun args H x=>∃p v bs,args=[.ptr p 0]/\H[p]? =some (.row [v] false)/\BS H v bs/\x=(.int .i64 ((bs.getD 0 0).toNat:Int),H.set p (.row [tailN 1 v] false))
theorem simOne (hT:SoundT P T)(hm:P.follows .mixedOrders=true)(h0:T f=none)(hl:LoF P f callDecode1):∀args H x,OneR args H x->SimCall P f args H x.1 x.2:=by
 rintro args H x ⟨p,v,bs,rfl,hp,hb,rfl⟩;exact simOf hT hm h0 hl 0 (nble rfl) (by rw[callDecode1Eq];exact one_s hp hb)
theorem okOne (h:T f=some (tab OneR)):OneOk (den P T) f:=fun H p v bs hp hb =>
 den_tab h (fun x y ⟨p1,v1,b1,e1,i1,j1,hx⟩ ⟨p2,v2,b2,e2,i2,j2,hy⟩=>by
  cases e1;cases e2
  rw[i1]at i2;cases i2
  rw[hx,hy,j1.inj j2]) ⟨p,v,bs,rfl,hp,hb,rfl⟩
def TwoR (f1:FuncId):RelT:=fun args H x=>∃p q v bs,args=[.ptr q 0]/\(q≠p/\H[q]? =some (.row [OneF f1 p] false)/\H[p]? =some (.row [v] false)/\off H p v/\low H.length v/\BS H v bs) /\
 x=(.int .i64 (((bs.getD 0 0).toNat:Int)*256+((bs.getD 1 0).toNat:Int) - 256),H.set p (.row [tailN 2 v] false))
theorem simTwo (hT:SoundT P T)(hm:P.follows .mixedOrders=true)(hc:callable P f1=true)(h1:T f1=some (tab OneR))(h0:T f=none)(hl:LoF P f callDecode2):∀args H x,TwoR f1 args H x->SimCall P f args H x.1 x.2:=by
 rintro args H x ⟨p,q,v,bs,rfl,⟨a1,a2,a3,a4,a5,a6⟩,rfl⟩;exact simOf hT hm h0 hl 0 (nble rfl) (by rw[callDecode2Eq];exact two_s hc (okOne h1) a2 a3 a1 a4 a6)
theorem oneF_inj {f1 p p':Nat}(h:OneF f1 p=OneF f1 p'):p=p':=by
 simp only[OneF,IV.func.injEq,List.cons.injEq,IV.ptr.injEq,and_true,true_and]at h;exact h
theorem okTwo (h:T f=some (tab (TwoR f1))):TwoOk (den P T) f1 f:=fun H p q v bs a1 a2 a3 a4 a5 a6 =>
 den_tab h (fun x y ⟨p1,q1,v1,b1,e1,⟨_,i1,j1,_,_,k1⟩,hx⟩ ⟨p2,q2,v2,b2,e2,⟨_,i2,j2,_,_,k2⟩,hy⟩=>by
  cases e1;cases e2
  rw[i1]at i2;have:p1=p2:=oneF_inj (by simpa using i2);subst this;rw[j1]at j2;cases j2
  rw[hx,hy,k1.inj k2]) ⟨p,q,v,bs,rfl,⟨a1,a2,a3,a4,a5,a6⟩,rfl⟩
def TextR (f1:FuncId):RelT:=fun args H x=>∃p q v bs,args=[.ptr q 0]/\(q≠p/\H[q]? =some (.row [OneF f1 p] false)/\H[p]? =some (.row [v] false)/\off H p v/\low H.length v/\BS H v bs) /\
 x=(.str (rdText bs),H.set p (.row [tailN (TextN bs) v] false))
theorem simText (hT:SoundT P T)(hm:P.follows .mixedOrders=true)(hc:callable P f1=true)(h1:T f1=some (tab OneR))(h0:T f=none)(hl:LoF P f callDecode3):∀args H x,TextR f1 args H x->SimCall P f args H x.1 x.2:=by
 rintro args H x ⟨p,q,v,bs,rfl,⟨a1,a2,a3,a4,a5,a6⟩,rfl⟩;obtain⟨H',h2,h3⟩:=text_s (cal:=callable P) (N:=65) (by omega) hc (okOne h1) a1 a2 a3 a4 a5 a6;have hs:=simOf hT hm h0 hl 65 (args:=[.ptr q 0]) (nble rfl) (by rw[callDecode3Eq];exact h2);refine hs.upd (fun i x hi=> ?_) ?_ rfl
 ·have hlt:i<H.length:=by have:=(ges hi).1;simpa using this
  rw[h3.1 i hlt];exact hi
 ·simp only[inBO,inBs,a6.inB a5,Bool.and_self]
theorem okText (h:T f=some (tab (TextR f1))):TextOk (den P T) f1 f:=fun H p q v bs a1 a2 a3 a4 a5 a6 =>
 den_tab h (fun x y ⟨p1,q1,v1,b1,e1,⟨_,i1,j1,_,_,k1⟩,hx⟩ ⟨p2,q2,v2,b2,e2,⟨_,i2,j2,_,_,k2⟩,hy⟩=>by
  cases e1;cases e2
  rw[i1]at i2;have:p1=p2:=oneF_inj (by simpa using i2);subst this;rw[j1]at j2;cases j2
  rw[hx,hy,k1.inj k2]) ⟨p,q,v,bs,rfl,⟨a1,a2,a3,a4,a5,a6⟩,rfl⟩
def DecR :RelT:=fun args H x=>∃v bs,args=[v]/\(v.one=true/\low H.length v/\BS H v bs) /\
 x=if dec 200 bs=[]then(.nilSlice,H)else(.slice H.length 0 (dec 200 bs).length (dec 200 bs).length false 7,H++[.row (flat7 (dec 200 bs)) false])
theorem flat7_inB (l:List Cl)(n:Nat):inBs n (flat7 l)=true:=by
 induction l with
 | nil=>rfl
 | cons c l ih =>
  refine inBs_of fun i v hv=> ?_;simp only[flat7,List.map_cons,List.flatten_cons]at hv ih;rw[List.getElem?_append]at hv;split at hv
  ·have:∀x∈c.cells,inB n x=true:=by
    intro x hx;simp only[Cl.cells,List.mem_cons,List.not_mem_nil,or_false]at hx;rcases hx with rfl | rfl | rfl | rfl | rfl | rfl | rfl<;>rfl
   exact this v (List.mem_of_getElem? hv)
  ·exact inBs_get ih hv
theorem simDec (hT:SoundT P T)(hm:P.follows .mixedOrders=true){f2 f3:FuncId}(hc1:callable P f1=true)(hc2:callable P f2=true)(hc3:callable P f3=true)(h1:T f1=some (tab OneR))(h2:T f2=some (tab (TwoR f1)))(h3:T f3=some (tab (TextR f1)))(h0:T f=none)(hl:LoF P f (callDecode f1 f2 f3)):∀args H x,DecR args H x->SimCall P f args H x.1 x.2:=by
 rintro args H x ⟨v,bs,rfl,⟨a1,a2,a3⟩,rfl⟩;obtain⟨v',H',e,hb,hk,hn⟩:=dec_s (cal:=callable P) (N:=201) (by omega) hc1 hc2 hc3 (okOne h1) (okTwo h2) (okText h3) a1 a2 a3;have hs:=simOf hT hm h0 hl 201 (args:=[v]) (nble rfl) (by rw[callDecodeEq];exact e);have hk':∀(i:Nat) o,H[i]? =some o->H'[i]? =some o:=fun i o hi=>by rw[hk i (ges hi).1];exact hi
 by_cases h0':dec 200 bs=[]
 ·rw[if_pos h0'];have:=hn h0';subst this;exact hs.drop hk' rfl
 ·rw[if_neg h0'];rcases hb with⟨rfl,e0⟩ | ⟨r,n,ex,rfl,g1,g2,g3⟩
  ·have:=flat7_length (dec 200 bs);rw[e0]at this;simp at this;exact absurd (List.length_eq_zero_iff.1 (by omega)) h0'
  ·rw[flat7_length]at g3;have hn:n=(dec 200 bs).length:=by omega
   subst hn;refine SimCall.one (r':=.slice H.length 0 (dec 200 bs).length (dec 200 bs).length false 7) (hs.weak (r':=.slice r 0 (dec 200 bs).length (dec 200 bs).length false 7) fun m u h=>VR_exact h) hk' g2 g1 (flat7_inB _ _) ?_ ?_
   ·simp only[ren,if_true]
   ·simp only[inB,decide_eq_true_eq];omega
def DecOk (O:Oracle)(f:FuncId):Prop:=∀(H:Heap) (v:IV) (bs:List UInt8),v.one=true->low H.length v->BS H v bs->O f [v] H=if dec 200 bs=[]then some (.nilSlice,H)else some (.slice H.length 0 (dec 200 bs).length (dec 200 bs).length false 7,H++[.row (flat7 (dec 200 bs)) false])
theorem okDec (h:T f=some (tab DecR)):DecOk (den P T) f:=fun H v bs a1 a2 a3=>by
 have:=den_tab (P:=P) h (args:=[v]) (H:=H) (fun x y ⟨v1,b1,e1,⟨_,_,j1⟩,hx⟩ ⟨v2,b2,e2,⟨_,_,j2⟩,hy⟩=>by
  cases e1;cases e2
  rw[hx,hy,j1.inj j2]) ⟨v,bs,rfl,⟨a1,a2,a3⟩,rfl⟩
 rw[this];split<;>rfl
theorem CS.inj {H:Heap}{v:IV}{l k:List Cl}(h:CS H v l)(g:CS H v k):l=k:=by
 rcases h with⟨rfl,rfl⟩ | ⟨b,o,n,lb,ex,sz,rfl,h1,h2,h3,h4⟩
 ·rcases g with⟨_,rfl⟩ | ⟨b,o,n,lb,ex,sz,e,_⟩
  ·rfl
  ·cases e
 ·rcases g with⟨e,_⟩ | ⟨b',o',n',lb',ex',sz',e,k1,k2,k3,k4⟩
  ·cases e
  ·cases e
   apply List.ext_getElem (by omega);intro i hi hi';have a:=h4 i _ (List.getElem?_eq_getElem hi);have b':=k4 i _ (List.getElem?_eq_getElem hi');rw[a]at b';simp only[Option.some.injEq,IV.agg.injEq]at b';exact Cl.inj b'
def scrX (H:Heap)(l:List Cl):IV×Heap :=
 if okScr l=true then(if l=[]then(.tuple [.nilSlice,.int .i64 0],H)else(.tuple [.slice H.length 0 (encs l).length (encs l).length false 1,.int .i64 0],H++[.row (bytes (encs l)) false]))else(.tuple [.nilSlice,.int .i64 22],H)
def ScriptR :RelT:=fun args H x=>∃v l,args=[v]/\(low H.length v/\CS H v l)/\x=scrX H l
theorem simScript (hT:SoundT P T)(hm:P.follows .mixedOrders=true){e:FuncId}(he:T e=some (tab EncR))(h0:T f=none)(hl:LoF P f (callScript e)):∀args H x,ScriptR args H x->SimCall P f args H x.1 x.2:=by
 rintro args H x ⟨v,l,rfl,⟨a1,a2⟩,rfl⟩;obtain⟨v',H',e1,hk,hb,hn⟩:=script_s (cal:=callable P) (N:=201) (okEnc he) (by omega) a1 a2;have hk':∀(i:Nat) o,H[i]? =some o->H'[i]? =some o:=fun i o hi=>by rw[hk.1 i (ges hi).1];exact hi
 unfold scrX;by_cases hok:okScr l=true
 ·rw[if_pos hok]at e1 ⊢;have hs:=simOf hT hm h0 hl 201 (args:=[v]) (nble rfl) (by rw[callScriptEq];exact e1);by_cases hnil:l=[]
  ·rw[if_pos hnil];have:=hn hnil;subst this;exact hs.drop hk' rfl
  ·rw[if_neg hnil];rcases hb hok with⟨_,e0⟩ | ⟨r,n,ex,rfl,g1,g2,g3⟩
   ·exfalso
    obtain⟨c,l',rfl⟩:=List.exists_cons_of_ne_nil hnil;have:=congrArg List.length e0;simp[bytes_length,encs,Cl.enc]at this
   ·rw[bytes_length,Nat.mul_one]at g3;subst g3;refine SimCall.one (r':=.tuple [.slice H.length 0 (encs l).length (encs l).length false 1,.int .i64 0]) (hs.weak (r':=.tuple [.slice r 0 (encs l).length (encs l).length false 1,.int .i64 0]) fun m u hu=>VR_tuple2 hu fun u h=>VR_exact h) hk' g2 g1 (bytes_inB _ _) ?_ ?_
    ·simp only[ren,rens,if_true]
    ·simp only[inB,inBs,Bool.and_true,decide_eq_true_eq];omega
 ·rw[if_neg hok]at e1 ⊢;have hs:=simOf hT hm h0 hl 201 (args:=[v]) (nble rfl) (by rw[callScriptEq];exact e1);exact hs.drop hk' rfl
def ScriptOk (O:Oracle)(f:FuncId):Prop:=∀(H:Heap) (v:IV) (l:List Cl),low H.length v->CS H v l->O f [v] H=some (scrX H l)
end Go.Shade
namespace Go.Shade
end Go.Shade
namespace Go.Shade
theorem lowAt {B r o n lb sz:Nat}{ex:Bool}(h:r<B):low B (.slice r o n lb ex sz):=by
 intro b o n lb ex sz e;cases e;exact h
end Go.Shade
namespace Go.Shade
theorem dec_len :∀(k:Nat) (bs:List UInt8),(dec k bs).length<=k
 | 0,_=>Nat.le_refl _
 | k+1,bs=>by
  simp only[dec];split
  ·simp
  ·have:=dec_len k (bs.drop (rdN bs));simp;omega
def AwakeOk (O:Oracle)(f:FuncId):Prop:=∀H:Heap,O f [] H=some (.bool true,H)
end Go.Shade
namespace Go.Shade
theorem ub_val {x:Int}(h1:0<=x)(h2:x<256):((ub x).toNat:Int)=x:=by
 simp only[ub,UInt8.toNat_ofNat'];omega
theorem ub_mod (x:Int):((ub x).toNat:Int)=x % 256:=by
 simp only[ub,UInt8.toNat_ofNat'];omega
theorem rdText_app (l rest:List UInt8)(h:l.length<64):rdText (ub l.length::l++rest)=l/\TextN (ub l.length::l++rest)=l.length+1:=by
 have hn:(ub (l.length:Nat)).toNat=l.length:=by have:=ub_val (x:=(l.length:Nat)) (by omega) (by omega);omega
 have h0:(ub (l.length:Nat)::l++rest).getD 0 0=ub (l.length:Nat):=by simp
 constructor
 ·unfold rdText;rw[h0,hn,Nat.mod_eq_of_lt h];apply List.ext_getElem (by simp);intro i h1 h2;simp[List.getD_eq_getElem?_getD,List.getElem?_append,h2]
 ·unfold TextN;rw[h0,hn,Nat.mod_eq_of_lt h]
theorem rd_enc {c:Cl}(h:c.may=true)(rest:List UInt8):rdCl (c.enc++rest)=c/\(c.enc++rest).drop (rdN (c.enc++rest))=rest:=by
 obtain⟨⟨m1,m2⟩,⟨m3,m4⟩,⟨m5,m6⟩,⟨m7,m8⟩,⟨m9,m10⟩,m11,m12⟩:=c.may_iff.1 h;have he:c.enc++rest=[ub (c.op - 1),ub (c.fd+4),ub c.fl,ub ((c.n+256) / 256),ub (c.n+256),ub ((c.off+256) / 256),ub (c.off+256)]++(ub c.a.length::c.a++(ub c.b.length::c.b++rest)):=by
  simp[Cl.enc,List.append_assoc]
 have e1:rd1 (c.enc++rest)=ub c.a.length::c.a++(ub c.b.length::c.b++rest):=by rw[he];rfl
 obtain⟨t1,n1⟩:=rdText_app c.a (ub c.b.length::c.b++rest) (by omega);have e2:rd2 (c.enc++rest)=ub c.b.length::c.b++rest:=by
  unfold rd2;rw[e1,n1];simp
 obtain⟨t2,n2⟩:=rdText_app c.b rest (by omega);constructor
 ·have b0:=ub_val (x:=c.op - 1) (by omega) (by omega);have b1:=ub_val (x:=c.fd+4) (by omega) (by omega);have b2:=ub_val (x:=c.fl) (by omega) (by omega);have b3:=ub_val (x:=(c.n+256) / 256) (by omega) (by omega);have b4:=ub_mod (c.n+256);have b5:=ub_val (x:=(c.off+256) / 256) (by omega) (by omega);have b6:=ub_mod (c.off+256);have g:∀i,(c.enc++rest).getD i 0=([ub (c.op - 1),ub (c.fd+4),ub c.fl,ub ((c.n+256) / 256),ub (c.n+256),ub ((c.off+256) / 256),ub (c.off+256)]++(ub c.a.length::c.a++(ub c.b.length::c.b++rest))).getD i 0:=fun i=>by rw[he]
  have g0:(c.enc++rest).getD 0 0=ub (c.op - 1):=by rw[g];rfl
  have g1:(c.enc++rest).getD 1 0=ub (c.fd+4):=by rw[g];rfl
  have g2:(c.enc++rest).getD 2 0=ub c.fl:=by rw[g];rfl
  have g3:(c.enc++rest).getD 3 0=ub ((c.n+256) / 256):=by rw[g];rfl
  have g4:(c.enc++rest).getD 4 0=ub (c.n+256):=by rw[g];rfl
  have g5:(c.enc++rest).getD 5 0=ub ((c.off+256) / 256):=by rw[g];rfl
  have g6:(c.enc++rest).getD 6 0=ub (c.off+256):=by rw[g];rfl
  unfold rdCl;rw[g0,g1,g2,g3,g4,g5,g6,e1,e2,t1,t2,b0,b1,b2,b3,b4,b5,b6];obtain⟨op,fd,fl,n,off,a,b⟩:=c;simp only[Cl.mk.injEq,and_true];simp only at *;omega
 ·unfold rdN;rw[e1,e2,n1,n2];have hl:c.enc.length=7+(c.a.length+1)+(c.b.length+1):=by simp[Cl.enc];omega
  rw[←hl,List.drop_left]
end Go.Shade
namespace Go.Shade
theorem lowNil {B:Nat}:low B .nilSlice:=fun _ _ _ _ _ _ e=>by cases e
end Go.Shade
namespace Go.Shade
theorem BS.cells {H:Heap}{v:IV}{l:List UInt8}(h:BS H v l):xlen v=some l.length/\lxcells H 1 v l.length=some (bytes l):=by
 rcases h with⟨rfl,rfl⟩ | ⟨b,o,n,lb,ex,sz,rfl,h1,h2,h3,h4⟩
 ·exact⟨rfl,rfl⟩
 ·subst h3;refine⟨rfl,?_⟩;show lsl H 1 (.slice b o l.length lb ex sz) l.length=some (bytes l);simp only[lsl,Nat.le_refl,if_true];by_cases h0:l.length=0
  ·rw[if_pos h0,List.length_eq_zero_iff.1 h0];rfl
  ·rw[if_neg h0];obtain⟨cells,ro,g1,g2⟩:=h4 (by omega);have hlast:=g2 (l.length - 1) (by omega);have hlen:=(ges hlast).1;simp only[irow,g1,Nat.mul_one];rw[if_pos (by omega)]
   congr 1
   apply List.ext_getElem?;intro i;by_cases hi:i<l.length
   ·rw[List.getElem?_take,if_pos hi,List.getElem?_drop,g2 i hi];simp[bytes,hi,List.getD_eq_getElem?_getD]
   ·rw[List.getElem?_eq_none (by simp;omega),List.getElem?_eq_none (by simp[bytes];omega)]
theorem BS.keep' {B:Nat}{H H':Heap}{v:IV}{bs:List UInt8}(h:BS H v bs)(hl:low B v)(k:Keep B H H'):BS H' v bs:=h.keepB hl k.1
theorem CS.keep' {B:Nat}{H H':Heap}{v:IV}{l:List Cl}(h:CS H v l)(hl:low B v)(k:Keep B H H'):CS H' v l:=h.keepB hl k.1
end Go.Shade
namespace Go.Shade
theorem CS.take {H:Heap}{v:IV}{l:List Cl}(h:CS H v l){n:Nat}(hn:n<=l.length):∃v',lslice H (.slice 7) v none (some (.int .i64 (n:Nat))) none=some v'/\CS H v' (l.take n):=by
 rcases h with⟨rfl,rfl⟩ | ⟨b,o,m,lb,ex,sz,rfl,h1,h2,h3,h4⟩
 ·simp at hn;subst hn;exact⟨_,rfl,.inl ⟨rfl,rfl⟩⟩
 ·refine⟨.slice b (o+0*7) (n - 0) (lb - 0) ex sz,?_,.inr ⟨b,o+0*7,n - 0,lb - 0,ex,sz,rfl,by omega,h2,by simp;omega,fun i c hi=> ?_⟩⟩
  ·simp only[lslice,bnd];rw[if_pos (by omega)];simp only[Option.bind_some,Int.toNat_natCast];rw[if_neg (by omega),if_pos (by omega)]
  ·rw[List.getElem?_take]at hi;split at hi
   ·have:=h4 i c hi;simpa using this
   ·cases hi
theorem CS.drop {H:Heap}{v:IV}{l:List Cl}(h:CS H v l){n:Nat}(hn:n<=l.length):∃v',lslice H (.slice 7) v (some (.int .i64 (n:Nat))) none none=some v'/\CS H v' (l.drop n):=by
 rcases h with⟨rfl,rfl⟩ | ⟨b,o,m,lb,ex,sz,rfl,h1,h2,h3,h4⟩
 ·simp at hn;subst hn;exact⟨_,rfl,.inl ⟨rfl,rfl⟩⟩
 ·refine⟨.slice b (o+n*7) (m - n) (lb - n) ex sz,?_,.inr ⟨b,o+n*7,m - n,lb - n,ex,sz,rfl,by omega,h2,by simp;omega,fun i c hi=> ?_⟩⟩
  ·simp only[lslice,bnd];rw[if_pos (by omega)];simp only[Option.bind_some,Int.toNat_natCast];rw[if_neg (by omega),if_pos (by omega)]
  ·rw[List.getElem?_drop]at hi;have:=h4 (n+i) c hi;rw[Nat.add_mul,←Nat.add_assoc]at this;exact this
theorem BS.take {H:Heap}{v:IV}{l:List UInt8}(h:BS H v l){n:Nat}(hn:n<=l.length):∃v',lslice H (.slice 1) v none (some (.int .i64 (n:Nat))) none=some v'/\BS H v' (l.take n):=by
 rcases h with⟨rfl,rfl⟩ | ⟨b,o,m,lb,ex,sz,rfl,h1,h2,h3,h4⟩
 ·simp at hn;subst hn;exact⟨_,rfl,.inl ⟨rfl,rfl⟩⟩
 ·refine⟨.slice b (o+0*1) (n - 0) (lb - 0) ex sz,?_,.inr ⟨b,o+0*1,n - 0,lb - 0,ex,sz,rfl,by omega,h2,by simp;omega,fun hp=> ?_⟩⟩
  ·simp only[lslice,bnd];rw[if_pos (by omega)];simp only[Option.bind_some,Int.toNat_natCast];rw[if_neg (by omega),if_pos (by omega)]
  ·obtain⟨cells,ro,g1,g2⟩:=h4 (by omega);refine⟨cells,ro,g1,fun i hi=> ?_⟩;have:=g2 i (by omega);have e:(l.take n).getD i 0=l.getD i 0:=by simp[List.getD_eq_getElem?_getD,List.getElem?_take,show i<n by omega]
   rw[e];simpa using this
theorem BS.b2s {H:Heap}{v:IV}{l:List UInt8}(h:BS H v l):lb2s H v=some (.str l):=by
 obtain⟨e1,e2⟩:=h.cells;rcases h with⟨rfl,rfl⟩ | ⟨b,o,m,lb,ex,sz,rfl,h1,h2,h3,h4⟩
 ·rfl
 ·have e2':lsl H 1 (.slice b o m lb ex sz) m=some (bytes l):=by rw[h3]at e2;exact e2
  simp only[lb2s,e2',Option.bind_some,ibytes_bytes]
theorem apart {a b:Cl}(ha:a.may=true)(hb:b.may=true)(h:a.enc.length<=b.enc.length)(e:a.enc=b.enc.take a.enc.length):a=b:=by
 obtain⟨r1,_⟩:=rd_enc ha (b.enc.drop a.enc.length);obtain⟨r2,_⟩:=rd_enc hb [];rw[List.append_nil]at r2;have:a.enc++b.enc.drop a.enc.length=b.enc:=by
  have:=List.take_append_drop a.enc.length b.enc;rw[←e]at this;exact this
 rw[this]at r1;exact r1.symm.trans r2
end Go.Shade
namespace Go.Shade
def Kp (H:Heap)(H':Heap):Prop:=Keep H.length H H'
theorem Buf.b2s {B:Nat}{H:Heap}{v:IV}{bs:List UInt8}(h:Buf B 1 H v (bytes bs)):lb2s H v=some (.str bs):=b2s_buf h
end Go.Shade
namespace Go.Shade
def RMayOk (O:Oracle)(f:FuncId):Prop:=∀(c:Cl) (H:Heap),O f [.agg c.cells] H=some (.bool c.may,H++[IObj.row c.cells false])
def REncP (c:Cl)(H:Heap)(r:Out):Prop:=Kp H r.2/\((c.may=true/\∃v',r.1=.tuple [v',.int .i64 0]/\BS r.2 v' c.enc/\low r.2.length v')∨(c.may=false/\r.1=.tuple [.nilSlice,.int .i64 22]))
def REncOk (O:Oracle)(f:FuncId):Prop:=∀(c:Cl) (H:Heap),Wp (O f [.agg c.cells] H) (REncP c H)
end Go.Shade
namespace Go.Shade
def RScrP (l:List Cl)(H:Heap)(r:Out):Prop:=Kp H r.2/\((okScr l=true/\∃v',r.1=.tuple [v',.int .i64 0]/\BS r.2 v' (encs l)/\low r.2.length v')∨(okScr l=false/\r.1=.tuple [.nilSlice,.int .i64 22]))
def RScrOk (O:Oracle)(f:FuncId):Prop:=∀(H:Heap) (v:IV) (l:List Cl),low H.length v->CS H v l->Wp (O f [v] H) (RScrP l H)
section
variable {cal : FuncId -> Bool} {O : Oracle} {N : Nat} {aw e re m rm s rs : FuncId} (ha : AwakeOk O aw) (he : EncOk O e) (hre : REncOk O re) (hm : MayOk O m) (hrm : RMayOk O rm) (hs : ScriptOk O s) (hrs : RScrOk O rs)
include he hre hm hrm
end
end Go.Shade
namespace Go.Shade
theorem fit_u8 {H:Heap}{e:List IV}(h:Fits H [.int .u8] e):∃x:UInt8,e=[.int .u8 (x.toNat:Int)]:=by
 simp only[Fits,Fit]at h;obtain⟨v,r,rfl,⟨n,rfl,hw⟩,rfl⟩:=h;refine⟨UInt8.ofNat n.toNat,?_⟩;have hmin:IntKind.u8.min=0:=by decide
 have hmax:IntKind.u8.max=255:=by decide
 have:0<=n/\n<256:=by simp only[Lit.wf]at hw;simp[hmin,hmax]at hw;omega
 simp only[UInt8.toNat_ofNat',List.cons.injEq,IV.int.injEq,true_and,and_true];omega
theorem fit_rows {H:Heap}:∀{elems:List (List IV)},(∀e∈elems,Fits H [.int .u8] e)->∃bs:List UInt8,elems.flatten=bytes bs/\bs.length=elems.length
 | [],_=>⟨[],rfl,rfl⟩
 | e::es,h=>by
  obtain⟨x,rfl⟩:=fit_u8 (h e (by simp));obtain⟨bs,h1,h2⟩:=fit_rows (elems:=es) (fun e' he'=>h e' (List.mem_cons_of_mem _ he'));exact⟨x::bs,by simp[h1,bytes],by simp[h2]⟩
theorem fit_bytes {H:Heap}{v:IV}(h:Fit H (.sl [.int .u8]) v):∃bs,BS H v bs/\v.one=true/\low H.length v:=by
 simp only[Fit]at h;rcases h with rfl | ⟨b,n,elems,rfl,h2,h3,h4,h5⟩
 ·exact⟨[],.inl ⟨rfl,rfl⟩,rfl,fun _ _ _ _ _ _ e=>by cases e⟩
 ·obtain⟨bs,k1,k2⟩:=fit_rows h5;refine⟨bs.take n,.inr ⟨b,0,n,elems.length,true,0,rfl,h3,.inl rfl,by simp;omega,fun _=>⟨_,true,h2,fun i hi=> ?_⟩⟩,rfl,lowAt (ges h2).1⟩;rw[k1];have:i<bs.length:=by omega
  simp[bytes,this,hi,List.getD_eq_getElem?_getD]
end Go.Shade
namespace Go.Shade
end Go.Shade
namespace Go.Shade
variable {n t : Nat}
section
variable {α : Type}
def thr (n:Nat)(l:List α)(t:Nat):List α:=(List.range l.length).filterMap fun i=>if i % n=t then l[i]? else none
def deal (n:Nat)(l:List α):List (List α):=(List.range n).map (thr n l)
theorem fm_congr {β:Type}{f g:β->Option α}:∀{l:List β},(∀x∈l,f x=g x)->l.filterMap f=l.filterMap g
 | [],_=>rfl
 | x::l,h=>by
  rw[List.filterMap_cons,List.filterMap_cons,h x (List.mem_cons_self ..),fm_congr fun y hy=>h y (List.mem_cons_of_mem _ hy)]
theorem thr_nil (n t:Nat):thr n ([]:List α) t=[]:=rfl
theorem thr_snoc (n t:Nat)(l:List α)(c:α):thr n (l++[c]) t=thr n l t++if l.length % n=t then [c]else []:=by
 unfold thr;rw[List.length_append,List.length_singleton,List.range_succ,List.filterMap_append]
 congr 1
 ·refine fm_congr fun i hi=> ?_;rw[List.mem_range]at hi;rw[List.getElem?_append_left hi]
 ·simp only[List.filterMap_cons,List.filterMap_nil];split<;>rename_i h<;>split at h<;>simp_all
theorem cnt_succ {m:Nat}(ht:t<n):(m+1+(n - 1 - t)) / n=(m+(n - 1 - t)) / n+if m % n=t then 1 else 0:=by
 rw[show m+1+(n - 1 - t)=(m+(n - 1 - t))+1 by omega,Nat.succ_div]
 congr 1
 have:n ∣ m+(n - 1 - t)+1↔m % n=t:=by
  rw[Nat.dvd_iff_mod_eq_zero];have e:m+(n - 1 - t)+1=m+(n - t):=by omega
  rw[e];have hm:=Nat.div_add_mod m n;have hlt:=Nat.mod_lt m (show 0<n by omega);constructor
  ·intro h;have:(m % n+(n - t)) % n=0:=by
    rw[Nat.add_mod,Nat.mod_mod,←Nat.add_mod];exact h
   rcases Nat.lt_or_ge (m % n+(n - t)) n with h1 | h1
   ·rw[Nat.mod_eq_of_lt h1]at this;omega
   ·have h2:(m % n+(n - t)) % n=m % n+(n - t) - n:=by
     rw[Nat.mod_eq_sub_mod h1,Nat.mod_eq_of_lt (by omega)]
    omega
  ·intro h;have:(m % n+(n - t)) % n=0:=by rw[h,show t+(n - t)=n by omega,Nat.mod_self]
   rw[Nat.add_mod,Nat.mod_mod,←Nat.add_mod]at this;exact this
 simp only[this]
theorem thr_len (ht:t<n)(l:List α):(thr n l t).length=(l.length+(n - 1 - t)) / n:=by
 generalize hm:l.length=m
 induction m generalizing l with
 | zero =>
  have:l=[]:=List.length_eq_zero_iff.1 hm;subst this;rw[thr_nil,Nat.zero_add,Nat.div_eq_of_lt (by omega)];rfl
 | succ m ih =>
  have hne:l≠ []:=fun e=>by subst e;simp at hm
  rw[←List.dropLast_concat_getLast hne,thr_snoc,List.length_append,ih _ (by simp;omega),cnt_succ ht];have e:l.dropLast.length=m:=by simp;omega
  rw[e]
  congr 1
  split<;>rfl
theorem deal_len (n:Nat)(l:List α):(deal n l).length=n:=by simp[deal]
theorem deal_get (ht:t<n)(l:List α):(deal n l)[t]? =some (thr n l t):=by simp[deal,ht]
theorem deal_snoc (hn:0<n)(l:List α)(c:α):deal n (l++[c])=(deal n l).set (l.length % n) (thr n l (l.length % n)++[c]):=by
 apply List.ext_getElem?;intro t;have hm:=Nat.mod_lt l.length hn;by_cases ht:t<n
 ·rw[deal_get ht,thr_snoc,List.getElem?_set,deal_get ht,deal_len];by_cases e:l.length % n=t
  ·subst e;simp[ht]
  ·simp[e]
 ·rw[List.getElem?_eq_none (by simp[deal];omega),List.getElem?_eq_none (by simp[deal];omega)]
theorem deal_sum {n:Nat}(hn:0<n)(l:List α):((deal n l).map List.length).sum=l.length:=by
 generalize hm:l.length=m
 induction m generalizing l with
 | zero =>
  have:l=[]:=List.length_eq_zero_iff.1 hm;subst this;have z:∀r:List Nat,(r.map fun _=>0).sum=0:=fun r=>by induction r<;>simp_all
  have e:((deal n ([]:List α)).map List.length)=(List.range n).map fun _=>0:=by simp only[deal,List.map_map];rfl
  rw[e,z]
 | succ m ih =>
  have hne:l≠ []:=fun e=>by subst e;simp at hm
  have e:l.dropLast.length=m:=by simp;omega
  rw[←List.dropLast_concat_getLast hne,deal_snoc hn];generalize l.getLast hne=c at *;generalize l.dropLast=p at *;have hm:=Nat.mod_lt p.length hn;have key:∀(T:List (List α)) (t:Nat) (x:List α),T[t]? =some x->((T.set t (x++[c])).map List.length).sum=(T.map List.length).sum+1:=by
   intro T
   induction T with
   | nil=>intro t x h;simp at h
   | cons a T ihT =>
    intro t x h
    cases t with
    | zero=>simp at h;subst h;simp;omega
    | succ t=>simp at h;have:=ihT t x h;simp at this ⊢;omega
  rw[key _ _ _ (deal_get hm p),ih p e]
def round (n:Nat)(T:List (List α))(k:Nat):List α:=(List.range n).filterMap fun t=>(T[t]?.getD [])[k]?
theorem thr_anti {u:Nat}(htu:t<=u)(hu:u<n)(l:List α):(thr n l u).length<=(thr n l t).length/\(thr n l t).length<=(thr n l u).length+1:=by
 rw[thr_len hu,thr_len (by omega)];refine⟨Nat.div_le_div_right (by omega),?_⟩;have:(l.length+(n - 1 - u)) / n+1=(l.length+(n - 1 - u)+n) / n:=by rw[Nat.add_div_right _ (by omega)]
 rw[this];exact Nat.div_le_div_right (by omega)
end
end Go.Shade
namespace Go.Shade
end Go.Shade
namespace Go.Shade
end Go.Shade
namespace Go.Shade
end Go.Shade
namespace Go.Shade
abbrev Nam :=List UInt8
abbrev cmpB :=Go.Lib.compareBytes
theorem cmpB_self :∀a:Nam,cmpB a a=0
 | []=>rfl
 | x::a=>by
  have:¬x<x:=by simp[UInt8.lt_iff_toNat_lt]
  simp only[cmpB,Go.Lib.compareBytes,this,if_false];exact cmpB_self a
abbrev Dr :=List (Nam×Int)
def SrtD :Dr->Prop
 | []=>True
 | e::l=>(∀f∈l,cmpB e.1 f.1<0)/\SrtD l
def lookD (s:Nam):Dr->Option Int
 | []=>none
 | e::l=>if e.1=s then some e.2 else lookD s l
theorem SrtD.mk :∀{a b:Dr},SrtD a->SrtD b->(∀e∈a,∀f∈b,cmpB e.1 f.1<0)->SrtD (a++b)
 | [],b,_,h,_=>h
 | x::a,b,h,k,hx=>⟨fun f hf=>by
   rcases List.mem_append.1 hf with hf | hf
   ·exact h.1 f hf
   ·exact hx x (by simp) f hf,SrtD.mk h.2 k fun e he=>hx e (List.mem_cons_of_mem _ he)⟩
theorem ltne {a b:Nam}(h:cmpB a b<0):a≠b:=fun e=>by subst e;rw[cmpB_self]at h;omega
theorem lookD_app {s:Nam}:∀{a b:Dr},(∀e∈a,cmpB e.1 s<0)->lookD s (a++b)=lookD s b
 | [],b,_=>rfl
 | x::a,b,h=>by
  show(if x.1=s then _ else _)=_;rw[if_neg (ltne (h x (by simp)))];exact lookD_app fun e he=>h e (List.mem_cons_of_mem _ he)
theorem lookD_gt {s:Nam}:∀{b:Dr},(∀e∈b,0<cmpB e.1 s)->lookD s b=none
 | [],_=>rfl
 | x::b,h=>by
  show(if x.1=s then _ else _)=_;rw[if_neg (fun e=>by have:=h x (by simp);rw[e,cmpB_self]at this;omega)];exact lookD_gt fun e he=>h e (List.mem_cons_of_mem _ he)
theorem lookD_at {s:Nam}{w:Int}{b:Dr}:lookD s ((s,w)::b)=some w:=if_pos rfl
structure PosD (s:Nam)(l:Dr)(i:Nat)(found:Bool):Prop where
 le:i<=l.length
 lo:∀e∈l.take i,cmpB e.1 s<0
 hi:if found=true then ∃v,l.drop i=(s,v)::l.drop (i+1)else ∀e∈l.drop i,0<cmpB e.1 s
theorem PosD.split {s:Nam}{l:Dr}{i:Nat}{f:Bool}(h:PosD s l i f):l=l.take i++l.drop i:=(List.take_append_drop i l).symm
theorem PosD.look {s:Nam}{l:Dr}{i:Nat}{f:Bool}(h:PosD s l i f):lookD s l=if f=true then(l[i]?).map (·.2)else none:=by
 rw[h.split,lookD_app h.lo];have:=h.hi
 cases f with
 | true =>
  rw[if_pos rfl]at this ⊢;obtain⟨v,e⟩:=this;rw[←h.split];have h2:l[i]? =some (s,v):=by
   have:=congrArg (fun k=>k[0]?) e
   simpa using this
  rw[e,lookD_at,h2];rfl
 | false =>
  rw[if_neg (by simp)]at this;rw[lookD_gt this];rfl
end Go.Shade
namespace Go.Shade
def prs (l:Dr):List Pr:=l.map fun e=>(.str e.1,.int .i64 e.2)
theorem prs_length (l:Dr):(prs l).length=l.length:=by simp[prs]
theorem prs_get {l:Dr}{i:Nat}{e:Nam×Int}(h:l[i]? =some e):(prs l)[i]? =some (.str e.1,.int .i64 e.2):=by simp[prs,h]
theorem fl_get1 {l:List Pr}{j:Nat}{p:Pr}(h:l[j]? =some p):(fl l)[2*j+1]? =some p.2:=by
 have:=fl_ld h;have h2:(((fl l).drop (2*j)).take 2)[1]? =some p.2:=by rw[this];rfl
 rw[List.getElem?_take,if_pos (by omega),List.getElem?_drop]at h2;exact h2
def DSl (P:Nat->Prop)(H:Heap)(sv:IV)(l:Dr):Prop :=
 (sv=.nilSlice/\l=[])∨∃r rest ex,sv=.slice r 0 l.length (l.length+rest.length) ex 2/\P r/\one2 rest/\0<l.length+rest.length/\H[r]? =some (.row (fl (prs l++rest)) false)
theorem DSl.ix {P:Nat->Prop}{H:Heap}{sv:IV}{l:Dr}(h:DSl P H sv l){i:Nat}{e:Nam×Int}(hi:l[i]? =some e):∃r rest ex,sv=.slice r 0 l.length (l.length+rest.length) ex 2/\P r/\one2 rest/\H[r]? =some (.row (fl (prs l++rest)) false)/\lix 2 sv (.int .i64 (i:Nat))=some (.ptr r (2*i))/\lloadn H 2 (.ptr r (2*i))=some (.agg [.str e.1,.int .i64 e.2])/\lload1 H (.ptr r (2*i+1))=some (.int .i64 e.2):=by
 have hlt:=(ges hi).1;rcases h with⟨rfl,rfl⟩ | ⟨r,rest,ex,rfl,h2,h3,h4,h5⟩
 ·simp at hlt
 ·have hg:(prs l++rest)[i]? =some (.str e.1,.int .i64 e.2):=by rw[List.getElem?_append_left (by rw[prs_length];exact hlt)];exact prs_get hi
  exact⟨r,rest,ex,rfl,h2,h3,h5,by rw[lix_slice,if_pos (by omega)];simp;omega,ld2 h5 hg,by rw[ld1 h5];exact fl_get1 hg⟩
section
variable {cal : FuncId -> Bool} {O : Oracle} {N : Nat}
end
end Go.Shade
namespace Go.Shade
section
variable {cal : FuncId -> Bool} {O : Oracle} {N : Nat}
end
end Go.Shade
namespace Go.Shade
section
variable {cal : FuncId -> Bool} {O : Oracle} {N : Nat}
end
end Go.Shade
namespace Go.Shade
end Go.Shade
namespace Go.Shade
structure ChOk (es:List Ent)(c:Nat):Prop where
 key:∀e∈es,∃k:Int,e.1=.int .i64 k/\0<=k/\k<=65536
 val:∀e∈es,∃cs,e.2.1=.agg cs/\cs.length=16/\cs.all IV.one=true
 id:∀e∈es,e.2.2<c
 nodup:(es.map (·.1)).Nodup
 idup:(es.map (·.2.2)).Nodup
theorem ChOk.add {es:List Ent}{c:Nat}{k:Int}{cs:List IV}(h:ChOk es c)(hk:0<=k/\k<=65536)(hn:∀e∈es,e.1≠ .int .i64 k)(hl:cs.length=16)(h1:cs.all IV.one=true):ChOk (es++[(.int .i64 k,.agg cs,c)]) (c+1):=by
 refine⟨fun q hq=> ?_,fun q hq=> ?_,fun q hq=> ?_,?_,?_⟩
 ·rcases List.mem_append.1 hq with h' | h'
  ·exact h.key q h'
  ·rw[List.mem_singleton]at h';subst h';exact⟨k,rfl,hk⟩
 ·rcases List.mem_append.1 hq with h' | h'
  ·exact h.val q h'
  ·rw[List.mem_singleton]at h';subst h';exact⟨cs,rfl,hl,h1⟩
 ·rcases List.mem_append.1 hq with h' | h'
  ·have:=h.id q h';omega
  ·rw[List.mem_singleton]at h';subst h';simp
 ·rw[List.map_append];refine List.nodup_append.2 ⟨h.nodup,by simp,fun a ha b hb=> ?_⟩;simp at hb;subst hb;obtain⟨e,he,rfl⟩:=List.mem_map.1 ha;exact hn e he
 ·rw[List.map_append];refine List.nodup_append.2 ⟨h.idup,by simp,fun a ha b hb=> ?_⟩;simp at hb;subst hb;obtain⟨e,he,rfl⟩:=List.mem_map.1 ha;have:=h.id e he;omega
section
variable {cal : FuncId -> Bool} {O : Oracle} {N : Nat}
end
end Go.Shade
namespace Go.Shade
section
variable {cal : FuncId -> Bool} {O : Oracle} {N : Nat}
end
end Go.Shade
namespace Go.Shade
structure Nod where
 p:Nat
 q:Nat
 kind:Int
 links:Int
 holds:Int
 marks:Int
 parent:Int
 body:Bool
 dir:Option Dr
 target:Nam
def Nod.c (x:Nod):List IV:=[.int .i64 x.kind,.int .i64 x.links,.int .i64 x.holds,.int .i64 x.marks,.int .i64 x.parent,(if x.body=true then .ptr x.q 0 else .nilPtr),(if x.dir.isSome=true then .ptr x.q 0 else .nilPtr),.str x.target]
theorem Nod.c_length (x:Nod):x.c.length=8:=rfl
theorem Nod.c_one (x:Nod):x.c.all IV.one=true:=by
 unfold Nod.c
 cases x.body<;>cases x.dir<;>rfl
structure Brs where
 s:Nat
 q:Nat
 k:Int
 free:List It
 nod:Nat->Option Nod
def Brs.cell (st:Brs)(i:Nat):IV:=match st.nod i with
 | none=>.nilPtr
 | some x=>.ptr x.p 0
section
variable {own : Nat -> Nat} {H H' : Heap} {b i : Nat} {st : Brs} {x x' : Nod} {P' : Nat -> Prop}
end
end Go.Shade
namespace Go.Shade
variable {H : Heap} {v : IV}
def TS (s:Nat)(P:Nat->Prop)(H:Heap)(v:IV)(cs:List IV):Prop :=
 (v=.nilSlice/\cs=[])∨∃r n ex,v=.slice r 0 n n ex s/\P r/\H[r]? =some (.row cs false)/\cs.length=n*s
theorem TS.frame {s:Nat}{P F:Nat->Prop}{H':Heap}{cs:List IV}(h:TS s P H v cs)(k:Frame F H H')(hf:∀j,P j->¬F j):TS s P H' v cs:=by
 rcases h with h | ⟨r,n,ex,h1,h2,h3,h4⟩
 ·exact .inl h
 ·exact .inr ⟨r,n,ex,h1,h2,k.get (hf r h2) h3,h4⟩
theorem TS.mono {s:Nat}{P Q:Nat->Prop}{cs:List IV}(h:TS s P H v cs)(k:∀j,P j->Q j):TS s Q H v cs:=by
 rcases h with h | ⟨r,n,ex,h1,h2,h3,h4⟩
 ·exact .inl h
 ·exact .inr ⟨r,n,ex,h1,k r h2,h3,h4⟩
theorem TS.one {s:Nat}{P:Nat->Prop}{H:Heap}{v:IV}{cs:List IV}(h:TS s P H v cs):v.one=true:=by
 rcases h with⟨rfl,_⟩ | ⟨r,n,ex,rfl,_⟩<;>rfl
theorem TS.app {s b:Nat}{P:Nat->Prop}{H:Heap}{v xv:IV}{cs new:List IV}(h:TS s P H v cs)(hs:0<s)(hx:xlen xv=some 1)(hc:lxcells H s xv 1=some new)(hl:new.length=s)(h1:new.all IV.one=true)(hb:(cs.length+s)*b<=140737488355328) :
  Wp (lapp H s b v xv) fun r=>Frame P H r.2/\TS s (fun j=>H.length<=j/\j<r.2.length) r.2 r.1 (cs++new):=by
 have hnew:new.length=1*s:=by omega
 unfold lapp lappend;rw[hx];simp only[Option.bind_some];rw[if_neg (by omega),hc];simp only[Option.bind_some];rw[if_pos ⟨hnew,h1⟩];rcases h with⟨rfl,rfl⟩ | ⟨r,n,ex,rfl,g1,g2,g3⟩
 ·have hk:1*b<=140737488355328:=Nat.le_trans (Nat.mul_le_mul_right b (by simp;omega)) hb;rw[lfresh_eq hk (by simpa using hnew)];exact⟨_,rfl,Frame.push _ _ _,.inr ⟨H.length,1,false,rfl,⟨Nat.le_refl _,by simp⟩,newRow,by simpa using hnew⟩⟩
 ·have hold:lsl H s (.slice r 0 n n ex s) n=some cs:=Buf.cells (B:=0) (.inr ⟨r,n,ex,rfl,by omega,g2,g3⟩) rfl;have hlen:(cs++new).length=(n+1)*s:=by rw[List.length_append,g3,hl,Nat.add_mul,Nat.one_mul]
  have hk:(n+1)*b<=140737488355328:=by
   refine Nat.le_trans (Nat.mul_le_mul_right b ?_) hb;have:n<=cs.length:=by rw[g3];exact Nat.le_mul_of_pos_right n hs
   omega
  simp only;rw[if_neg (by omega),hold];simp only[Option.bind_some]
  cases ex with
  | true =>
   rw[if_pos rfl,lfresh_eq hk hlen];exact⟨_,rfl,Frame.push _ _ _,.inr ⟨H.length,n+1,false,rfl,⟨Nat.le_refl _,by simp⟩,newRow,hlen⟩⟩
  | false =>
   rw[if_neg (by simp),g2];simp only;rw[if_pos trivial,lfresh_eq hk hlen];exact⟨_,rfl,(Frame.set _ _ g1).tr (Frame.push _ _ _),.inr ⟨(H.set r .dead).length,n+1,false,rfl,⟨by simp,by simp⟩,newRow,hlen⟩⟩
def EntR (e:Nam×Int):Prop:=1<=e.2/\e.2<=200/\e.1.length<=60
def RCell (c:Nat)(own:Nat->Nat)(H:Heap)(i k:Nat)(v:IV):Prop :=
 if k<4 then ∃z:Int,v=.int .i64 z
 else if k=4 then ∃z:Int,v=.int .i64 z/\0<=z/\z<=200
 else if k=5 then ∃cs:List IV,TS 1 (fun j=>own j=3*i+1) H v cs/\cs.all IV.one=true/\cs.length<=65536
 else if k=6 then ∃bs:List Bool,TS 1 (fun j=>own j=3*i+2) H v (bs.map .bool)/\bs.length<=4096
 else if k=7 then ∃l:Dr,TS 2 (fun j=>own j=3*i+3) H v (fl (prs l))/\l.length<=c/\∀e∈l,EntR e
 else ∃t:Nam,v=.str t
structure RB (c:Nat)(own:Nat->Nat)(H:Heap)(b:Nat)(s:Nat)(R:List IV):Prop where
 ob:own b=701
 row:H[b]? =some (.row R false)
 len:R.length=1810
 r0:R[0]? =some (.ptr s 0)
 os:own s=700
 sto:∃x y:Int,H[s]? =some (.row [.int .i64 x,.int .i64 y] false)
 cel:∀i k,i<=200->k<9->∃v,R[1+9*i+k]? =some v/\RCell c own H i k v
 lt:∀j,own j≠0->j<H.length
section
variable {c c' : Nat} {own : Nat -> Nat} {H H' : Heap} {b s : Nat} {R R' : List IV}
theorem RB.ptr (h:RB c own H b s R){i k:Nat}(hi:i<=200)(hk:k<9):∃v,lload1 H (.ptr b (1+i*9+k))=some v/\R[1+9*i+k]? =some v/\RCell c own H i k v:=by
 obtain⟨v,a,d⟩:=h.cel i k hi hk;exact⟨v,by rw[ld1 h.row,show 1+i*9+k=1+9*i+k by omega];exact a,a,d⟩
theorem RB.int (h:RB c own H b s R){i k:Nat}(hi:i<=200)(hk:k<5):∃z:Int,lload1 H (.ptr b (1+i*9+k))=some (.int .i64 z)/\(k=4->0<=z/\z<=200):=by
 obtain⟨v,a,_,d⟩:=h.ptr hi (show k<9 by omega);unfold RCell at d;split at d
 ·obtain⟨z,rfl⟩:=d;exact⟨z,a,fun e=>by omega⟩
 ·rw[if_pos (by omega)]at d;obtain⟨z,rfl,e⟩:=d;exact⟨z,a,fun _=>e⟩
end
theorem RCell.body {c:Nat}{own:Nat->Nat}{i:Nat}:RCell c own H i 5 v↔∃cs:List IV,TS 1 (fun j=>own j=3*i+1) H v cs/\cs.all IV.one=true/\cs.length<=65536:=by
 unfold RCell;rw[if_neg (by omega),if_neg (by omega),if_pos rfl]
section
variable {cal : FuncId -> Bool} {O : Oracle} {N : Nat}
end
end Go.Shade
namespace Go.Shade
variable {H H' : Heap} {T : List (List Cl)}
def TV (H:Heap)(v:IV)(T:List (List Cl)):Prop :=
 (v=.nilSlice/\T=[])∨∃b o n lb ex sz,v=.slice b o n lb ex sz/\b<H.length/\n<=lb/\(sz=0∨sz=1)/\T.length=n/\∀t c,T[t]? =some c->∃w,lload1 H (.ptr b (o+t))=some w/\CS H w c/\low H.length w
theorem Kp.refl (H:Heap):Kp H H:=Keep.refl _ _
theorem Kp.tr {H'':Heap}(h:Kp H H')(k:Kp H' H''):Kp H H'':=Keep.trans h (Keep.mono k h.2)
theorem Kp.push (H X:Heap):Kp H (H++X):=Keep.push _ _ (Nat.le_refl _)
theorem Kp.get {H H':Heap}(h:Kp H H'){i:Nat}{o:IObj}(e:H[i]? =some o):H'[i]? =some o:=Keep.get h (ges e).1 e
theorem Kp.ld1 (h:Kp H H'){b o:Nat}(hb:b<H.length):lload1 H' (.ptr b o)=lload1 H (.ptr b o):=by
 rw[lload1_ptr,lload1_ptr,h.1 b hb]
theorem TV.keep {v:IV}(h:TV H v T)(k:Kp H H'):TV H' v T:=by
 rcases h with h | ⟨b,o,n,lb,ex,sz,h1,h2,h3,h4,h5,h6⟩
 ·exact .inl h
 ·refine .inr ⟨b,o,n,lb,ex,sz,h1,Nat.lt_of_lt_of_le h2 k.2,h3,h4,h5,fun t c hc=> ?_⟩;obtain⟨w,g1,g2,g3⟩:=h6 t c hc;exact⟨w,by rw[k.ld1 h2];exact g1,g2.keep' g3 k,low_mono g3 k.2⟩
theorem TV.len {v:IV}(h:TV H v T):llen H .slice v=some (.int .i64 (T.length:Nat)):=by
 rcases h with⟨rfl,rfl⟩ | ⟨b,o,n,lb,ex,sz,rfl,h2,h3,h4,h5,h6⟩
 ·rfl
 ·subst h5;rfl
theorem TV.at {H:Heap}{v:IV}{T:List (List Cl)}(h:TV H v T){t:Nat}(ht:t<T.length):∃p w,lix 1 v (.int .i64 (t:Nat))=some p/\lload1 H p=some w/\CS H w T[t]/\low H.length w:=by
 rcases h with⟨rfl,rfl⟩ | ⟨b,o,n,lb,ex,sz,rfl,h2,h3,h4,h5,h6⟩
 ·simp at ht
 ·obtain⟨w,g1,g2,g3⟩:=h6 t _ (List.getElem?_eq_getElem ht);refine⟨.ptr b (o+t),w,?_,g1,g2,g3⟩;rw[lix_slice,if_pos (by omega)];simp
structure Thr (B q:Nat)(own:Nat->Nat)(H:Heap)(T:List (List Cl)):Prop where
 row:∃vs:List IV,H[q]? =some (.row vs false)/\vs.length=T.length/\∀t c,T[t]? =some c->∃w,vs[t]? =some w/\TS 7 (fun j=>B<=j/\own j=t+1) H w (flat7 c)
 lq:q<B
 lB:B<=H.length
 lt:∀j,own j≠0->j<H.length
theorem Thr.app {B q:Nat}{own:Nat->Nat}{H:Heap}{T:List (List Cl)}(h:Thr B q own H T){t:Nat}{c0:List Cl}(ht:T[t]? =some c0)(hc0:c0.length<=1000)(c:Cl) :
  ∃w,lload1 H (.ptr q t)=some w/\Wp (lapp (H++[.row c.cells false]) 7 72 w (.slice H.length 0 1 1 true 7)) fun r=>∃H3 own',lstV r.2 1 (.ptr q t) r.1=some (.tuple [],H3)/\Thr B q own' H3 (T.set t (c0++[c]))/\(∀i,i<B->i≠q->H3[i]? =H[i]?)/\H.length<=H3.length:=by
 obtain⟨vs,hv,hl,hT⟩:=h.row;obtain⟨w,hw,hS⟩:=hT t c0 ht;have htl:=(ges ht).1;have lB:=h.lB;have lq:=h.lq;refine⟨w,by rw[lload1_ptr,hv];exact hw,?_⟩;have k1:Frame NoF H (H++[IObj.row c.cells false]):=Frame.push _ _ _;have l1:(H++[IObj.row c.cells false]).length=H.length+1:=by simp
 have hS1:TS 7 (fun j=>B<=j/\own j=t+1) (H++[IObj.row c.cells false]) w (flat7 c0):=hS.frame k1 fun _ _ h=>h;have hx:xlen (.slice H.length 0 1 1 true 7)=some 1:=rfl;have hc:lxcells (H++[IObj.row c.cells false]) 7 (.slice H.length 0 1 1 true 7) 1=some c.cells:=Buf.cells (B:=0) (.inr ⟨_,1,true,rfl,Nat.zero_le _,newRow,rfl⟩) rfl;obtain⟨⟨v',H2⟩,h2,k2,n2⟩:=hS1.app (b:=72) (by decide) hx hc rfl (show c.cells.all IV.one=true from rfl) (by rw[flat7_length];omega);refine⟨_,h2,?_⟩;simp only at k2 n2 ⊢;have hq2:H2[q]? =some (.row vs false):=(k2.get (fun h=>by omega) (k1.get (fun h=>h) hv));have l2:=k2.1;refine⟨H2.set q (.row (vs.set t v') false),fun j=>if H.length<=j then(if j<H2.length then t+1 else 0)else own j,?_,⟨⟨vs.set t v',setAt hq2,by simp[hl],fun u cu hu=> ?_⟩,lq,by rw[List.length_set];omega,fun j hj=> ?_⟩,fun i hi hne=> ?_,by rw[List.length_set];omega⟩
 ·rw[lstV_ptr,hq2,putO_one n2.one (by omega)];rfl
 ·rw[List.getElem?_set]at hu;have kq:Frame (· =q) H2 (H2.set q (.row (vs.set t v') false)):=Frame.set _ _ rfl;by_cases e:t=u
  ·subst e;rw[if_pos rfl,if_pos htl]at hu
   cases hu
   refine⟨v',by rw[List.getElem?_set,if_pos rfl,if_pos (by omega)],?_⟩;rw[flat7_append];refine TS.mono (TS.frame (by simpa[flat7]using n2) kq fun j hj e=>by omega) fun j hj=>⟨by omega,?_⟩;rw[if_pos (by omega),if_pos hj.2]
  ·rw[if_neg e]at hu;obtain⟨w',hw',hS'⟩:=hT u cu hu;refine⟨w',by rw[List.getElem?_set_ne e];exact hw',?_⟩;have q1:=hS'.frame k1 fun _ _ h=>h;have q2:=q1.frame k2 fun j hj hk=>by omega
   refine TS.mono (q2.frame kq fun j hj e=>by omega) fun j hj=>⟨hj.1,?_⟩;rw[if_neg (by have:=h.lt j (by omega);omega)];exact hj.2
 ·rw[List.length_set];split at hj
  ·split at hj
   ·assumption
   ·exact absurd rfl hj
  ·have:=h.lt j hj;omega
 ·rw[List.getElem?_set_ne (Ne.symm hne),k2.2 i (by omega) (by omega),k1.2 i (by omega) (fun h=>h)]
theorem Thr.start {q n:Nat}{H:Heap}(hq:H[q]? =some (.row (List.replicate n .nilSlice) false)):Thr H.length q (fun _=>0) H (deal n []):=by
 refine⟨⟨_,hq,by simp[deal_len],fun t c hc=>⟨.nilSlice,?_,.inl ⟨rfl,?_⟩⟩⟩,(ges hq).1,Nat.le_refl _,fun j hj=>absurd rfl hj⟩
 ·have:=(ges hc).1;rw[deal_len]at this;simp[this]
 ·have:=(ges hc).1;rw[deal_len]at this;rw[deal_get this]at hc
  cases hc;rfl
theorem TS.calls {P:Nat->Prop}{H:Heap}{w:IV}{l:List Cl}(h:TS 7 P H w (flat7 l)):CS H w l/\low H.length w:=by
 rcases h with⟨rfl,e⟩ | ⟨r,n,ex,rfl,_,g2,g3⟩
 ·have:l=[]:=by cases l with
   | nil=>rfl
   | cons c l=>simp[flat7,Cl.cells]at e
  subst this;exact⟨.inl ⟨rfl,rfl⟩,lowNil⟩
 ·exact⟨Buf.calls (B:=0) (.inr ⟨r,n,ex,rfl,Nat.zero_le _,g2,g3⟩),lowAt (ges g2).1⟩
theorem Thr.tv {B q n:Nat}{own:Nat->Nat}{ex:Bool}(h:Thr B q own H T)(hn:T.length=n):TV H (.slice q 0 n n ex 1) T:=by
 obtain⟨vs,hv,hl,hT⟩:=h.row;refine .inr ⟨q,0,n,n,ex,1,rfl,(ges hv).1,Nat.le_refl _,.inr rfl,hn,fun t c hc=> ?_⟩;obtain⟨w,hw,hS⟩:=hT t c hc;obtain⟨q1,q2⟩:=hS.calls;exact⟨w,by rw[lload1_ptr,hv,Nat.zero_add];exact hw,q1,q2⟩
end Go.Shade
namespace Go.Shade
def X10K0 :LC:=.seq (.reg [ qO 47 (.bin .lss (.t 46) (.t 45))]) (.seq (.cond (.t 47) .skip (.exit 0)) (.seq (.block 1 (.seq (.reg [ qM 48 46,qO 49 (.ix 7 (.t 44) (.t 46)),qO 50 (.ldn 7 (.t 49)),qO 10 (.zbox (.agg [(.int .i64 0),(.int .i64 0),(.int .i64 0),(.int .i64 0),(.int .i64 0),(.str []),(.str [])])),qM 9 48,⟨none,(.st 7 (.t 10) (.t 50)),none⟩]) (.seq (.reg [ qM 51 9,qM 52 6,qO 53 (.len .slice (.t 52)),qO 54 (.bin .rem (.t 51) (.t 53)),qM 11 54]) (.drw [ qM 55 6,qM 56 11,qM 57 6,qM 58 11,qO 59 (.ix 1 (.t 57) (.t 58)),qO 60 (.ld1 (.t 59)),qO 61 (.ldn 7 (.t 10)),qO 62 (.bldS 7 1 [(.int .i64 0),(.int .i64 0),(.int .i64 0),(.int .i64 0),(.int .i64 0),(.str []),(.str [])] [(0,(.t 61))]),qO 63 (.app 7 72 (.t 60) (.t 62)),qO 64 (.ix 1 (.t 55) (.t 56)),⟨none,(.st 1 (.t 64) (.t 63)),none⟩] [(5,7)])))) (.reg [ qO 65 (.bin .add (.t 46) (k6 1)),qM 46 65])))
def scriptDecodeC0 (f0:FuncId):LC:=.loop X10K0
def scriptDecodeC1 (f0:FuncId):LC:=.block 0 (scriptDecodeC0 f0)
def X10K1 (f0:FuncId):LC:=.reg [ qM 37 0,qM 38 8,qM 39 0,qO 40 (.len .slice (.t 39)),qM 41 0,qO 42 (.len .slice (.t 41)),qO 43 (.slc (.slice 1) (.t 37) (some (.t 38)) (some (.t 40)) (some (.t 42))),qO 44 (.callF f0 [(.t 43)]),qO 45 (.len .slice (.t 44)),qO 46 (.mv (k6 0))]
def scriptDecodeC2 (f0:FuncId):LC:=.seq (X10K1 f0) (scriptDecodeC1 f0)
def X10K5 :LC:=.seq (.reg [ qM 66 6,qM 67 7,qM 2 66,qM 3 67]) .ret
def scriptDecodeC3 (f0:FuncId):LC:=.seq (scriptDecodeC2 f0) X10K5
def X10K6 :LC:=.reg [ qM 34 7,qM 35 0,qO 36 (.cpy 1 (.t 34) (.t 35)),qM 8 36]
def scriptDecodeC4 (f0:FuncId):LC:=.seq X10K6 (scriptDecodeC3 f0)
def X10K4 :LC:=.reg [ qM 30 4,qO 31 (.ix 1 (.t 30) (k6 1)),qO 32 (.ld1 (.t 31)),qO 33 (.mkS 1 1 [(.int .u8 0)] (.t 32) (.t 32)),qM 7 33]
def scriptDecodeC5 (f0:FuncId):LC:=.seq X10K4 (scriptDecodeC4 f0)
def X10K2 :LC:=.reg [ qM 23 4,qO 24 (.ix 1 (.t 23) (k6 0)),qO 25 (.ld1 (.t 24)),qO 26 (.cvt .i64 (.t 25)),qO 27 (.bin .rem (.t 26) (k6 64)),qO 28 (.bin .add (k6 1) (.t 27)),qO 29 (.mkS 1 24 [.nilSlice] (.t 28) (.t 28)),qM 6 29]
def scriptDecodeC6 (f0:FuncId):LC:=.seq X10K2 (scriptDecodeC5 f0)
def X10K3 :LC:=.reg [ qM 16 0,qM 17 5,qM 18 0,qO 19 (.len .slice (.t 18)),qM 20 0,qO 21 (.len .slice (.t 20)),qO 22 (.slc (.slice 1) (.t 16) (some (.t 17)) (some (.t 19)) (some (.t 21))),qM 0 22]
def scriptDecodeC7 (f0:FuncId):LC:=.seq X10K3 (scriptDecodeC6 f0)
def X10K7 :LC:=.reg [ qM 13 4,qM 14 0,qO 15 (.cpy 1 (.t 13) (.t 14)),qM 5 15]
def scriptDecodeC8 (f0:FuncId):LC:=.seq X10K7 (scriptDecodeC7 f0)
def X10K8 :LC:=.reg [ qO 12 (.mkS 1 1 [(.int .u8 0)] (k6 2) (k6 2)),qM 4 12]
def scriptDecodeC9 (f0:FuncId):LC:=.seq X10K8 (scriptDecodeC8 f0)
def scriptDecodeC10 (f0:FuncId):LC:=.seq (.reg [ qO 2 (.mv (.k .nilSlice)),qO 3 (.mv (.k .nilSlice))]) (scriptDecodeC9 f0)
def scriptDecodeC0S (cal:CB)(O:Oracle)(N:Nat)(f0:FuncId)(gE0:IV->IV->Heap->OH):Nat->IV->IV->IV->IV->IV->Heap->OH
 | 0,_,_,_,_,_,_=>none
 | n+1,v6,v7,v44,v45,v46,H =>ob (lbin .lss v46 v45) fun t1 =>cnd t1
  (ob (lix 7 v44 v46) fun t2 =>ob (lloadn H 7 t2) fun t3 =>ob (lzbox H (.agg [(.int .i64 0),(.int .i64 0),(.int .i64 0),(.int .i64 0),(.int .i64 0),(.str []),(.str [])])) fun r4 =>ob (lstV r4.2 7 r4.1 t3) fun r5 =>ob (llen r5.2 .slice v6) fun t6 =>ob (lbin .rem v46 t6) fun t7 =>ob (lix 1 v6 t7) fun t8 =>ob (lload1 r5.2 t8) fun t9 =>ob (lloadn r5.2 7 r4.1) fun t10 =>ob (lbldS r5.2 7 1 [(.int .i64 0),(.int .i64 0),(.int .i64 0),(.int .i64 0),(.int .i64 0),(.str []),(.str [])] [(0,t10)]) fun r11 =>ob (lapp r11.2 7 72 t9 r11.1) fun r12 =>ob (lix 1 v6 t7) fun t13 =>ob (lstV r12.2 1 t13 r12.1) fun r14 =>
   ckd ((!(true)||((!(false))&&ivo (lload1 r5.2 t8) t9&&ivo (lload1 r11.2 t8) t9))&&true) <|
  ob (lbin .add v46 (.int .i64 1)) fun t15 =>
   scriptDecodeC0S cal O N f0 gE0 n v6 v7 v44 v45 t15 r14.2)
  (gE0 v6 v7 H)
theorem scriptDecodeC0Eq (cal:CB)(O:Oracle)(N:Nat)(f0:FuncId){k:KT (IV×Heap)}(gE0:IV->IV->Heap->OH)(hgE0:∀E H,k (.exit 0) E H=gE0 (lk E 6) (lk E 7) H):∀(n:Nat) (E:Sg) (H:Heap),itK (lxK cal O N X10K0) n E H k=scriptDecodeC0S cal O N f0 gE0 n (lk E 6) (lk E 7) (lk E 44) (lk E 45) (lk E 46) H:=by
 have hk:k=(kE 0 (fun E H=>gE0 (lk E 6) (lk E 7) H) k):=(kE_mk hgE0 rfl);intro n
 induction n with
 | zero=>intro E H;rfl
 | succ n ih =>
  intro E H;rw[itK_succ,seqK_mk (g:=fun E H=>scriptDecodeC0S cal O N f0 gE0 n (lk E 6) (lk E 7) (lk E 44) (lk E 45) (lk E 46) H) ih,hk];kernel_rfl
def scriptDecodeC1S (cal:CB)(O:Oracle)(N:Nat)(f0:FuncId)(gN:IV->IV->Heap->OH)(v6 v7 v44 v45 v46:IV)(H:Heap):OH :=
  scriptDecodeC0S cal O N f0 (fun v6 v7 H=>gN v6 v7 H) N v6 v7 v44 v45 v46 H
theorem scriptDecodeC1Eq (cal:CB)(O:Oracle)(N:Nat)(f0:FuncId){k:KT (IV×Heap)}(gN:IV->IV->Heap->OH)(hgN:∀E H,k .normal E H=gN (lk E 6) (lk E 7) H):∀(E:Sg) (H:Heap),lxK cal O N (scriptDecodeC1 f0) E H k=scriptDecodeC1S cal O N f0 gN (lk E 6) (lk E 7) (lk E 44) (lk E 45) (lk E 46) H:=by
 have hk:k=(kN (fun E H=>gN (lk E 6) (lk E 7) H) k):=(kN_mk hgN rfl);intro E H;rw[hk];show lxK cal O N (scriptDecodeC0 f0) E H (blockK 0 (kN (fun E H=>gN (lk E 6) (lk E 7) H) k))=_;exact(scriptDecodeC0Eq cal O N f0 (k:=(blockK 0 (kN (fun E H=>gN (lk E 6) (lk E 7) H) k))) gN (fun _ _=>by kernel_rfl) N E H).trans (by kernel_rfl)
def scriptDecodeC2S (cal:CB)(O:Oracle)(N:Nat)(f0:FuncId)(gN:IV->IV->Heap->OH)(v0 v6 v7 v8:IV)(H:Heap):OH :=
 ob (llen H .slice v0) fun t1 =>ob (llen H .slice v0) fun t2 =>ob (lslice H (.slice 1) v0 (some v8) (some t1) (some t2)) fun t3 =>ob (O f0 [t3] H) fun r4 =>ob (llen r4.2 .slice r4.1) fun t5 =>
  scriptDecodeC1S cal O N f0 (fun v6 v7 H=>gN v6 v7 H) v6 v7 r4.1 t5 (.int .i64 0) r4.2
theorem scriptDecodeC2Eq (cal:CB)(O:Oracle)(N:Nat)(f0:FuncId){k:KT (IV×Heap)}(gN:IV->IV->Heap->OH)(hgN:∀E H,k .normal E H=gN (lk E 6) (lk E 7) H):∀(E:Sg) (H:Heap),lxK cal O N (scriptDecodeC2 f0) E H k=scriptDecodeC2S cal O N f0 gN (lk E 0) (lk E 6) (lk E 7) (lk E 8) H:=by
 have hk:k=(kN (fun E H=>gN (lk E 6) (lk E 7) H) k):=(kN_mk hgN rfl);intro E H;rw[hk];show lxK cal O N (X10K1 f0) E H (seqK (lxK cal O N (scriptDecodeC1 f0)) (kN (fun E H=>gN (lk E 6) (lk E 7) H) k))=_;rw[seqK_mk (g:=fun E H=>scriptDecodeC1S cal O N f0 gN (lk E 6) (lk E 7) (lk E 44) (lk E 45) (lk E 46) H) (scriptDecodeC1Eq cal O N f0 (k:=(kN (fun E H=>gN (lk E 6) (lk E 7) H) k)) gN (fun _ _=>by kernel_rfl))];kernel_rfl
def scriptDecodeC3S (cal:CB)(O:Oracle)(N:Nat)(f0:FuncId)(v0 v6 v7 v8:IV)(H:Heap):OH :=
  scriptDecodeC2S cal O N f0 (fun v6 v7 H=>some ((.tuple [v6,v7]),H)) v0 v6 v7 v8 H
theorem scriptDecodeC3Eq (cal:CB)(O:Oracle)(N:Nat)(f0:FuncId){k:KT (IV×Heap)}(hR:∀E H,k .ret E H=resK [(.tmp 2),(.tmp 3)] [] E H):∀(E:Sg) (H:Heap),lxK cal O N (scriptDecodeC3 f0) E H k=scriptDecodeC3S cal O N f0 (lk E 0) (lk E 6) (lk E 7) (lk E 8) H:=by
 have hk:k=(kR (resK [(.tmp 2),(.tmp 3)] []) k):=(kR_mk hR rfl);intro E H;rw[hk];show lxK cal O N (scriptDecodeC2 f0) E H (seqK (lxK cal O N X10K5) (kR (resK [(.tmp 2),(.tmp 3)] []) k))=_;exact(scriptDecodeC2Eq cal O N f0 (k:=(seqK (lxK cal O N X10K5) (kR (resK [(.tmp 2),(.tmp 3)] []) k))) (fun v6 v7 H=>some ((.tuple [v6,v7]),H)) (fun _ _=>by kernel_rfl) E H).trans (by kernel_rfl)
def scriptDecodeC4S (cal:CB)(O:Oracle)(N:Nat)(f0:FuncId)(v0 v6 v7:IV)(H:Heap):OH :=
 ob (lcpy H 1 v7 v0) fun r1 =>
  scriptDecodeC3S cal O N f0 v0 v6 v7 r1.1 r1.2
theorem scriptDecodeC4Eq (cal:CB)(O:Oracle)(N:Nat)(f0:FuncId){k:KT (IV×Heap)}(hR:∀E H,k .ret E H=resK [(.tmp 2),(.tmp 3)] [] E H):∀(E:Sg) (H:Heap),lxK cal O N (scriptDecodeC4 f0) E H k=scriptDecodeC4S cal O N f0 (lk E 0) (lk E 6) (lk E 7) H:=by
 have hk:k=(kR (resK [(.tmp 2),(.tmp 3)] []) k):=(kR_mk hR rfl);intro E H;rw[hk];show lxK cal O N X10K6 E H (seqK (lxK cal O N (scriptDecodeC3 f0)) (kR (resK [(.tmp 2),(.tmp 3)] []) k))=_;rw[seqK_mk (g:=fun E H=>scriptDecodeC3S cal O N f0 (lk E 0) (lk E 6) (lk E 7) (lk E 8) H) (scriptDecodeC3Eq cal O N f0 (k:=(kR (resK [(.tmp 2),(.tmp 3)] []) k)) (fun _ _=>by kernel_rfl))];kernel_rfl
def scriptDecodeC5S (cal:CB)(O:Oracle)(N:Nat)(f0:FuncId)(v0 v4 v6:IV)(H:Heap):OH :=
 ob (lix 1 v4 (.int .i64 1)) fun t1 =>ob (lload1 H t1) fun t2 =>ob (lmkS H 1 1 [(.int .u8 0)] t2 t2) fun r3 =>
  scriptDecodeC4S cal O N f0 v0 v6 r3.1 r3.2
theorem scriptDecodeC5Eq (cal:CB)(O:Oracle)(N:Nat)(f0:FuncId){k:KT (IV×Heap)}(hR:∀E H,k .ret E H=resK [(.tmp 2),(.tmp 3)] [] E H):∀(E:Sg) (H:Heap),lxK cal O N (scriptDecodeC5 f0) E H k=scriptDecodeC5S cal O N f0 (lk E 0) (lk E 4) (lk E 6) H:=by
 have hk:k=(kR (resK [(.tmp 2),(.tmp 3)] []) k):=(kR_mk hR rfl);intro E H;rw[hk];show lxK cal O N X10K4 E H (seqK (lxK cal O N (scriptDecodeC4 f0)) (kR (resK [(.tmp 2),(.tmp 3)] []) k))=_;rw[seqK_mk (g:=fun E H=>scriptDecodeC4S cal O N f0 (lk E 0) (lk E 6) (lk E 7) H) (scriptDecodeC4Eq cal O N f0 (k:=(kR (resK [(.tmp 2),(.tmp 3)] []) k)) (fun _ _=>by kernel_rfl))];kernel_rfl
def scriptDecodeC6S (cal:CB)(O:Oracle)(N:Nat)(f0:FuncId)(v0 v4:IV)(H:Heap):OH :=
 ob (lix 1 v4 (.int .i64 0)) fun t1 =>ob (lload1 H t1) fun t2 =>ob (lcvt .i64 t2) fun t3 =>ob (lbin .rem t3 (.int .i64 64)) fun t4 =>ob (lbin .add (.int .i64 1) t4) fun t5 =>ob (lmkS H 1 24 [.nilSlice] t5 t5) fun r6 =>
  scriptDecodeC5S cal O N f0 v0 v4 r6.1 r6.2
theorem scriptDecodeC6Eq (cal:CB)(O:Oracle)(N:Nat)(f0:FuncId){k:KT (IV×Heap)}(hR:∀E H,k .ret E H=resK [(.tmp 2),(.tmp 3)] [] E H):∀(E:Sg) (H:Heap),lxK cal O N (scriptDecodeC6 f0) E H k=scriptDecodeC6S cal O N f0 (lk E 0) (lk E 4) H:=by
 have hk:k=(kR (resK [(.tmp 2),(.tmp 3)] []) k):=(kR_mk hR rfl);intro E H;rw[hk];show lxK cal O N X10K2 E H (seqK (lxK cal O N (scriptDecodeC5 f0)) (kR (resK [(.tmp 2),(.tmp 3)] []) k))=_;rw[seqK_mk (g:=fun E H=>scriptDecodeC5S cal O N f0 (lk E 0) (lk E 4) (lk E 6) H) (scriptDecodeC5Eq cal O N f0 (k:=(kR (resK [(.tmp 2),(.tmp 3)] []) k)) (fun _ _=>by kernel_rfl))];kernel_rfl
def scriptDecodeC7S (cal:CB)(O:Oracle)(N:Nat)(f0:FuncId)(v0 v4 v5:IV)(H:Heap):OH :=
 ob (llen H .slice v0) fun t1 =>ob (llen H .slice v0) fun t2 =>ob (lslice H (.slice 1) v0 (some v5) (some t1) (some t2)) fun t3 =>
  scriptDecodeC6S cal O N f0 t3 v4 H
theorem scriptDecodeC7Eq (cal:CB)(O:Oracle)(N:Nat)(f0:FuncId){k:KT (IV×Heap)}(hR:∀E H,k .ret E H=resK [(.tmp 2),(.tmp 3)] [] E H):∀(E:Sg) (H:Heap),lxK cal O N (scriptDecodeC7 f0) E H k=scriptDecodeC7S cal O N f0 (lk E 0) (lk E 4) (lk E 5) H:=by
 have hk:k=(kR (resK [(.tmp 2),(.tmp 3)] []) k):=(kR_mk hR rfl);intro E H;rw[hk];show lxK cal O N X10K3 E H (seqK (lxK cal O N (scriptDecodeC6 f0)) (kR (resK [(.tmp 2),(.tmp 3)] []) k))=_;rw[seqK_mk (g:=fun E H=>scriptDecodeC6S cal O N f0 (lk E 0) (lk E 4) H) (scriptDecodeC6Eq cal O N f0 (k:=(kR (resK [(.tmp 2),(.tmp 3)] []) k)) (fun _ _=>by kernel_rfl))];kernel_rfl
def scriptDecodeC8S (cal:CB)(O:Oracle)(N:Nat)(f0:FuncId)(v0 v4:IV)(H:Heap):OH :=
 ob (lcpy H 1 v4 v0) fun r1 =>
  scriptDecodeC7S cal O N f0 v0 v4 r1.1 r1.2
theorem scriptDecodeC8Eq (cal:CB)(O:Oracle)(N:Nat)(f0:FuncId){k:KT (IV×Heap)}(hR:∀E H,k .ret E H=resK [(.tmp 2),(.tmp 3)] [] E H):∀(E:Sg) (H:Heap),lxK cal O N (scriptDecodeC8 f0) E H k=scriptDecodeC8S cal O N f0 (lk E 0) (lk E 4) H:=by
 have hk:k=(kR (resK [(.tmp 2),(.tmp 3)] []) k):=(kR_mk hR rfl);intro E H;rw[hk];show lxK cal O N X10K7 E H (seqK (lxK cal O N (scriptDecodeC7 f0)) (kR (resK [(.tmp 2),(.tmp 3)] []) k))=_;rw[seqK_mk (g:=fun E H=>scriptDecodeC7S cal O N f0 (lk E 0) (lk E 4) (lk E 5) H) (scriptDecodeC7Eq cal O N f0 (k:=(kR (resK [(.tmp 2),(.tmp 3)] []) k)) (fun _ _=>by kernel_rfl))];kernel_rfl
def scriptDecodeC9S (cal:CB)(O:Oracle)(N:Nat)(f0:FuncId)(v0:IV)(H:Heap):OH :=
 ob (lmkS H 1 1 [(.int .u8 0)] (.int .i64 2) (.int .i64 2)) fun r1 =>
  scriptDecodeC8S cal O N f0 v0 r1.1 r1.2
theorem scriptDecodeC9Eq (cal:CB)(O:Oracle)(N:Nat)(f0:FuncId){k:KT (IV×Heap)}(hR:∀E H,k .ret E H=resK [(.tmp 2),(.tmp 3)] [] E H):∀(E:Sg) (H:Heap),lxK cal O N (scriptDecodeC9 f0) E H k=scriptDecodeC9S cal O N f0 (lk E 0) H:=by
 have hk:k=(kR (resK [(.tmp 2),(.tmp 3)] []) k):=(kR_mk hR rfl);intro E H;rw[hk];show lxK cal O N X10K8 E H (seqK (lxK cal O N (scriptDecodeC8 f0)) (kR (resK [(.tmp 2),(.tmp 3)] []) k))=_;rw[seqK_mk (g:=fun E H=>scriptDecodeC8S cal O N f0 (lk E 0) (lk E 4) H) (scriptDecodeC8Eq cal O N f0 (k:=(kR (resK [(.tmp 2),(.tmp 3)] []) k)) (fun _ _=>by kernel_rfl))];kernel_rfl
def scriptDecodeC10S (cal:CB)(O:Oracle)(N:Nat)(f0:FuncId)(v0:IV)(H:Heap):OH :=
  scriptDecodeC9S cal O N f0 v0 H
theorem scriptDecodeC10Eq (cal:CB)(O:Oracle)(N:Nat)(f0:FuncId){k:KT (IV×Heap)}(hR:∀E H,k .ret E H=resK [(.tmp 2),(.tmp 3)] [] E H):∀(E:Sg) (H:Heap),lxK cal O N (scriptDecodeC10 f0) E H k=scriptDecodeC10S cal O N f0 (lk E 0) H:=by
 have hk:k=(kR (resK [(.tmp 2),(.tmp 3)] []) k):=(kR_mk hR rfl);intro E H;rw[hk];show lxK cal O N (.reg [ qO 2 (.mv (.k .nilSlice)),qO 3 (.mv (.k .nilSlice))]) E H (seqK (lxK cal O N (scriptDecodeC9 f0)) (kR (resK [(.tmp 2),(.tmp 3)] []) k))=_;rw[seqK_mk (g:=fun E H=>scriptDecodeC9S cal O N f0 (lk E 0) H) (scriptDecodeC9Eq cal O N f0 (k:=(kR (resK [(.tmp 2),(.tmp 3)] []) k)) (fun _ _=>by kernel_rfl))];kernel_rfl
def scriptDecode (f0:FuncId):LFun:=⟨(scriptDecodeC10 f0),[(.tmp 2),(.tmp 3)],68⟩
def scriptDecodeS (cal:CB)(O:Oracle)(N:Nat)(f0:FuncId)(v0:IV)(H:Heap):OH :=
  scriptDecodeC10S cal O N f0 v0 H
theorem scriptDecodeEq (cal:CB)(O:Oracle)(N:Nat)(f0:FuncId)(v0:IV)(H:Heap):lrunK cal O N (scriptDecode f0) [v0] H=scriptDecodeS cal O N f0 v0 H:=by
 show lxK cal O N (scriptDecodeC10 f0) (initFrom 0 [v0]) H (endK [(.tmp 2),(.tmp 3)])=_;exact scriptDecodeC10Eq cal O N f0 (k:=(endK [(.tmp 2),(.tmp 3)])) (fun _ _=>by kernel_rfl) (initFrom 0 [v0]) H
end Go.Shade
namespace Go.Shade
variable {H : Heap} {bs : List UInt8} {n : Nat}
def padN (n:Nat)(bs:List UInt8):List UInt8:=bs.take n++List.replicate (n - bs.length) 0
theorem padN_get {i:Nat}(hi:i<n):(padN n bs)[i]? =some (bs.getD i 0):=by
 unfold padN;by_cases h:i<bs.length
 ·rw[List.getElem?_append_left (by simp;omega),List.getElem?_take,if_pos hi,List.getD_eq_getElem?_getD,List.getElem?_eq_getElem h];rfl
 ·rw[List.getElem?_append_right (by simp;omega),List.getElem?_replicate,if_pos (by simp;omega),List.getD_eq_getElem?_getD,List.getElem?_eq_none (by omega)];rfl
theorem mkS_nat {s b:Nat}{k k':IntKind}{z:List IV}(hb:b*n<=281474976710656)(hn:n<=9223372036854775807):lmkS H s b z (.int k (n:Nat)) (.int k' (n:Nat))=some (.slice H.length 0 n n true s,H++[.row (zrep n z) false]):=by
 unfold lmkS;simp only;rw[if_pos ⟨by omega,by omega,by rw[←Int.natCast_mul];omega,by omega⟩];rfl
theorem zrep_zero (n:Nat):zrep n [.int .u8 0]=bytes (List.replicate n 0):=by
 induction n with
 | zero=>rfl
 | succ n ih=>simp only[zrep,bytes,List.replicate_succ,List.flatten_cons,List.map_cons]at ih ⊢;rw[ih];rfl
theorem zrep_nil (n:Nat):zrep n [IV.nilSlice]=List.replicate n .nilSlice:=by
 induction n with
 | zero=>rfl
 | succ n ih=>simp only[zrep,List.replicate_succ,List.flatten_cons]at ih ⊢;rw[ih];rfl
theorem put0 {cs vs:List IV}(h:vs.length<=cs.length):putAt cs 0 vs=vs++cs.drop vs.length:=by
 unfold putAt;split
 ·rename_i v
  cases cs with
  | nil=>simp at h
  | cons c cs=>rfl
 ·simp
theorem bnd_nat {d:Nat}{k:IntKind}:bnd d (some (.int k (n:Nat)))=some n:=by
 show(if(0:Int)<=(n:Nat)then some ((n:Int).toNat)else none)=_;rw[if_pos (by omega),Int.toNat_natCast]
theorem bytes_get {l:List UInt8}{i:Nat}{x:UInt8}(h:l[i]? =some x):(bytes l)[i]? =some (.int .u8 x.toNat):=by simp[bytes,h]
theorem cpy_pad {H:Heap}{q n:Nat}{ex:Bool}{v:IV}{bs:List UInt8} (hq:H[q]? =some (.row (bytes (List.replicate n 0)) false)) (hv:BS H v bs) :
  lcpy H 1 (.slice q 0 n n ex 1) v=some (.int .i64 (min bs.length n:Nat),H.set q (.row (bytes (padN n bs)) false)):=by
 have hx:xlen v=some bs.length:=hv.cells.1;have hd:xlen (.slice q 0 n n ex 1)=some n:=rfl;have hcopy:lcopy H 1 (.slice q 0 n n ex 1) v=some (.val (.int .i64 (min bs.length n:Nat)),H.set q (.row (bytes (padN n bs)) false)):=by
  unfold lcopy;rw[hx,hd];simp only[Option.bind_some];by_cases h0:min bs.length n=0
  ·rw[if_pos h0,h0];have:padN n bs=List.replicate n 0:=by
    unfold padN;rcases Nat.eq_zero_or_pos n with e | e
    ·subst e;simp
    ·have:bs=[]:=List.length_eq_zero_iff.1 (by omega);subst this;simp
   rw[this,set_same hq];rfl
  ·rw[if_neg h0];have hc:lxcells H 1 v (min bs.length n)=some (bytes (bs.take (min bs.length n))):=by
    rcases hv with⟨rfl,rfl⟩ | ⟨b,o,k,lb,ex',sz,rfl,h1,h2,h3,h4⟩
    ·simp at h0
    ·subst h3;show lsl H 1 (.slice b o bs.length lb ex' sz) (min bs.length n)=_;simp only[lsl];rw[if_pos (by omega),if_neg h0];obtain⟨cells,ro,g1,g2⟩:=h4 (by omega);have hlast:=g2 (min bs.length n - 1) (by omega);have hlen:=(ges hlast).1;simp only[irow,g1,Nat.mul_one];rw[if_pos (by omega)]
     congr 1
     apply List.ext_getElem?;intro i;by_cases hi:i<min bs.length n
     ·rw[List.getElem?_take,if_pos hi,List.getElem?_drop,g2 i (by omega)];simp[bytes,hi,List.getD_eq_getElem?_getD,List.getElem?_take,show i<bs.length by omega]
     ·rw[List.getElem?_eq_none (by simp;omega),List.getElem?_eq_none (by simp[bytes];omega)]
   rw[hc,hq];simp only[Option.bind_some];have hnl:(bytes (bs.take (min bs.length n))).length=min bs.length n:=by rw[bytes_length,List.length_take];omega
   rw[if_pos ⟨bytes_one _,by omega⟩];unfold cpyRow;rw[if_pos (by rw[hnl,bytes_length,List.length_replicate];omega)];simp only[Option.bind_some,Option.some.injEq,Prod.mk.injEq,true_and]
   congr 2
   rw[put0 (by rw[hnl,bytes_length,List.length_replicate];omega),hnl];unfold padN;rw[bytes_append]
   congr 1
   ·congr 1
    rcases Nat.le_total bs.length n with h | h
    ·rw[Nat.min_eq_left h,List.take_of_length_le (Nat.le_refl _),List.take_of_length_le h]
    ·rw[Nat.min_eq_right h]
   ·unfold bytes;rw[←List.map_drop,List.drop_replicate]
    congr 2
    omega
 unfold lcpy;rw[hcopy]
theorem BS.cut {v:IV}(h:BS H v bs)(hl:low H.length v){k:Nat}(hk:k<=bs.length) :
  ∃v',lslice H (.slice 1) v (some (.int .i64 (k:Nat))) (some (.int .i64 (bs.length:Nat))) (some (.int .i64 (bs.length:Nat)))=some v'/\BS H v' (bs.drop k)/\low H.length v'/\v'.one=true:=by
 rcases h with⟨rfl,rfl⟩ | ⟨b,o,n,lb,ex,sz,rfl,h1,h2,h3,h4⟩
 ·have:k=0:=by simpa using hk
  subst this;exact⟨.nilSlice,rfl,.inl ⟨rfl,rfl⟩,lowNil,rfl⟩
 ·subst h3;refine⟨.slice b (o+k*1) (bs.length - k) (bs.length - k) true sz,?_,?_,lowAt (hl _ _ _ _ _ _ rfl),rfl⟩
  ·simp only[lslice,bnd_nat,Option.bind_some];rw[if_neg (by omega),if_pos ⟨rfl,hk,Nat.le_refl _,h1⟩]
  ·refine .inr ⟨b,o+k*1,bs.length - k,bs.length - k,true,sz,rfl,Nat.le_refl _,h2,by simp,fun hn=> ?_⟩;obtain⟨cells,ro,g1,g2⟩:=h4 (by omega);refine⟨cells,ro,g1,fun i hi=> ?_⟩;have:=g2 (k+i) (by omega);rw[show o+k*1+i=o+(k+i) by omega,this];simp[List.getD_eq_getElem?_getD]
theorem Thr.push {B q:Nat}{own:Nat->Nat}{T:List (List Cl)}(h:Thr B q own H T)(X:Heap):Thr B q own (H++X) T:=by
 obtain⟨vs,h1,h2,h3⟩:=h.row;have k:Frame NoF H (H++X):=⟨by simp,fun i hi _=>List.getElem?_append_left hi⟩;refine⟨⟨vs,k.get (fun h=>h) h1,h2,fun t c hc=> ?_⟩,h.lq,Nat.le_trans h.lB (by simp),fun j hj=>Nat.lt_of_lt_of_le (h.lt j hj) (by simp)⟩;obtain⟨w,a,b⟩:=h3 t c hc;exact⟨w,a,b.frame k fun _ _ h=>h⟩
def scN (bs:List UInt8):Nat:=1+(bs.getD 0 0).toNat % 64
def scM (bs:List UInt8):Nat:=(bs.getD 1 0).toNat
def scP (bs:List UInt8):List UInt8:=padN (scM bs) (bs.drop 2)
def scL (bs:List UInt8):List Cl:=dec 200 ((bs.drop 2).drop (scM bs))
def ScrDecOk (O:Oracle)(f:FuncId):Prop:=∀(H:Heap) (v:IV) (bs:List UInt8),v.one=true->low H.length v->BS H v bs ->
 Wp (O f [v] H) fun r=>∃tv p,r.1=.tuple [tv,.slice p 0 (scM bs) (scM bs) true 1]/\TV r.2 tv (deal (scN bs) (scL bs))/\H.length<=p/\r.2[p]? =some (.row (bytes (scP bs)) false)/\Kp H r.2
section
variable {cal : FuncId -> Bool} {O : Oracle} {N : Nat} {fd : FuncId}
theorem scd_loop {q r B:Nat}{l:List Cl}{v7:IV}{K:Heap}{gE:IV->IV->Heap->Option (IV×Heap)}{R:Out->Prop}(hn:0<n)(hn64:n<=64)(hl:l.length<=200){ex:Bool}(hrB:r<B)(hrq:r≠q)(hr:K[r]? =some (.row (flat7 l) false))(hE:∀H own,Thr B q own H (deal n l)->(∀i,i<B->i≠q->H[i]? =K[i]?)->K.length<=H.length->Wp (gE (.slice q 0 n n true 1) v7 H) R) :
  ∀(d i k:Nat) (H:Heap) (own:Nat->Nat),i+d=l.length->d<k->Thr B q own H (deal n (l.take i))->(∀j,j<B->j≠q->H[j]? =K[j]?)->K.length<=H.length ->
   Wp (scriptDecodeC0S cal O N fd gE k (.slice q 0 n n true 1) v7 (.slice r 0 l.length l.length ex 7) (.int .i64 (l.length:Nat)) (.int .i64 (i:Nat)) H) R:=by
 intro d
 induction d with
 | zero =>
  intro i k H own hi hk hT hF hKH;obtain⟨k,rfl⟩:∃j,k=j+1:=⟨k - 1,by omega⟩;rw[scriptDecodeC0S,lbin_lss,ob_some,decide_eq_false (by omega),cnd_false];rw[List.take_of_length_le (by omega)]at hT;exact hE H own hT hF hKH
 | succ d ih =>
  intro i k H own hi hk hT hF hKH;obtain⟨k,rfl⟩:∃j,k=j+1:=⟨k - 1,by omega⟩;have hlt:i<l.length:=by omega
  have hrH:H[r]? =some (.row (flat7 l) false):=by rw[hF r hrB hrq];exact hr
  have hcs:CS H (.slice r 0 l.length l.length ex 7) l:=Buf.calls (B:=0) (.inr ⟨r,l.length,ex,rfl,Nat.zero_le _,hrH,by rw[flat7_length]⟩);obtain⟨b,o,x1,x2⟩:=hcs.at (List.getElem?_eq_getElem hlt);generalize hce:l[i]=c at *;rw[scriptDecodeC0S,lbin_lss,ob_some,decide_eq_true (by omega),cnd_true,x1,ob_some,x2,ob_some,lzbox_eq,ob_some];simp only[cells_agg];rw[stn (n:=7) newRow rfl rfl rfl,setRow,ob_some];simp only;have hT1:=hT.push [IObj.row c.cells false];have ht:i % n<n:=Nat.mod_lt _ hn;have hg:=deal_get ht (l.take i);have hc0:(thr n (l.take i) (i % n)).length<=1000:=by
   have h1:=thr_len ht (l.take i);have h2:((l.take i).length+(n - 1 - i % n)) / n<=(l.take i).length+(n - 1 - i % n):=Nat.div_le_self _ _;rw[List.length_take]at h1 h2;rw[h1];omega
  obtain⟨w,y1,y2⟩:=hT1.app hg hc0 c;have rq:∀X:Heap,lload1 ((H++[IObj.row c.cells false])++X) (.ptr q (i % n))=some w:=fun X=>by
   rw[←y1];obtain⟨vs,hv,_⟩:=hT1.row;exact(Kp.push (H++[IObj.row c.cells false]) X).ld1 (ges hv).1
  have hrem:lbin .rem (.int .i64 (i:Nat)) (.int .i64 (n:Nat))=some (.int .i64 ((i % n:Nat):Int)):=by
   rw[lbin_rem (by omega),Int.tmod_eq_emod_of_nonneg (by omega)];rfl
  have hix:lix 1 (.slice q 0 n n true 1) (.int .i64 ((i % n:Nat):Int))=some (.ptr q (i % n)):=by
   rw[lix_slice,if_pos (by omega),Int.toNat_natCast,Nat.mul_one,Nat.zero_add]
  have hbl:lbldS (H++[IObj.row c.cells false]) 7 1 [(.int .i64 0),(.int .i64 0),(.int .i64 0),(.int .i64 0),(.int .i64 0),(.str []),(.str [])] [(0,.agg c.cells)]=some (.slice (H++[IObj.row c.cells false]).length 0 1 1 true 7,(H++[IObj.row c.cells false])++[.row c.cells false]):=rfl;rw[llen_slice,ob_some,hrem,ob_some,hix,ob_some,y1,ob_some,ldn (n:=7) newRow rfl,ob_some,hbl,ob_some];simp only;refine Wp.call y2 ?_;rintro⟨v',H2⟩ ⟨H3,own',z1,z2,z3,z4⟩;simp only at z1 z4 ⊢;rw[ob_some,z1,ob_some,rq];simp only[ivo_refl,Bool.not_true,Bool.not_false,Bool.false_or,Bool.and_self,ckd_true];have wi:IntKind.wrap .i64 ((i:Int)+1)=((i+1:Nat):Int):=by rw[wrap_i64 (by omega) (by omega)];omega
  rw[lbin_add,ob_some,wi];have htk:l.take (i+1)=l.take i++[c]:=by rw[List.take_add_one,List.getElem?_eq_getElem hlt,hce];rfl
  have hti:(l.take i).length=i:=by rw[List.length_take];omega
  have hd:=deal_snoc hn (l.take i) c;rw[hti]at hd;rw[←hd,←htk]at z2;have lB:=hT.lB;refine ih (i+1) k H3 own' (by omega) (by omega) z2 (fun j hj hne=> ?_) ?_
  ·rw[z3 j hj hne,List.getElem?_append_left (by omega)];exact hF j hj hne
  ·simp at z4;omega
theorem scd_s (hD:DecOk O fd)(hN:1000<N){v:IV}(hv:v.one=true)(hl:low H.length v)(hb:BS H v bs) :
  Wp (scriptDecodeS cal O N fd v H) fun r=>∃tv p,r.1=.tuple [tv,.slice p 0 (scM bs) (scM bs) true 1]/\TV r.2 tv (deal (scN bs) (scL bs))/\H.length<=p/\r.2[p]? =some (.row (bytes (scP bs)) false)/\Kp H r.2:=by
 unfold scriptDecodeS scriptDecodeC10S scriptDecodeC9S;have e1:=mkS_nat (H:=H) (s:=1) (b:=1) (n:=2) (k:=.i64) (k':=.i64) (z:=[.int .u8 0]) (by omega) (by omega);rw[show(IV.int .i64 2)=IV.int .i64 ((2:Nat):Int)from rfl,e1,ob_some];simp only;unfold scriptDecodeC8S;have k1:Kp H (H++[IObj.row (zrep 2 [.int .u8 0]) false]):=Kp.push _ _;have r1:(H++[IObj.row (zrep 2 [.int .u8 0]) false])[H.length]? =some (.row (bytes (List.replicate 2 0)) false):=by rw[newRow,zrep_zero]
 have hb1:=hb.keep' hl k1;rw[cpy_pad r1 hb1,ob_some];simp only;have k2:Kp H ((H++[IObj.row (zrep 2 [.int .u8 0]) false]).set H.length (.row (bytes (padN 2 bs)) false)):=Keep.trans k1 (Keep.set _ _ (Nat.le_refl _));have r2:=setAt (o':=IObj.row (bytes (padN 2 bs)) false) r1;have len2:((H++[IObj.row (zrep 2 [.int .u8 0]) false]).set H.length (.row (bytes (padN 2 bs)) false)).length=H.length+1:=by simp
 generalize (H++[IObj.row (zrep 2 [.int .u8 0]) false]).set H.length (.row (bytes (padN 2 bs)) false)=H2 at *;have hb2:=hb.keep' hl k2;have hl2:low H2.length v:=low_mono hl k2.2;unfold scriptDecodeC7S;obtain⟨v3,e3,b3,l3,o3⟩:=hb2.cut hl2 (k:=min bs.length 2) (Nat.min_le_left _ _);have hdrop:bs.drop (min bs.length 2)=bs.drop 2:=by
  rcases Nat.le_total bs.length 2 with h | h
  ·rw[Nat.min_eq_left h,List.drop_of_length_le (Nat.le_refl _),List.drop_of_length_le h]
  ·rw[Nat.min_eq_right h]
 rw[hdrop]at b3;rw[hb2.len,ob_some,ob_some,e3,ob_some];unfold scriptDecodeC6S;have x0:lload1 H2 (.ptr H.length 0)=some (.int .u8 ((bs.getD 0 0).toNat:Int)):=by rw[lload1_ptr,r2];exact bytes_get (padN_get (by omega))
 have x1:lload1 H2 (.ptr H.length 1)=some (.int .u8 ((bs.getD 1 0).toNat:Int)):=by rw[lload1_ptr,r2];exact bytes_get (padN_get (by omega))
 have i0:lix 1 (.slice H.length 0 2 2 true 1) (.int .i64 0)=some (.ptr H.length 0):=rfl;have i1:lix 1 (.slice H.length 0 2 2 true 1) (.int .i64 1)=some (.ptr H.length 1):=rfl;have c0:(bs.getD 0 0).toNat<256:=(bs.getD 0 0).toNat_lt;have c1:(bs.getD 1 0).toNat<256:=(bs.getD 1 0).toNat_lt;have hnn:lbin .rem (.int .i64 ((bs.getD 0 0).toNat:Int)) (.int .i64 64)=some (.int .i64 (((bs.getD 0 0).toNat % 64:Nat):Int)):=by
  rw[lbin_rem (by omega),Int.tmod_eq_emod_of_nonneg (by omega)];rfl
 have hadd:lbin .add (.int .i64 1) (.int .i64 (((bs.getD 0 0).toNat % 64:Nat):Int))=some (.int .i64 ((scN bs:Nat):Int)):=by
  rw[lbin_add,wrap_i64 (by omega) (by omega)];unfold scN
  congr 2
 have hsn:0<scN bs/\scN bs<=64:=by unfold scN;omega
 have w0:IntKind.wrap .i64 ((bs.getD 0 0).toNat:Int)=((bs.getD 0 0).toNat:Int):=wrap_i64 (by omega) (by omega);rw[i0,ob_some,x0,ob_some,lcvt_int,ob_some,w0,hnn,ob_some,hadd,ob_some,mkS_nat (by omega) (by omega),ob_some];simp only;unfold scriptDecodeC5S;have k3:Kp H2 (H2++[IObj.row (zrep (scN bs) [.nilSlice]) false]):=Kp.push _ _;have x1':lload1 (H2++[IObj.row (zrep (scN bs) [.nilSlice]) false]) (.ptr H.length 1)=some (.int .u8 ((scM bs:Nat):Int)):=by rw[k3.ld1 (by omega)];exact x1
 have r3:(H2++[IObj.row (zrep (scN bs) [.nilSlice]) false])[H2.length]? =some (.row (List.replicate (scN bs) .nilSlice) false):=by rw[newRow,zrep_nil]
 rw[i1,ob_some,x1',ob_some];have len3:(H2++[IObj.row (zrep (scN bs) [.nilSlice]) false]).length=H2.length+1:=by simp
 generalize H2++[IObj.row (zrep (scN bs) [.nilSlice]) false]=H3 at *;have hm:scM bs<256:=c1;rw[mkS_nat (by omega) (by omega),ob_some];simp only;unfold scriptDecodeC4S;have k4:Kp H3 (H3++[IObj.row (zrep (scM bs) [.int .u8 0]) false]):=Kp.push _ _;have r4:(H3++[IObj.row (zrep (scM bs) [.int .u8 0]) false])[H3.length]? =some (.row (bytes (List.replicate (scM bs) 0)) false):=by rw[newRow,zrep_zero]
 have b4:=(b3.keep' l3 k3).keep' (low_mono l3 k3.2) k4;rw[cpy_pad r4 b4,ob_some];simp only;have k5:Kp H3 ((H3++[IObj.row (zrep (scM bs) [.int .u8 0]) false]).set H3.length (.row (bytes (padN (scM bs) (bs.drop 2))) false)):=Keep.trans k4 (Keep.set _ _ (Nat.le_refl _));have r5:=setAt (o':=IObj.row (bytes (padN (scM bs) (bs.drop 2))) false) r4;have len5:((H3++[IObj.row (zrep (scM bs) [.int .u8 0]) false]).set H3.length (.row (bytes (padN (scM bs) (bs.drop 2))) false)).length=H3.length+1:=by simp
 generalize (H3++[IObj.row (zrep (scM bs) [.int .u8 0]) false]).set H3.length (.row (bytes (padN (scM bs) (bs.drop 2))) false)=H5 at *;have b5:=(b3.keep' l3 k3).keep' (low_mono l3 k3.2) k5;have l5:low H5.length v3:=low_mono l3 (Nat.le_trans k3.2 k5.2);have rT:=k5.get r3;unfold scriptDecodeC3S scriptDecodeC2S;obtain⟨v6,e6,b6,l6,o6⟩:=b5.cut l5 (k:=min (bs.drop 2).length (scM bs)) (Nat.min_le_left _ _);have hdrop2:(bs.drop 2).drop (min (bs.drop 2).length (scM bs))=(bs.drop 2).drop (scM bs):=by
  rcases Nat.le_total (bs.drop 2).length (scM bs)with h | h
  ·rw[Nat.min_eq_left h,List.drop_of_length_le (Nat.le_refl _),List.drop_of_length_le h]
  ·rw[Nat.min_eq_right h]
 rw[hdrop2]at b6;rw[b5.len,ob_some,ob_some,e6,ob_some,hD H5 v6 _ o6 l6 b6];have kHH:Kp H H5:=Kp.tr k2 (Kp.tr k3 k5);have hll:(scL bs).length<=200:=dec_len 200 _;have hp5:∀K:Heap,Kp H5 K->K[H3.length]? =some (.row (bytes (scP bs)) false):=fun K k=>k.get r5;show Wp (ob (if scL bs=[]then some (IV.nilSlice,H5)else some (IV.slice H5.length 0 (scL bs).length (scL bs).length false 7,H5++[.row (flat7 (scL bs)) false])) _) _;by_cases h0:scL bs=[]
 ·rw[if_pos h0,ob_some,llen_nil,ob_some];unfold scriptDecodeC1S;obtain⟨N',rfl⟩:∃j,N=j+1:=⟨N - 1,by omega⟩;rw[scriptDecodeC0S,lbin_lss,ob_some,decide_eq_false (by omega),cnd_false];refine⟨_,rfl,_,H3.length,rfl,?_,by have:=k2.2;omega,hp5 _ (Kp.refl _),kHH⟩;rw[h0];exact(Thr.start rT).tv (deal_len _ _)
 ·rw[if_neg h0,ob_some,llen_slice,ob_some];unfold scriptDecodeC1S;have k6:Kp H5 (H5++[IObj.row (flat7 (scL bs)) false]):=Kp.push _ _;have r6:(H5++[IObj.row (flat7 (scL bs)) false])[H5.length]? =some (.row (flat7 (scL bs)) false):=newRow;have len6:(H5++[IObj.row (flat7 (scL bs)) false]).length=H5.length+1:=by simp
  have rT6:=k6.get rT;generalize H5++[IObj.row (flat7 (scL bs)) false]=H6 at *;have hlt2:H2.length<H5.length:=(ges rT).1;refine scd_loop (q:=H2.length) (r:=H5.length) (B:=H6.length) (K:=H6) hsn.1 hsn.2 hll (by omega) (by omega) r6 (fun K own hT hF hKK=> ?_) _ 0 N H6 _ (Nat.zero_add _) (by omega) (by rw[List.take_zero];exact Thr.start rT6) (fun _ _ _=>rfl) (Nat.le_refl _);refine⟨_,rfl,_,H3.length,rfl,hT.tv (deal_len _ _),by have:=k2.2;omega,?_,?_⟩
  ·rw[hF _ (by omega) (by omega)];exact hp5 _ k6
  ·refine⟨fun i hi=> ?_,Nat.le_trans (Nat.le_trans kHH.2 k6.2) hKK⟩;have:=k2.2;rw[hF i (by omega) (by omega)];exact(k6.1 i (by omega)).trans (kHH.1 i hi)
end
end Go.Shade
namespace Go.Shade
def veneerlaw20ScriptAheadC0S (cal:CB)(O:Oracle)(N:Nat)(f0 f1 f2:FuncId)(gE2:IV->IV->IV->IV->Heap->OH):Nat->IV->IV->IV->IV->IV->IV->IV->Heap->OH
 | 0,_,_,_,_,_,_,_,_=>none
 | n+1,v5,v9,v11,v58,v59,v77,v78,H =>ob (lbin .lss v78 v77) fun t1 =>cnd t1
  (ob (lix 1 v9 v11) fun t2 =>ob (lload1 H t2) fun t3 =>ob (lix 7 t3 v78) fun t4 =>ob (lloadn H 7 t4) fun t5 =>ob (lix 1 v5 v11) fun t6 =>ob (lload1 H t6) fun t7 =>ob (lix 7 t7 v78) fun t8 =>ob (lloadn H 7 t8) fun t9 =>ob (leqv true (leq (.struct [(0,.int),(1,.int),(2,.int),(3,.int),(4,.int),(5,.str),(6,.str)]) t5 t9)) fun t10 =>cnd t10
  (some ((.bool false),H))
  (ob (lbin .add v78 (.int .i64 1)) fun t11 =>
   veneerlaw20ScriptAheadC0S cal O N f0 f1 f2 gE2 n v5 v9 v11 v58 v59 v77 t11 H))
  (gE2 v5 v9 v58 v59 H)
def veneerlaw20ScriptAheadC1S (cal:CB)(O:Oracle)(N:Nat)(f0 f1 f2:FuncId)(gN:IV->IV->IV->IV->Heap->OH)(v5 v9 v11 v58 v59 v77 v78:IV)(H:Heap):OH :=
  veneerlaw20ScriptAheadC0S cal O N f0 f1 f2 (fun v5 v9 v58 v59 H=>gN v5 v9 v58 v59 H) N v5 v9 v11 v58 v59 v77 v78 H
def veneerlaw20ScriptAheadC2S (cal:CB)(O:Oracle)(N:Nat)(f0 f1 f2:FuncId)(gN:IV->IV->IV->IV->Heap->OH)(v5 v9 v11 v58 v59:IV)(H:Heap):OH :=
 ob (lix 1 v5 v11) fun t1 =>ob (lload1 H t1) fun t2 =>ob (llen H .slice t2) fun t3 =>
  veneerlaw20ScriptAheadC1S cal O N f0 f1 f2 (fun v5 v9 v58 v59 H=>gN v5 v9 v58 v59 H) v5 v9 v11 v58 v59 t3 (.int .i64 0) H
def veneerlaw20ScriptAheadC3S (cal:CB)(O:Oracle)(N:Nat)(f0 f1 f2:FuncId)(gN:IV->IV->IV->IV->Heap->OH)(v5 v9 v11 v58 v59:IV)(H:Heap):OH :=
 ob (lix 1 v9 v11) fun t1 =>ob (lload1 H t1) fun t2 =>ob (llen H .slice t2) fun t3 =>ob (lix 1 v5 v11) fun t4 =>ob (lload1 H t4) fun t5 =>ob (llen H .slice t5) fun t6 =>ob (lbin .lss t3 t6) fun t7 =>cnd t7
 (some ((.bool false),H))
  (veneerlaw20ScriptAheadC2S cal O N f0 f1 f2 (fun v5 v9 v58 v59 H=>gN v5 v9 v58 v59 H) v5 v9 v11 v58 v59 H)
def veneerlaw20ScriptAheadC4S (cal:CB)(O:Oracle)(N:Nat)(f0 f1 f2:FuncId)(gN:IV->IV->IV->IV->Heap->OH)(v5 v9 v58 v59:IV)(H:Heap):OH :=
  veneerlaw20ScriptAheadC3S cal O N f0 f1 f2 (fun v5 v9 v58 v59 H=>gN v5 v9 v58 v59 H) v5 v9 v59 v58 v59 H
def veneerlaw20ScriptAheadC5S (cal:CB)(O:Oracle)(N:Nat)(f0 f1 f2:FuncId)(gN:IV->IV->IV->IV->Heap->OH)(v5 v9 v58 v59:IV)(H:Heap):OH :=
  veneerlaw20ScriptAheadC4S cal O N f0 f1 f2 (fun v5 v9 v58 v59 H=>gN v5 v9 v58 v59 H) v5 v9 v58 v59 H
def veneerlaw20ScriptAheadC6S (cal:CB)(O:Oracle)(N:Nat)(f0 f1 f2:FuncId)(gN:IV->IV->IV->IV->Heap->OH)(v5 v9 v58 v59:IV)(H:Heap):OH :=
  veneerlaw20ScriptAheadC5S cal O N f0 f1 f2 (fun v5 v9 v58 v59 H=>ob (lbin .add v59 (.int .i64 1)) fun t1 =>
 gN v5 v9 v58 t1 H) v5 v9 v58 v59 H
def veneerlaw20ScriptAheadC7S (cal:CB)(O:Oracle)(N:Nat)(f0 f1 f2:FuncId)(gE0:Heap->OH)(gN:IV->IV->IV->IV->Heap->OH)(v5 v9 v58 v59 v60:IV)(H:Heap):OH :=
 cnd v60
  (veneerlaw20ScriptAheadC6S cal O N f0 f1 f2 (fun v5 v9 v58 v59 H=>gN v5 v9 v58 v59 H) v5 v9 v58 v59 H)
 (gE0 H)
def veneerlaw20ScriptAheadC8S (cal:CB)(O:Oracle)(N:Nat)(f0 f1 f2:FuncId)(gE0:Heap->OH)(gN:IV->IV->IV->IV->Heap->OH)(v5 v9 v58 v59:IV)(H:Heap):OH :=
 ob (lbin .lss v59 v58) fun t1 =>
  veneerlaw20ScriptAheadC7S cal O N f0 f1 f2 (fun H=>gE0 H) (fun v5 v9 v58 v59 H=>gN v5 v9 v58 v59 H) v5 v9 v58 v59 t1 H
def veneerlaw20ScriptAheadC9S (cal:CB)(O:Oracle)(N:Nat)(f0 f1 f2:FuncId)(gE0:Heap->OH):Nat->IV->IV->IV->IV->Heap->OH
 | 0,_,_,_,_,_=>none
 | n+1,v5,v9,v58,v59,H =>
  veneerlaw20ScriptAheadC8S cal O N f0 f1 f2 (fun H=>gE0 H) (fun v5 v9 v58 v59 H=>veneerlaw20ScriptAheadC9S cal O N f0 f1 f2 gE0 n v5 v9 v58 v59 H) v5 v9 v58 v59 H
def X11K0 :LC:=.seq (.reg [ qO 33 (.bin .lss (.t 32) (.t 31))]) (.seq (.cond (.t 33) .skip (.exit 0)) (.seq (.block 1 (.seq (.reg [ qM 34 32,qM 6 34]) (.seq (.reg [ qM 35 5,qM 36 3,qM 37 6,qO 38 (.ix 1 (.t 36) (.t 37)),qO 39 (.ld1 (.t 38)),qO 40 (.len .slice (.t 39)),qO 41 (.bin .add (.t 35) (.t 40)),qM 5 41]) (.seq (.drw [ qM 42 3,qM 43 6,qO 44 (.ix 1 (.t 42) (.t 43)),qO 45 (.ld1 (.t 44)),qO 46 (.len .slice (.t 45)),qM 47 3,qO 48 (.ix 1 (.t 47) (k6 0)),qO 49 (.ld1 (.t 48)),qO 50 (.len .slice (.t 49)),qO 51 (.bin .gtr (.t 46) (.t 50)),qM 52 51,⟨(some 53),(.mv (.t 3)),(some (52,false))⟩,⟨(some 54),(.mv (.t 6)),(some (52,false))⟩,⟨(some 55),(.ix 1 (.t 53) (.t 54)),(some (52,false))⟩,⟨(some 56),(.ld1 (.t 55)),(some (52,false))⟩,⟨(some 57),(.len .slice (.t 56)),(some (52,false))⟩,⟨(some 58),(.bin .add (.t 57) (k6 1)),(some (52,false))⟩,⟨(some 59),(.mv (.t 3)),(some (52,false))⟩,⟨(some 60),(.ix 1 (.t 59) (k6 0)),(some (52,false))⟩,⟨(some 61),(.ld1 (.t 60)),(some (52,false))⟩,⟨(some 62),(.len .slice (.t 61)),(some (52,false))⟩,⟨(some 63),(.bin .lss (.t 58) (.t 62)),(some (52,false))⟩,qO 64 (.pick (.t 52) (.k (.bool true)) (.t 63)),qM 65 64,⟨(some 66),(.mv (.t 6)),(some (65,false))⟩,⟨(some 67),(.bin .gtr (.t 66) (k6 0)),(some (65,false))⟩,⟨(some 68),(.mv (.t 67)),(some (65,false))⟩,⟨(some 69),(.mv (.t 3)),(some (68,true))⟩,⟨(some 70),(.mv (.t 6)),(some (68,true))⟩,⟨(some 71),(.ix 1 (.t 69) (.t 70)),(some (68,true))⟩,⟨(some 72),(.ld1 (.t 71)),(some (68,true))⟩,⟨(some 73),(.len .slice (.t 72)),(some (68,true))⟩,⟨(some 74),(.mv (.t 3)),(some (68,true))⟩,⟨(some 75),(.mv (.t 6)),(some (68,true))⟩,⟨(some 76),(.bin .sub (.t 75) (k6 1)),(some (68,true))⟩,⟨(some 77),(.ix 1 (.t 74) (.t 76)),(some (68,true))⟩,⟨(some 78),(.ld1 (.t 77)),(some (68,true))⟩,⟨(some 79),(.len .slice (.t 78)),(some (68,true))⟩,⟨(some 80),(.bin .gtr (.t 73) (.t 79)),(some (68,true))⟩,⟨(some 81),(.pick (.t 68) (.t 80) (.k (.bool false))),(some (65,false))⟩,qO 82 (.pick (.t 65) (.k (.bool true)) (.t 81))] []) (.cond (.t 82) (.seq (.reg [ qO 2 (.mv (.k (.bool false)))]) .ret) .skip))))) (.reg [ qO 83 (.bin .add (.t 32) (k6 1)),qM 32 83])))
def veneerlaw20ScriptDealsC0 (f0 f1:FuncId):LC:=.loop X11K0
def veneerlaw20ScriptDealsC1 (f0 f1:FuncId):LC:=.block 0 (veneerlaw20ScriptDealsC0 f0 f1)
def X11K6 :LC:=.reg [ qM 30 3,qO 31 (.len .slice (.t 30)),qO 32 (.mv (k6 0))]
def veneerlaw20ScriptDealsC2 (f0 f1:FuncId):LC:=.seq X11K6 (veneerlaw20ScriptDealsC1 f0 f1)
def X11K5 :LC:=.seq (.reg [ qM 84 5,qO 85 (.bin .leq (.t 84) (k6 200)),qM 2 85]) .ret
def veneerlaw20ScriptDealsC3 (f0 f1:FuncId):LC:=.seq (veneerlaw20ScriptDealsC2 f0 f1) X11K5
def veneerlaw20ScriptDealsC4 (f0 f1:FuncId):LC:=.seq (.reg [ qO 5 (.mv (k6 0))]) (veneerlaw20ScriptDealsC3 f0 f1)
def X11K1 :LC:=.seq (.reg [ qM 17 3,qO 18 (.len .slice (.t 17)),qO 19 (.bin .lss (.t 18) (k6 1)),qM 20 19,⟨(some 21),(.mv (.t 3)),(some (20,false))⟩,⟨(some 22),(.len .slice (.t 21)),(some (20,false))⟩,⟨(some 23),(.bin .gtr (.t 22) (k6 64)),(some (20,false))⟩,qO 24 (.pick (.t 20) (.k (.bool true)) (.t 23)),qM 25 24,⟨(some 26),(.mv (.t 4)),(some (25,false))⟩,⟨(some 27),(.len .slice (.t 26)),(some (25,false))⟩,⟨(some 28),(.bin .gtr (.t 27) (k6 255)),(some (25,false))⟩,qO 29 (.pick (.t 25) (.k (.bool true)) (.t 28))]) (.cond (.t 29) (.seq (.reg [ qO 2 (.mv (.k (.bool false)))]) .ret) .skip)
def veneerlaw20ScriptDealsC5 (f0 f1:FuncId):LC:=.seq X11K1 (veneerlaw20ScriptDealsC4 f0 f1)
def X11K2 (f0:FuncId):LC:=.reg [ qM 13 0,qO 14 (.callF f0 [(.t 13)]),qM 12 14,qO 15 (.ext (.t 12) 0),qO 16 (.ext (.t 12) 1),qM 3 15,qM 4 16]
def veneerlaw20ScriptDealsC6 (f0 f1:FuncId):LC:=.seq (X11K2 f1) (veneerlaw20ScriptDealsC5 f0 f1)
def X11K3 :LC:=.seq (.reg [ qM 9 0,qO 10 (.len .slice (.t 9)),qO 11 (.bin .gtr (.t 10) (k6 16384))]) (.cond (.t 11) (.seq (.reg [ qO 2 (.mv (.k (.bool true)))]) .ret) .skip)
def veneerlaw20ScriptDealsC7 (f0 f1:FuncId):LC:=.seq X11K3 (veneerlaw20ScriptDealsC6 f0 f1)
def X11K4 (f0:FuncId):LC:=.seq (.reg [ qO 7 (.callF f0 []),qO 8 (.un .not (.t 7))]) (.cond (.t 8) (.seq (.reg [ qO 2 (.mv (.k (.bool false)))]) .ret) .skip)
def veneerlaw20ScriptDealsC8 (f0 f1:FuncId):LC:=.seq (X11K4 f0) (veneerlaw20ScriptDealsC7 f0 f1)
def veneerlaw20ScriptDealsC9 (f0 f1:FuncId):LC:=.seq (.reg [ qO 2 (.mv (.k (.bool false)))]) (veneerlaw20ScriptDealsC8 f0 f1)
def veneerlaw20ScriptDealsC0S (cal:CB)(O:Oracle)(N:Nat)(f0 f1:FuncId)(gE0:IV->Heap->OH):Nat->IV->IV->IV->IV->Heap->OH
 | 0,_,_,_,_,_=>none
 | n+1,v3,v5,v31,v32,H =>ob (lbin .lss v32 v31) fun t1 =>cnd t1
  (ob (lix 1 v3 v32) fun t2 =>ob (lload1 H t2) fun t3 =>ob (llen H .slice t3) fun t4 =>ob (lbin .add v5 t4) fun t5 =>ob (lix 1 v3 v32) fun t6 =>ob (lload1 H t6) fun t7 =>ob (llen H .slice t7) fun t8 =>ob (lix 1 v3 (.int .i64 0)) fun t9 =>ob (lload1 H t9) fun t10 =>ob (llen H .slice t10) fun t11 =>ob (lbin .gtr t8 t11) fun t12 =>ob (gq (isB t12 false) (some v3)) fun t13 =>ob (gq (isB t12 false) (some v32)) fun t14 =>ob (gq (isB t12 false) (lix 1 t13 t14)) fun t15 =>ob (gq (isB t12 false) (lload1 H t15)) fun t16 =>ob (gq (isB t12 false) (llen H .slice t16)) fun t17 =>ob (gq (isB t12 false) (lbin .add t17 (.int .i64 1))) fun t18 =>ob (gq (isB t12 false) (some v3)) fun t19 =>ob (gq (isB t12 false) (lix 1 t19 (.int .i64 0))) fun t20 =>ob (gq (isB t12 false) (lload1 H t20)) fun t21 =>ob (gq (isB t12 false) (llen H .slice t21)) fun t22 =>ob (gq (isB t12 false) (lbin .lss t18 t22)) fun t23 =>ob (lpick t12 (.bool true) t23) fun t24 =>ob (gq (isB t24 false) (some v32)) fun t25 =>ob (gq (isB t24 false) (lbin .gtr t25 (.int .i64 0))) fun t26 =>ob (gq (isB t24 false) (some t26)) fun t27 =>ob (gq (isB t27 true) (some v3)) fun t28 =>ob (gq (isB t27 true) (some v32)) fun t29 =>ob (gq (isB t27 true) (lix 1 t28 t29)) fun t30 =>ob (gq (isB t27 true) (lload1 H t30)) fun t31 =>ob (gq (isB t27 true) (llen H .slice t31)) fun t32 =>ob (gq (isB t27 true) (some v3)) fun t33 =>ob (gq (isB t27 true) (some v32)) fun t34 =>ob (gq (isB t27 true) (lbin .sub t34 (.int .i64 1))) fun t35 =>ob (gq (isB t27 true) (lix 1 t33 t35)) fun t36 =>ob (gq (isB t27 true) (lload1 H t36)) fun t37 =>ob (gq (isB t27 true) (llen H .slice t37)) fun t38 =>ob (gq (isB t27 true) (lbin .gtr t32 t38)) fun t39 =>ob (gq (isB t24 false) (lpick t27 t39 (.bool false))) fun t40 =>ob (lpick t24 (.bool true) t40) fun t41 =>cnd t41
  (some ((.bool false),H))
  (ob (lbin .add v32 (.int .i64 1)) fun t42 =>
   veneerlaw20ScriptDealsC0S cal O N f0 f1 gE0 n v3 t5 v31 t42 H))
  (gE0 v5 H)
theorem veneerlaw20ScriptDealsC0Eq (cal:CB)(O:Oracle)(N:Nat)(f0 f1:FuncId){k:KT (IV×Heap)}(gE0:IV->Heap->OH)(hgE0:∀E H,k (.exit 0) E H=gE0 (lk E 5) H)(hR:∀E H,k .ret E H=resK [(.tmp 2)] [] E H):∀(n:Nat) (E:Sg) (H:Heap),itK (lxK cal O N X11K0) n E H k=veneerlaw20ScriptDealsC0S cal O N f0 f1 gE0 n (lk E 3) (lk E 5) (lk E 31) (lk E 32) H:=by
 have hk:k=(kE 0 (fun E H=>gE0 (lk E 5) H) (kR (resK [(.tmp 2)] []) k)):=(kE_mk hgE0 (kR_mk hR rfl));intro n
 induction n with
 | zero=>intro E H;rfl
 | succ n ih =>
  intro E H;rw[itK_succ,seqK_mk (g:=fun E H=>veneerlaw20ScriptDealsC0S cal O N f0 f1 gE0 n (lk E 3) (lk E 5) (lk E 31) (lk E 32) H) ih,hk];kernel_rfl
def veneerlaw20ScriptDealsC1S (cal:CB)(O:Oracle)(N:Nat)(f0 f1:FuncId)(gN:IV->Heap->OH)(v3 v5 v31 v32:IV)(H:Heap):OH :=
  veneerlaw20ScriptDealsC0S cal O N f0 f1 (fun v5 H=>gN v5 H) N v3 v5 v31 v32 H
theorem veneerlaw20ScriptDealsC1Eq (cal:CB)(O:Oracle)(N:Nat)(f0 f1:FuncId){k:KT (IV×Heap)}(gN:IV->Heap->OH)(hgN:∀E H,k .normal E H=gN (lk E 5) H)(hR:∀E H,k .ret E H=resK [(.tmp 2)] [] E H):∀(E:Sg) (H:Heap),lxK cal O N (veneerlaw20ScriptDealsC1 f0 f1) E H k=veneerlaw20ScriptDealsC1S cal O N f0 f1 gN (lk E 3) (lk E 5) (lk E 31) (lk E 32) H:=by
 have hk:k=(kN (fun E H=>gN (lk E 5) H) (kR (resK [(.tmp 2)] []) k)):=(kN_mk hgN (kR_mk hR rfl));intro E H;rw[hk];show lxK cal O N (veneerlaw20ScriptDealsC0 f0 f1) E H (blockK 0 (kN (fun E H=>gN (lk E 5) H) (kR (resK [(.tmp 2)] []) k)))=_;exact(veneerlaw20ScriptDealsC0Eq cal O N f0 f1 (k:=(blockK 0 (kN (fun E H=>gN (lk E 5) H) (kR (resK [(.tmp 2)] []) k)))) gN (fun _ _=>by kernel_rfl) (fun _ _=>by kernel_rfl) N E H).trans (by kernel_rfl)
def veneerlaw20ScriptDealsC2S (cal:CB)(O:Oracle)(N:Nat)(f0 f1:FuncId)(gN:IV->Heap->OH)(v3 v5:IV)(H:Heap):OH :=
 ob (llen H .slice v3) fun t1 =>
  veneerlaw20ScriptDealsC1S cal O N f0 f1 (fun v5 H=>gN v5 H) v3 v5 t1 (.int .i64 0) H
theorem veneerlaw20ScriptDealsC2Eq (cal:CB)(O:Oracle)(N:Nat)(f0 f1:FuncId){k:KT (IV×Heap)}(gN:IV->Heap->OH)(hgN:∀E H,k .normal E H=gN (lk E 5) H)(hR:∀E H,k .ret E H=resK [(.tmp 2)] [] E H):∀(E:Sg) (H:Heap),lxK cal O N (veneerlaw20ScriptDealsC2 f0 f1) E H k=veneerlaw20ScriptDealsC2S cal O N f0 f1 gN (lk E 3) (lk E 5) H:=by
 have hk:k=(kN (fun E H=>gN (lk E 5) H) (kR (resK [(.tmp 2)] []) k)):=(kN_mk hgN (kR_mk hR rfl));intro E H;rw[hk];show lxK cal O N X11K6 E H (seqK (lxK cal O N (veneerlaw20ScriptDealsC1 f0 f1)) (kN (fun E H=>gN (lk E 5) H) (kR (resK [(.tmp 2)] []) k)))=_;rw[seqK_mk (g:=fun E H=>veneerlaw20ScriptDealsC1S cal O N f0 f1 gN (lk E 3) (lk E 5) (lk E 31) (lk E 32) H) (veneerlaw20ScriptDealsC1Eq cal O N f0 f1 (k:=(kN (fun E H=>gN (lk E 5) H) (kR (resK [(.tmp 2)] []) k))) gN (fun _ _=>by kernel_rfl) (fun _ _=>by kernel_rfl))];kernel_rfl
def veneerlaw20ScriptDealsC3S (cal:CB)(O:Oracle)(N:Nat)(f0 f1:FuncId)(v3 v5:IV)(H:Heap):OH :=
  veneerlaw20ScriptDealsC2S cal O N f0 f1 (fun v5 H=>ob (lbin .leq v5 (.int .i64 200)) fun t1 =>some (t1,H)) v3 v5 H
theorem veneerlaw20ScriptDealsC3Eq (cal:CB)(O:Oracle)(N:Nat)(f0 f1:FuncId){k:KT (IV×Heap)}(hR:∀E H,k .ret E H=resK [(.tmp 2)] [] E H):∀(E:Sg) (H:Heap),lxK cal O N (veneerlaw20ScriptDealsC3 f0 f1) E H k=veneerlaw20ScriptDealsC3S cal O N f0 f1 (lk E 3) (lk E 5) H:=by
 have hk:k=(kR (resK [(.tmp 2)] []) k):=(kR_mk hR rfl);intro E H;rw[hk];show lxK cal O N (veneerlaw20ScriptDealsC2 f0 f1) E H (seqK (lxK cal O N X11K5) (kR (resK [(.tmp 2)] []) k))=_;exact(veneerlaw20ScriptDealsC2Eq cal O N f0 f1 (k:=(seqK (lxK cal O N X11K5) (kR (resK [(.tmp 2)] []) k))) (fun v5 H=>ob (lbin .leq v5 (.int .i64 200)) fun t1 =>some (t1,H)) (fun _ _=>by kernel_rfl) (fun _ _=>by kernel_rfl) E H).trans (by kernel_rfl)
def veneerlaw20ScriptDealsC4S (cal:CB)(O:Oracle)(N:Nat)(f0 f1:FuncId)(v3:IV)(H:Heap):OH :=
  veneerlaw20ScriptDealsC3S cal O N f0 f1 v3 (.int .i64 0) H
theorem veneerlaw20ScriptDealsC4Eq (cal:CB)(O:Oracle)(N:Nat)(f0 f1:FuncId){k:KT (IV×Heap)}(hR:∀E H,k .ret E H=resK [(.tmp 2)] [] E H):∀(E:Sg) (H:Heap),lxK cal O N (veneerlaw20ScriptDealsC4 f0 f1) E H k=veneerlaw20ScriptDealsC4S cal O N f0 f1 (lk E 3) H:=by
 have hk:k=(kR (resK [(.tmp 2)] []) k):=(kR_mk hR rfl);intro E H;rw[hk];show lxK cal O N (.reg [ qO 5 (.mv (k6 0))]) E H (seqK (lxK cal O N (veneerlaw20ScriptDealsC3 f0 f1)) (kR (resK [(.tmp 2)] []) k))=_;rw[seqK_mk (g:=fun E H=>veneerlaw20ScriptDealsC3S cal O N f0 f1 (lk E 3) (lk E 5) H) (veneerlaw20ScriptDealsC3Eq cal O N f0 f1 (k:=(kR (resK [(.tmp 2)] []) k)) (fun _ _=>by kernel_rfl))];kernel_rfl
def veneerlaw20ScriptDealsC5S (cal:CB)(O:Oracle)(N:Nat)(f0 f1:FuncId)(v3 v4:IV)(H:Heap):OH :=
 ob (llen H .slice v3) fun t1 =>ob (lbin .lss t1 (.int .i64 1)) fun t2 =>ob (gq (isB t2 false) (some v3)) fun t3 =>ob (gq (isB t2 false) (llen H .slice t3)) fun t4 =>ob (gq (isB t2 false) (lbin .gtr t4 (.int .i64 64))) fun t5 =>ob (lpick t2 (.bool true) t5) fun t6 =>ob (gq (isB t6 false) (some v4)) fun t7 =>ob (gq (isB t6 false) (llen H .slice t7)) fun t8 =>ob (gq (isB t6 false) (lbin .gtr t8 (.int .i64 255))) fun t9 =>ob (lpick t6 (.bool true) t9) fun t10 =>cnd t10
 (some ((.bool false),H))
  (veneerlaw20ScriptDealsC4S cal O N f0 f1 v3 H)
theorem veneerlaw20ScriptDealsC5Eq (cal:CB)(O:Oracle)(N:Nat)(f0 f1:FuncId){k:KT (IV×Heap)}(hR:∀E H,k .ret E H=resK [(.tmp 2)] [] E H):∀(E:Sg) (H:Heap),lxK cal O N (veneerlaw20ScriptDealsC5 f0 f1) E H k=veneerlaw20ScriptDealsC5S cal O N f0 f1 (lk E 3) (lk E 4) H:=by
 have hk:k=(kR (resK [(.tmp 2)] []) k):=(kR_mk hR rfl);intro E H;rw[hk];show lxK cal O N X11K1 E H (seqK (lxK cal O N (veneerlaw20ScriptDealsC4 f0 f1)) (kR (resK [(.tmp 2)] []) k))=_;rw[seqK_mk (g:=fun E H=>veneerlaw20ScriptDealsC4S cal O N f0 f1 (lk E 3) H) (veneerlaw20ScriptDealsC4Eq cal O N f0 f1 (k:=(kR (resK [(.tmp 2)] []) k)) (fun _ _=>by kernel_rfl))];kernel_rfl
def veneerlaw20ScriptDealsC6S (cal:CB)(O:Oracle)(N:Nat)(f0 f1:FuncId)(v0:IV)(H:Heap):OH :=
 ob (O f1 [v0] H) fun r1 =>ob (iextract r1.1 0) fun t2 =>ob (iextract r1.1 1) fun t3 =>
  veneerlaw20ScriptDealsC5S cal O N f0 f1 t2 t3 r1.2
theorem veneerlaw20ScriptDealsC6Eq (cal:CB)(O:Oracle)(N:Nat)(f0 f1:FuncId){k:KT (IV×Heap)}(hR:∀E H,k .ret E H=resK [(.tmp 2)] [] E H):∀(E:Sg) (H:Heap),lxK cal O N (veneerlaw20ScriptDealsC6 f0 f1) E H k=veneerlaw20ScriptDealsC6S cal O N f0 f1 (lk E 0) H:=by
 have hk:k=(kR (resK [(.tmp 2)] []) k):=(kR_mk hR rfl);intro E H;rw[hk];show lxK cal O N (X11K2 f1) E H (seqK (lxK cal O N (veneerlaw20ScriptDealsC5 f0 f1)) (kR (resK [(.tmp 2)] []) k))=_;rw[seqK_mk (g:=fun E H=>veneerlaw20ScriptDealsC5S cal O N f0 f1 (lk E 3) (lk E 4) H) (veneerlaw20ScriptDealsC5Eq cal O N f0 f1 (k:=(kR (resK [(.tmp 2)] []) k)) (fun _ _=>by kernel_rfl))];kernel_rfl
def veneerlaw20ScriptDealsC7S (cal:CB)(O:Oracle)(N:Nat)(f0 f1:FuncId)(v0:IV)(H:Heap):OH :=
 ob (llen H .slice v0) fun t1 =>ob (lbin .gtr t1 (.int .i64 16384)) fun t2 =>cnd t2
 (some ((.bool true),H))
  (veneerlaw20ScriptDealsC6S cal O N f0 f1 v0 H)
theorem veneerlaw20ScriptDealsC7Eq (cal:CB)(O:Oracle)(N:Nat)(f0 f1:FuncId){k:KT (IV×Heap)}(hR:∀E H,k .ret E H=resK [(.tmp 2)] [] E H):∀(E:Sg) (H:Heap),lxK cal O N (veneerlaw20ScriptDealsC7 f0 f1) E H k=veneerlaw20ScriptDealsC7S cal O N f0 f1 (lk E 0) H:=by
 have hk:k=(kR (resK [(.tmp 2)] []) k):=(kR_mk hR rfl);intro E H;rw[hk];show lxK cal O N X11K3 E H (seqK (lxK cal O N (veneerlaw20ScriptDealsC6 f0 f1)) (kR (resK [(.tmp 2)] []) k))=_;rw[seqK_mk (g:=fun E H=>veneerlaw20ScriptDealsC6S cal O N f0 f1 (lk E 0) H) (veneerlaw20ScriptDealsC6Eq cal O N f0 f1 (k:=(kR (resK [(.tmp 2)] []) k)) (fun _ _=>by kernel_rfl))];kernel_rfl
def veneerlaw20ScriptDealsC8S (cal:CB)(O:Oracle)(N:Nat)(f0 f1:FuncId)(v0:IV)(H:Heap):OH :=
 ob (O f0 [] H) fun r1 =>ob (iun .not r1.1) fun t2 =>cnd t2
 (some ((.bool false),r1.2))
  (veneerlaw20ScriptDealsC7S cal O N f0 f1 v0 r1.2)
theorem veneerlaw20ScriptDealsC8Eq (cal:CB)(O:Oracle)(N:Nat)(f0 f1:FuncId){k:KT (IV×Heap)}(hR:∀E H,k .ret E H=resK [(.tmp 2)] [] E H):∀(E:Sg) (H:Heap),lxK cal O N (veneerlaw20ScriptDealsC8 f0 f1) E H k=veneerlaw20ScriptDealsC8S cal O N f0 f1 (lk E 0) H:=by
 have hk:k=(kR (resK [(.tmp 2)] []) k):=(kR_mk hR rfl);intro E H;rw[hk];show lxK cal O N (X11K4 f0) E H (seqK (lxK cal O N (veneerlaw20ScriptDealsC7 f0 f1)) (kR (resK [(.tmp 2)] []) k))=_;rw[seqK_mk (g:=fun E H=>veneerlaw20ScriptDealsC7S cal O N f0 f1 (lk E 0) H) (veneerlaw20ScriptDealsC7Eq cal O N f0 f1 (k:=(kR (resK [(.tmp 2)] []) k)) (fun _ _=>by kernel_rfl))];kernel_rfl
def veneerlaw20ScriptDealsC9S (cal:CB)(O:Oracle)(N:Nat)(f0 f1:FuncId)(v0:IV)(H:Heap):OH :=
  veneerlaw20ScriptDealsC8S cal O N f0 f1 v0 H
theorem veneerlaw20ScriptDealsC9Eq (cal:CB)(O:Oracle)(N:Nat)(f0 f1:FuncId){k:KT (IV×Heap)}(hR:∀E H,k .ret E H=resK [(.tmp 2)] [] E H):∀(E:Sg) (H:Heap),lxK cal O N (veneerlaw20ScriptDealsC9 f0 f1) E H k=veneerlaw20ScriptDealsC9S cal O N f0 f1 (lk E 0) H:=by
 have hk:k=(kR (resK [(.tmp 2)] []) k):=(kR_mk hR rfl);intro E H;rw[hk];show lxK cal O N (.reg [ qO 2 (.mv (.k (.bool false)))]) E H (seqK (lxK cal O N (veneerlaw20ScriptDealsC8 f0 f1)) (kR (resK [(.tmp 2)] []) k))=_;rw[seqK_mk (g:=fun E H=>veneerlaw20ScriptDealsC8S cal O N f0 f1 (lk E 0) H) (veneerlaw20ScriptDealsC8Eq cal O N f0 f1 (k:=(kR (resK [(.tmp 2)] []) k)) (fun _ _=>by kernel_rfl))];kernel_rfl
def veneerlaw20ScriptDeals (f0 f1:FuncId):LFun:=⟨(veneerlaw20ScriptDealsC9 f0 f1),[(.tmp 2)],86⟩
def veneerlaw20ScriptDealsS (cal:CB)(O:Oracle)(N:Nat)(f0 f1:FuncId)(v0:IV)(H:Heap):OH :=
  veneerlaw20ScriptDealsC9S cal O N f0 f1 v0 H
theorem veneerlaw20ScriptDealsEq (cal:CB)(O:Oracle)(N:Nat)(f0 f1:FuncId)(v0:IV)(H:Heap):lrunK cal O N (veneerlaw20ScriptDeals f0 f1) [v0] H=veneerlaw20ScriptDealsS cal O N f0 f1 v0 H:=by
 show lxK cal O N (veneerlaw20ScriptDealsC9 f0 f1) (initFrom 0 [v0]) H (endK [(.tmp 2)])=_;exact veneerlaw20ScriptDealsC9Eq cal O N f0 f1 (k:=(endK [(.tmp 2)])) (fun _ _=>by kernel_rfl) (initFrom 0 [v0]) H
end Go.Shade
