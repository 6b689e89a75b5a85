/- DESC: low code of a law of the layer 'desc'. Printed by gen.py. -/
import Derived.Test.YtbcekfagnajooaaM2
import Derived.KernelRfl
import Derived.Test.YtbcekfagnajooaaM3
namespace Go.Shade
set_option linter.unusedVariables false
def veneerlaw07DescAloneC0 (cVeneerlaw07Awake cDescNew cVeneerlaw07Play cVeneerDescTableFull cVeneerDescTableOpen cVeneerDescTableGet cVeneerref07Same : FuncId) : LC := .loop (.seq (.seq (.reg [
    ⟨(some 25), (.mv (.t 8)), none⟩,
    ⟨(some 26), (.mv (.t 0)), none⟩,
    ⟨(some 27), (.len .slice (.t 26)), none⟩,
    ⟨(some 28), (.bin .lss (.t 25) (.t 27)), none⟩,
    ⟨(some 29), (.mv (.t 28)), none⟩,
    ⟨(some 30), (.mv (.t 8)), (some (29, true))⟩,
    ⟨(some 31), (.bin .lss (.t 30) (.k (.int .i64 120))), (some (29, true))⟩,
    ⟨(some 32), (.pick (.t 29) (.t 31) (.k (.bool false))), none⟩])
  (.cond (.t 32) .skip
  (.exit 0)))
  (.seq (.block 1 (.reg [
    ⟨(some 35), (.mv (.t 7)), none⟩,
    ⟨(some 36), (.mv (.t 0)), none⟩,
    ⟨(some 37), (.mv (.t 8)), none⟩,
    ⟨(some 38), (.ix 8 (.t 36) (.t 37)), none⟩,
    ⟨(some 39), (.ldn 8 (.t 38)), none⟩,
    ⟨(some 40), (.callF cVeneerlaw07Play [(.t 35), (.t 39)]), none⟩]))
  (.reg [
    ⟨(some 33), (.mv (.t 8)), none⟩,
    ⟨(some 34), (.bin .add (.t 33) (.k (.int .i64 1))), none⟩,
    ⟨(some 8), (.mv (.t 34)), none⟩])))
def veneerlaw07DescAloneC1 (cVeneerlaw07Awake cDescNew cVeneerlaw07Play cVeneerDescTableFull cVeneerDescTableOpen cVeneerDescTableGet cVeneerref07Same : FuncId) : LC := .block 0 (veneerlaw07DescAloneC0 cVeneerlaw07Awake cDescNew cVeneerlaw07Play cVeneerDescTableFull cVeneerDescTableOpen cVeneerDescTableGet cVeneerref07Same)
def veneerlaw07DescAloneC2 (cVeneerlaw07Awake cDescNew cVeneerlaw07Play cVeneerDescTableFull cVeneerDescTableOpen cVeneerDescTableGet cVeneerref07Same : FuncId) : LC := .seq (.reg [
    ⟨(some 8), (.mv (.k (.int .i64 0))), none⟩]) (veneerlaw07DescAloneC1 cVeneerlaw07Awake cDescNew cVeneerlaw07Play cVeneerDescTableFull cVeneerDescTableOpen cVeneerDescTableGet cVeneerref07Same)
def veneerlaw07DescAloneC3 (cVeneerlaw07Awake cDescNew cVeneerlaw07Play cVeneerDescTableFull cVeneerDescTableOpen cVeneerDescTableGet cVeneerref07Same : FuncId) : LC := .loop (.seq (.seq (.reg [
    ⟨(some 56), (.mv (.t 12)), none⟩,
    ⟨(some 57), (.mv (.t 2)), none⟩,
    ⟨(some 58), (.len .slice (.t 57)), none⟩,
    ⟨(some 59), (.bin .lss (.t 56) (.t 58)), none⟩,
    ⟨(some 60), (.mv (.t 59)), none⟩,
    ⟨(some 61), (.mv (.t 12)), (some (60, true))⟩,
    ⟨(some 62), (.bin .lss (.t 61) (.k (.int .i64 120))), (some (60, true))⟩,
    ⟨(some 63), (.pick (.t 60) (.t 62) (.k (.bool false))), none⟩])
  (.cond (.t 63) .skip
  (.exit 2)))
  (.seq (.block 3 (.seq (.reg [
    ⟨(some 66), (.mv (.t 2)), none⟩,
    ⟨(some 67), (.mv (.t 12)), none⟩,
    ⟨(some 68), (.ix 8 (.t 66) (.t 67)), none⟩,
    ⟨(some 69), (.ldn 8 (.t 68)), none⟩,
    ⟨(some 13), (.zbox (.agg [(.int .i64 0), (.int .i64 0), (.int .i64 0), (.int .i64 0), (.int .i64 0), (.bool false), .nilSlice, (.int .i64 0)])), none⟩,
    ⟨none, (.st 8 (.t 13) (.t 69)), none⟩])
  (.seq (.seq (.reg [
    ⟨(some 70), (.off (.t 13) 1), none⟩,
    ⟨(some 71), (.ld1 (.t 70)), none⟩,
    ⟨(some 72), (.mv (.t 10)), none⟩,
    ⟨(some 73), (.bin .eql (.t 71) (.t 72)), none⟩,
    ⟨(some 74), (.mv (.t 73)), none⟩,
    ⟨(some 75), (.off (.t 13) 0), (some (74, true))⟩,
    ⟨(some 76), (.ld1 (.t 75)), (some (74, true))⟩,
    ⟨(some 77), (.bin .neq (.t 76) (.k (.int .i64 0))), (some (74, true))⟩,
    ⟨(some 78), (.pick (.t 74) (.t 77) (.k (.bool false))), none⟩])
  (.cond (.t 78) (.exit 3)
  .skip))
  (.seq (.seq (.reg [
    ⟨(some 79), (.off (.t 13) 0), none⟩,
    ⟨(some 80), (.ld1 (.t 79)), none⟩,
    ⟨(some 81), (.bin .eql (.t 80) (.k (.int .i64 0))), none⟩,
    ⟨(some 82), (.mv (.t 81)), none⟩,
    ⟨(some 83), (.off (.t 13) 2), (some (82, true))⟩,
    ⟨(some 84), (.off (.t 83) 4), (some (82, true))⟩,
    ⟨(some 85), (.ld1 (.t 84)), (some (82, true))⟩,
    ⟨(some 86), (.len .slice (.t 85)), (some (82, true))⟩,
    ⟨(some 87), (.bin .leq (.t 86) (.k (.int .i64 100))), (some (82, true))⟩,
    ⟨(some 88), (.pick (.t 82) (.t 87) (.k (.bool false))), none⟩])
  (.cond (.t 88) (.seq (.reg [
    ⟨(some 90), (.mv (.t 7)), none⟩,
    ⟨(some 91), (.off (.t 13) 2), none⟩,
    ⟨(some 92), (.ldn 6 (.t 91)), none⟩,
    ⟨(some 93), (.callF cVeneerDescTableOpen [(.t 90), (.t 92)]), none⟩,
    ⟨(some 89), (.mv (.t 93)), none⟩,
    ⟨(some 94), (.ext (.t 89) 0), none⟩,
    ⟨(some 95), (.ext (.t 89) 1), none⟩,
    ⟨(some 14), (.mv (.t 94)), none⟩,
    ⟨(some 15), (.mv (.t 95)), none⟩])
  (.seq (.seq (.reg [
    ⟨(some 96), (.mv (.t 15)), none⟩,
    ⟨(some 97), (.bin .eql (.t 96) (.k (.int .i64 0))), none⟩,
    ⟨(some 98), (.mv (.t 97)), none⟩,
    ⟨(some 99), (.mv (.t 14)), (some (98, true))⟩,
    ⟨(some 100), (.mv (.t 10)), (some (98, true))⟩,
    ⟨(some 101), (.bin .eql (.t 99) (.t 100)), (some (98, true))⟩,
    ⟨(some 102), (.pick (.t 98) (.t 101) (.k (.bool false))), none⟩])
  (.cond (.t 102) (.seq (.reg [
    ⟨(some 6), (.mv (.k (.bool false))), none⟩])
  .ret)
  .skip))
  (.exit 3)))
  .skip))
  (.reg [
    ⟨(some 103), (.mv (.t 7)), none⟩,
    ⟨(some 104), (.ldn 8 (.t 13)), none⟩,
    ⟨(some 105), (.callF cVeneerlaw07Play [(.t 103), (.t 104)]), none⟩])))))
  (.reg [
    ⟨(some 64), (.mv (.t 12)), none⟩,
    ⟨(some 65), (.bin .add (.t 64) (.k (.int .i64 1))), none⟩,
    ⟨(some 12), (.mv (.t 65)), none⟩])))
def veneerlaw07DescAloneC4 (cVeneerlaw07Awake cDescNew cVeneerlaw07Play cVeneerDescTableFull cVeneerDescTableOpen cVeneerDescTableGet cVeneerref07Same : FuncId) : LC := .block 2 (veneerlaw07DescAloneC3 cVeneerlaw07Awake cDescNew cVeneerlaw07Play cVeneerDescTableFull cVeneerDescTableOpen cVeneerDescTableGet cVeneerref07Same)
def veneerlaw07DescAloneC5 (cVeneerlaw07Awake cDescNew cVeneerlaw07Play cVeneerDescTableFull cVeneerDescTableOpen cVeneerDescTableGet cVeneerref07Same : FuncId) : LC := .seq (.reg [
    ⟨(some 12), (.mv (.k (.int .i64 0))), none⟩]) (veneerlaw07DescAloneC4 cVeneerlaw07Awake cDescNew cVeneerlaw07Play cVeneerDescTableFull cVeneerDescTableOpen cVeneerDescTableGet cVeneerref07Same)
def veneerlaw07DescAloneC6 (cVeneerlaw07Awake cDescNew cVeneerlaw07Play cVeneerDescTableFull cVeneerDescTableOpen cVeneerDescTableGet cVeneerref07Same : FuncId) : LC := .seq (veneerlaw07DescAloneC5 cVeneerlaw07Awake cDescNew cVeneerlaw07Play cVeneerDescTableFull cVeneerDescTableOpen cVeneerDescTableGet cVeneerref07Same) (.seq (.reg [
    ⟨(some 107), (.mv (.t 7)), none⟩,
    ⟨(some 108), (.mv (.t 10)), none⟩,
    ⟨(some 109), (.callF cVeneerDescTableGet [(.t 107), (.t 108)]), none⟩,
    ⟨(some 106), (.mv (.t 109)), none⟩,
    ⟨(some 110), (.ext (.t 106) 0), none⟩,
    ⟨(some 111), (.ext (.t 106) 1), none⟩,
    ⟨(some 16), (.zbox (.agg [(.int .i64 0), (.int .i64 0), (.int .i64 0), (.bool false), .nilSlice, (.int .i64 0)])), none⟩,
    ⟨none, (.st 6 (.t 16) (.t 110)), none⟩,
    ⟨(some 17), (.mv (.t 111)), none⟩])
  (.seq (.reg [
    ⟨(some 112), (.mv (.t 11)), none⟩,
    ⟨(some 113), (.bin .eql (.t 112) (.k (.int .i64 0))), none⟩,
    ⟨(some 114), (.mv (.t 113)), none⟩,
    ⟨(some 115), (.mv (.t 17)), (some (114, true))⟩,
    ⟨(some 116), (.bin .eql (.t 115) (.k (.int .i64 0))), (some (114, true))⟩,
    ⟨(some 117), (.pick (.t 114) (.t 116) (.k (.bool false))), none⟩,
    ⟨(some 118), (.mv (.t 117)), none⟩,
    ⟨(some 119), (.ldn 6 (.t 16)), (some (118, true))⟩,
    ⟨(some 120), (.ldn 6 (.t 4)), (some (118, true))⟩,
    ⟨(some 121), (.callF cVeneerref07Same [(.t 119), (.t 120)]), (some (118, true))⟩,
    ⟨(some 122), (.pick (.t 118) (.t 121) (.k (.bool false))), none⟩,
    ⟨(some 6), (.mv (.t 122)), none⟩])
  .ret))
def veneerlaw07DescAloneC7 (cVeneerlaw07Awake cDescNew cVeneerlaw07Play cVeneerDescTableFull cVeneerDescTableOpen cVeneerDescTableGet cVeneerref07Same : FuncId) : LC := .seq (.seq (.reg [
    ⟨(some 49), (.mv (.t 9)), none⟩])
  (.cond (.t 49) (.seq (.reg [
    ⟨(some 50), (.mv (.t 10)), none⟩,
    ⟨(some 51), (.bin .eql (.t 50) (.k (.int .i64 0))), none⟩,
    ⟨(some 52), (.mv (.t 51)), none⟩,
    ⟨(some 53), (.mv (.t 11)), (some (52, true))⟩,
    ⟨(some 54), (.bin .eql (.t 53) (.k (.int .i64 24))), (some (52, true))⟩,
    ⟨(some 55), (.pick (.t 52) (.t 54) (.k (.bool false))), none⟩,
    ⟨(some 6), (.mv (.t 55)), none⟩])
  .ret)
  .skip)) (veneerlaw07DescAloneC6 cVeneerlaw07Awake cDescNew cVeneerlaw07Play cVeneerDescTableFull cVeneerDescTableOpen cVeneerDescTableGet cVeneerref07Same)
def veneerlaw07DescAloneC8 (cVeneerlaw07Awake cDescNew cVeneerlaw07Play cVeneerDescTableFull cVeneerDescTableOpen cVeneerDescTableGet cVeneerref07Same : FuncId) : LC := .seq (.reg [
    ⟨(some 44), (.mv (.t 7)), none⟩,
    ⟨(some 45), (.ldn 6 (.t 4)), none⟩,
    ⟨(some 46), (.callF cVeneerDescTableOpen [(.t 44), (.t 45)]), none⟩,
    ⟨(some 43), (.mv (.t 46)), none⟩,
    ⟨(some 47), (.ext (.t 43) 0), none⟩,
    ⟨(some 48), (.ext (.t 43) 1), none⟩,
    ⟨(some 10), (.mv (.t 47)), none⟩,
    ⟨(some 11), (.mv (.t 48)), none⟩]) (veneerlaw07DescAloneC7 cVeneerlaw07Awake cDescNew cVeneerlaw07Play cVeneerDescTableFull cVeneerDescTableOpen cVeneerDescTableGet cVeneerref07Same)
def veneerlaw07DescAloneC9 (cVeneerlaw07Awake cDescNew cVeneerlaw07Play cVeneerDescTableFull cVeneerDescTableOpen cVeneerDescTableGet cVeneerref07Same : FuncId) : LC := .seq (.reg [
    ⟨(some 41), (.mv (.t 7)), none⟩,
    ⟨(some 42), (.callF cVeneerDescTableFull [(.t 41)]), none⟩,
    ⟨(some 9), (.mv (.t 42)), none⟩]) (veneerlaw07DescAloneC8 cVeneerlaw07Awake cDescNew cVeneerlaw07Play cVeneerDescTableFull cVeneerDescTableOpen cVeneerDescTableGet cVeneerref07Same)
def veneerlaw07DescAloneC10 (cVeneerlaw07Awake cDescNew cVeneerlaw07Play cVeneerDescTableFull cVeneerDescTableOpen cVeneerDescTableGet cVeneerref07Same : FuncId) : LC := .seq (veneerlaw07DescAloneC2 cVeneerlaw07Awake cDescNew cVeneerlaw07Play cVeneerDescTableFull cVeneerDescTableOpen cVeneerDescTableGet cVeneerref07Same) (veneerlaw07DescAloneC9 cVeneerlaw07Awake cDescNew cVeneerlaw07Play cVeneerDescTableFull cVeneerDescTableOpen cVeneerDescTableGet cVeneerref07Same)
def veneerlaw07DescAloneC11 (cVeneerlaw07Awake cDescNew cVeneerlaw07Play cVeneerDescTableFull cVeneerDescTableOpen cVeneerDescTableGet cVeneerref07Same : FuncId) : LC := .seq (.seq (.reg [
    ⟨(some 21), (.off (.t 4) 4), none⟩,
    ⟨(some 22), (.ld1 (.t 21)), none⟩,
    ⟨(some 23), (.len .slice (.t 22)), none⟩,
    ⟨(some 24), (.bin .gtr (.t 23) (.k (.int .i64 100))), none⟩])
  (.cond (.t 24) (.seq (.reg [
    ⟨(some 6), (.mv (.k (.bool true))), none⟩])
  .ret)
  .skip)) (veneerlaw07DescAloneC10 cVeneerlaw07Awake cDescNew cVeneerlaw07Play cVeneerDescTableFull cVeneerDescTableOpen cVeneerDescTableGet cVeneerref07Same)
def veneerlaw07DescAloneC12 (cVeneerlaw07Awake cDescNew cVeneerlaw07Play cVeneerDescTableFull cVeneerDescTableOpen cVeneerDescTableGet cVeneerref07Same : FuncId) : LC := .seq (.reg [
    ⟨(some 20), (.callF cDescNew []), none⟩,
    ⟨(some 7), (.mv (.t 20)), none⟩]) (veneerlaw07DescAloneC11 cVeneerlaw07Awake cDescNew cVeneerlaw07Play cVeneerDescTableFull cVeneerDescTableOpen cVeneerDescTableGet cVeneerref07Same)
def veneerlaw07DescAloneC13 (cVeneerlaw07Awake cDescNew cVeneerlaw07Play cVeneerDescTableFull cVeneerDescTableOpen cVeneerDescTableGet cVeneerref07Same : FuncId) : LC := .seq (.seq (.reg [
    ⟨(some 18), (.callF cVeneerlaw07Awake []), none⟩,
    ⟨(some 19), (.un .not (.t 18)), none⟩])
  (.cond (.t 19) (.seq (.reg [
    ⟨(some 6), (.mv (.k (.bool false))), none⟩])
  .ret)
  .skip)) (veneerlaw07DescAloneC12 cVeneerlaw07Awake cDescNew cVeneerlaw07Play cVeneerDescTableFull cVeneerDescTableOpen cVeneerDescTableGet cVeneerref07Same)
def veneerlaw07DescAloneC14 (cVeneerlaw07Awake cDescNew cVeneerlaw07Play cVeneerDescTableFull cVeneerDescTableOpen cVeneerDescTableGet cVeneerref07Same : FuncId) : LC := .seq (.reg [
    ⟨(some 4), (.box (.t 1)), none⟩,
    ⟨(some 6), (.mv (.k (.bool false))), none⟩]) (veneerlaw07DescAloneC13 cVeneerlaw07Awake cDescNew cVeneerlaw07Play cVeneerDescTableFull cVeneerDescTableOpen cVeneerDescTableGet cVeneerref07Same)
def veneerlaw07DescAloneC3S (cal : FuncId → Bool) (φ : Oracle) (N : Nat) (cVeneerlaw07Awake cDescNew cVeneerlaw07Play cVeneerDescTableFull cVeneerDescTableOpen cVeneerDescTableGet cVeneerref07Same : FuncId) (gE2 : IV → IV → IV → IV → Heap → Option (IV × Heap)) : Nat → IV → IV → IV → IV → IV → IV → Heap → Option (IV × Heap)
  | 0, _, _, _, _, _, _, _ => none
  | n + 1, v2, v4, v7, v10, v11, v12, H =>
    ob (llen H .slice v2) fun t1 =>
    ob (lbin .lss v12 t1) fun t2 =>
    ob (gq (isB t2 true) (some v12)) fun t3 =>
    ob (gq (isB t2 true) (lbin .lss t3 (.int .i64 120))) fun t4 =>
    ob (lpick t2 t4 (.bool false)) fun t5 =>
    cnd t5
    (jn (fun (H36 : Heap) =>
    ob (lbin .add v12 (.int .i64 1)) fun t37 =>
    veneerlaw07DescAloneC3S cal φ N cVeneerlaw07Awake cDescNew cVeneerlaw07Play cVeneerDescTableFull cVeneerDescTableOpen cVeneerDescTableGet cVeneerref07Same gE2 n v2 v4 v7 v10 v11 t37 H36) fun J6 =>
    ob (lix 8 v2 v12) fun t38 =>
    ob (lloadn H 8 t38) fun t39 =>
    ob (lzbox H (.agg [(.int .i64 0), (.int .i64 0), (.int .i64 0), (.int .i64 0), (.int .i64 0), (.bool false), .nilSlice, (.int .i64 0)])) fun r40 =>
    ob (lstV r40.2 8 r40.1 t39) fun r41 =>
    ob (loff r40.1 1) fun t42 =>
    ob (lload1 r41.2 t42) fun t43 =>
    ob (lbin .eql t43 v10) fun t44 =>
    ob (gq (isB t44 true) (loff r40.1 0)) fun t45 =>
    ob (gq (isB t44 true) (lload1 r41.2 t45)) fun t46 =>
    ob (gq (isB t44 true) (lbin .neq t46 (.int .i64 0))) fun t47 =>
    ob (lpick t44 t47 (.bool false)) fun t48 =>
    cnd t48
    (J6 r41.2)
    (ob (loff r40.1 0) fun t49 =>
    ob (lload1 r41.2 t49) fun t50 =>
    ob (lbin .eql t50 (.int .i64 0)) fun t51 =>
    ob (gq (isB t51 true) (loff r40.1 2)) fun t52 =>
    ob (gq (isB t51 true) (loff t52 4)) fun t53 =>
    ob (gq (isB t51 true) (lload1 r41.2 t53)) fun t54 =>
    ob (gq (isB t51 true) (llen r41.2 .slice t54)) fun t55 =>
    ob (gq (isB t51 true) (lbin .leq t55 (.int .i64 100))) fun t56 =>
    ob (lpick t51 t56 (.bool false)) fun t57 =>
    cnd t57
    (ob (loff r40.1 2) fun t58 =>
    ob (lloadn r41.2 6 t58) fun t59 =>
    ob (φ cVeneerDescTableOpen [v7, t59] r41.2) fun r60 =>
    ob (iextract r60.1 0) fun t61 =>
    ob (iextract r60.1 1) fun t62 =>
    ob (lbin .eql t62 (.int .i64 0)) fun t63 =>
    ob (gq (isB t63 true) (some t61)) fun t64 =>
    ob (gq (isB t63 true) (some v10)) fun t65 =>
    ob (gq (isB t63 true) (lbin .eql t64 t65)) fun t66 =>
    ob (lpick t63 t66 (.bool false)) fun t67 =>
    cnd t67
    (some ((.bool false), r60.2))
    (J6 r60.2))
    (ob (lloadn r41.2 8 r40.1) fun t68 =>
    ob (φ cVeneerlaw07Play [v7, t68] r41.2) fun r69 =>
    J6 r69.2)))
    (gE2 v4 v7 v10 v11 H)
theorem veneerlaw07DescAloneC3Eq (cal : FuncId → Bool) (φ : Oracle) (N : Nat) (cVeneerlaw07Awake cDescNew cVeneerlaw07Play cVeneerDescTableFull cVeneerDescTableOpen cVeneerDescTableGet cVeneerref07Same : FuncId) {k : KT (IV × Heap)} (gE2 : IV → IV → IV → IV → Heap → Option (IV × Heap)) (hgE2 : ∀ σ H, k (.exit 2) σ H = gE2 (lk σ 4) (lk σ 7) (lk σ 10) (lk σ 11) H) (hR : ∀ σ H, k .ret σ H = resK [(.tmp 6)] [] σ H) : ∀ (n : Nat) (σ : Sg) (H : Heap), itK (lxK cal φ N (.seq (.seq (.reg [
    ⟨(some 56), (.mv (.t 12)), none⟩,
    ⟨(some 57), (.mv (.t 2)), none⟩,
    ⟨(some 58), (.len .slice (.t 57)), none⟩,
    ⟨(some 59), (.bin .lss (.t 56) (.t 58)), none⟩,
    ⟨(some 60), (.mv (.t 59)), none⟩,
    ⟨(some 61), (.mv (.t 12)), (some (60, true))⟩,
    ⟨(some 62), (.bin .lss (.t 61) (.k (.int .i64 120))), (some (60, true))⟩,
    ⟨(some 63), (.pick (.t 60) (.t 62) (.k (.bool false))), none⟩])
  (.cond (.t 63) .skip
  (.exit 2)))
  (.seq (.block 3 (.seq (.reg [
    ⟨(some 66), (.mv (.t 2)), none⟩,
    ⟨(some 67), (.mv (.t 12)), none⟩,
    ⟨(some 68), (.ix 8 (.t 66) (.t 67)), none⟩,
    ⟨(some 69), (.ldn 8 (.t 68)), none⟩,
    ⟨(some 13), (.zbox (.agg [(.int .i64 0), (.int .i64 0), (.int .i64 0), (.int .i64 0), (.int .i64 0), (.bool false), .nilSlice, (.int .i64 0)])), none⟩,
    ⟨none, (.st 8 (.t 13) (.t 69)), none⟩])
  (.seq (.seq (.reg [
    ⟨(some 70), (.off (.t 13) 1), none⟩,
    ⟨(some 71), (.ld1 (.t 70)), none⟩,
    ⟨(some 72), (.mv (.t 10)), none⟩,
    ⟨(some 73), (.bin .eql (.t 71) (.t 72)), none⟩,
    ⟨(some 74), (.mv (.t 73)), none⟩,
    ⟨(some 75), (.off (.t 13) 0), (some (74, true))⟩,
    ⟨(some 76), (.ld1 (.t 75)), (some (74, true))⟩,
    ⟨(some 77), (.bin .neq (.t 76) (.k (.int .i64 0))), (some (74, true))⟩,
    ⟨(some 78), (.pick (.t 74) (.t 77) (.k (.bool false))), none⟩])
  (.cond (.t 78) (.exit 3)
  .skip))
  (.seq (.seq (.reg [
    ⟨(some 79), (.off (.t 13) 0), none⟩,
    ⟨(some 80), (.ld1 (.t 79)), none⟩,
    ⟨(some 81), (.bin .eql (.t 80) (.k (.int .i64 0))), none⟩,
    ⟨(some 82), (.mv (.t 81)), none⟩,
    ⟨(some 83), (.off (.t 13) 2), (some (82, true))⟩,
    ⟨(some 84), (.off (.t 83) 4), (some (82, true))⟩,
    ⟨(some 85), (.ld1 (.t 84)), (some (82, true))⟩,
    ⟨(some 86), (.len .slice (.t 85)), (some (82, true))⟩,
    ⟨(some 87), (.bin .leq (.t 86) (.k (.int .i64 100))), (some (82, true))⟩,
    ⟨(some 88), (.pick (.t 82) (.t 87) (.k (.bool false))), none⟩])
  (.cond (.t 88) (.seq (.reg [
    ⟨(some 90), (.mv (.t 7)), none⟩,
    ⟨(some 91), (.off (.t 13) 2), none⟩,
    ⟨(some 92), (.ldn 6 (.t 91)), none⟩,
    ⟨(some 93), (.callF cVeneerDescTableOpen [(.t 90), (.t 92)]), none⟩,
    ⟨(some 89), (.mv (.t 93)), none⟩,
    ⟨(some 94), (.ext (.t 89) 0), none⟩,
    ⟨(some 95), (.ext (.t 89) 1), none⟩,
    ⟨(some 14), (.mv (.t 94)), none⟩,
    ⟨(some 15), (.mv (.t 95)), none⟩])
  (.seq (.seq (.reg [
    ⟨(some 96), (.mv (.t 15)), none⟩,
    ⟨(some 97), (.bin .eql (.t 96) (.k (.int .i64 0))), none⟩,
    ⟨(some 98), (.mv (.t 97)), none⟩,
    ⟨(some 99), (.mv (.t 14)), (some (98, true))⟩,
    ⟨(some 100), (.mv (.t 10)), (some (98, true))⟩,
    ⟨(some 101), (.bin .eql (.t 99) (.t 100)), (some (98, true))⟩,
    ⟨(some 102), (.pick (.t 98) (.t 101) (.k (.bool false))), none⟩])
  (.cond (.t 102) (.seq (.reg [
    ⟨(some 6), (.mv (.k (.bool false))), none⟩])
  .ret)
  .skip))
  (.exit 3)))
  .skip))
  (.reg [
    ⟨(some 103), (.mv (.t 7)), none⟩,
    ⟨(some 104), (.ldn 8 (.t 13)), none⟩,
    ⟨(some 105), (.callF cVeneerlaw07Play [(.t 103), (.t 104)]), none⟩])))))
  (.reg [
    ⟨(some 64), (.mv (.t 12)), none⟩,
    ⟨(some 65), (.bin .add (.t 64) (.k (.int .i64 1))), none⟩,
    ⟨(some 12), (.mv (.t 65)), none⟩])))) n σ H k = veneerlaw07DescAloneC3S cal φ N cVeneerlaw07Awake cDescNew cVeneerlaw07Play cVeneerDescTableFull cVeneerDescTableOpen cVeneerDescTableGet cVeneerref07Same gE2 n (lk σ 2) (lk σ 4) (lk σ 7) (lk σ 10) (lk σ 11) (lk σ 12) H := by
  have hk : k = (kE 2 (fun σ H => gE2 (lk σ 4) (lk σ 7) (lk σ 10) (lk σ 11) H) (kR (resK [(.tmp 6)] []) k)) := (kE_mk hgE2 (kR_mk hR rfl))
  intro n
  induction n with
  | zero => intro σ H; rfl
  | succ n ih =>
    intro σ H
    rw [itK_succ, seqK_mk (g := fun σ H => veneerlaw07DescAloneC3S cal φ N cVeneerlaw07Awake cDescNew cVeneerlaw07Play cVeneerDescTableFull cVeneerDescTableOpen cVeneerDescTableGet cVeneerref07Same gE2 n (lk σ 2) (lk σ 4) (lk σ 7) (lk σ 10) (lk σ 11) (lk σ 12) H) ih, hk]
    kernel_rfl
def veneerlaw07DescAloneC4S (cal : FuncId → Bool) (φ : Oracle) (N : Nat) (cVeneerlaw07Awake cDescNew cVeneerlaw07Play cVeneerDescTableFull cVeneerDescTableOpen cVeneerDescTableGet cVeneerref07Same : FuncId) (gN : IV → IV → IV → IV → Heap → Option (IV × Heap)) (v2 v4 v7 v10 v11 v12 : IV) (H : Heap) : Option (IV × Heap) :=
    veneerlaw07DescAloneC3S cal φ N cVeneerlaw07Awake cDescNew cVeneerlaw07Play cVeneerDescTableFull cVeneerDescTableOpen cVeneerDescTableGet cVeneerref07Same (fun v4 v7 v10 v11 H => gN v4 v7 v10 v11 H) N v2 v4 v7 v10 v11 v12 H
theorem veneerlaw07DescAloneC4Eq (cal : FuncId → Bool) (φ : Oracle) (N : Nat) (cVeneerlaw07Awake cDescNew cVeneerlaw07Play cVeneerDescTableFull cVeneerDescTableOpen cVeneerDescTableGet cVeneerref07Same : FuncId) {k : KT (IV × Heap)} (gN : IV → IV → IV → IV → Heap → Option (IV × Heap)) (hgN : ∀ σ H, k .normal σ H = gN (lk σ 4) (lk σ 7) (lk σ 10) (lk σ 11) H) (hR : ∀ σ H, k .ret σ H = resK [(.tmp 6)] [] σ H) : ∀ (σ : Sg) (H : Heap), lxK cal φ N (veneerlaw07DescAloneC4 cVeneerlaw07Awake cDescNew cVeneerlaw07Play cVeneerDescTableFull cVeneerDescTableOpen cVeneerDescTableGet cVeneerref07Same) σ H k = veneerlaw07DescAloneC4S cal φ N cVeneerlaw07Awake cDescNew cVeneerlaw07Play cVeneerDescTableFull cVeneerDescTableOpen cVeneerDescTableGet cVeneerref07Same gN (lk σ 2) (lk σ 4) (lk σ 7) (lk σ 10) (lk σ 11) (lk σ 12) H := by
  have hk : k = (kN (fun σ H => gN (lk σ 4) (lk σ 7) (lk σ 10) (lk σ 11) H) (kR (resK [(.tmp 6)] []) k)) := (kN_mk hgN (kR_mk hR rfl))
  intro σ H
  rw [hk]
  show lxK cal φ N (veneerlaw07DescAloneC3 cVeneerlaw07Awake cDescNew cVeneerlaw07Play cVeneerDescTableFull cVeneerDescTableOpen cVeneerDescTableGet cVeneerref07Same) σ H (blockK 2 (kN (fun σ H => gN (lk σ 4) (lk σ 7) (lk σ 10) (lk σ 11) H) (kR (resK [(.tmp 6)] []) k))) = _
  exact veneerlaw07DescAloneC3Eq cal φ N cVeneerlaw07Awake cDescNew cVeneerlaw07Play cVeneerDescTableFull cVeneerDescTableOpen cVeneerDescTableGet cVeneerref07Same (k := (blockK 2 (kN (fun σ H => gN (lk σ 4) (lk σ 7) (lk σ 10) (lk σ 11) H) (kR (resK [(.tmp 6)] []) k)))) (fun v4 v7 v10 v11 H => gN v4 v7 v10 v11 H) (fun _ _ => rfl) (fun _ _ => rfl) N σ H
def veneerlaw07DescAloneC5S (cal : FuncId → Bool) (φ : Oracle) (N : Nat) (cVeneerlaw07Awake cDescNew cVeneerlaw07Play cVeneerDescTableFull cVeneerDescTableOpen cVeneerDescTableGet cVeneerref07Same : FuncId) (gN : IV → IV → IV → IV → Heap → Option (IV × Heap)) (v2 v4 v7 v10 v11 : IV) (H : Heap) : Option (IV × Heap) :=
    veneerlaw07DescAloneC4S cal φ N cVeneerlaw07Awake cDescNew cVeneerlaw07Play cVeneerDescTableFull cVeneerDescTableOpen cVeneerDescTableGet cVeneerref07Same (fun v4 v7 v10 v11 H => gN v4 v7 v10 v11 H) v2 v4 v7 v10 v11 (.int .i64 0) H
theorem veneerlaw07DescAloneC5Eq (cal : FuncId → Bool) (φ : Oracle) (N : Nat) (cVeneerlaw07Awake cDescNew cVeneerlaw07Play cVeneerDescTableFull cVeneerDescTableOpen cVeneerDescTableGet cVeneerref07Same : FuncId) {k : KT (IV × Heap)} (gN : IV → IV → IV → IV → Heap → Option (IV × Heap)) (hgN : ∀ σ H, k .normal σ H = gN (lk σ 4) (lk σ 7) (lk σ 10) (lk σ 11) H) (hR : ∀ σ H, k .ret σ H = resK [(.tmp 6)] [] σ H) : ∀ (σ : Sg) (H : Heap), lxK cal φ N (veneerlaw07DescAloneC5 cVeneerlaw07Awake cDescNew cVeneerlaw07Play cVeneerDescTableFull cVeneerDescTableOpen cVeneerDescTableGet cVeneerref07Same) σ H k = veneerlaw07DescAloneC5S cal φ N cVeneerlaw07Awake cDescNew cVeneerlaw07Play cVeneerDescTableFull cVeneerDescTableOpen cVeneerDescTableGet cVeneerref07Same gN (lk σ 2) (lk σ 4) (lk σ 7) (lk σ 10) (lk σ 11) H := by
  have hk : k = (kN (fun σ H => gN (lk σ 4) (lk σ 7) (lk σ 10) (lk σ 11) H) (kR (resK [(.tmp 6)] []) k)) := (kN_mk hgN (kR_mk hR rfl))
  intro σ H
  rw [hk]
  show lxK cal φ N (.reg [
    ⟨(some 12), (.mv (.k (.int .i64 0))), none⟩]) σ H (seqK (lxK cal φ N (veneerlaw07DescAloneC4 cVeneerlaw07Awake cDescNew cVeneerlaw07Play cVeneerDescTableFull cVeneerDescTableOpen cVeneerDescTableGet cVeneerref07Same)) (kN (fun σ H => gN (lk σ 4) (lk σ 7) (lk σ 10) (lk σ 11) H) (kR (resK [(.tmp 6)] []) k))) = _
  rw [seqK_mk (g := fun σ H => veneerlaw07DescAloneC4S cal φ N cVeneerlaw07Awake cDescNew cVeneerlaw07Play cVeneerDescTableFull cVeneerDescTableOpen cVeneerDescTableGet cVeneerref07Same (fun v4 v7 v10 v11 H => gN v4 v7 v10 v11 H) (lk σ 2) (lk σ 4) (lk σ 7) (lk σ 10) (lk σ 11) (lk σ 12) H) (veneerlaw07DescAloneC4Eq cal φ N cVeneerlaw07Awake cDescNew cVeneerlaw07Play cVeneerDescTableFull cVeneerDescTableOpen cVeneerDescTableGet cVeneerref07Same (k := (kN (fun σ H => gN (lk σ 4) (lk σ 7) (lk σ 10) (lk σ 11) H) (kR (resK [(.tmp 6)] []) k))) (fun v4 v7 v10 v11 H => gN v4 v7 v10 v11 H) (fun _ _ => rfl) (fun _ _ => rfl))]
  kernel_rfl
def veneerlaw07DescAloneC6S (cal : FuncId → Bool) (φ : Oracle) (N : Nat) (cVeneerlaw07Awake cDescNew cVeneerlaw07Play cVeneerDescTableFull cVeneerDescTableOpen cVeneerDescTableGet cVeneerref07Same : FuncId) (v2 v4 v7 v10 v11 : IV) (H : Heap) : Option (IV × Heap) :=
    veneerlaw07DescAloneC5S cal φ N cVeneerlaw07Awake cDescNew cVeneerlaw07Play cVeneerDescTableFull cVeneerDescTableOpen cVeneerDescTableGet cVeneerref07Same (fun v4 v7 v10 v11 H => ob (φ cVeneerDescTableGet [v7, v10] H) fun r1 =>
    ob (iextract r1.1 0) fun t2 =>
    ob (iextract r1.1 1) fun t3 =>
    ob (lzbox r1.2 (.agg [(.int .i64 0), (.int .i64 0), (.int .i64 0), (.bool false), .nilSlice, (.int .i64 0)])) fun r4 =>
    ob (lstV r4.2 6 r4.1 t2) fun r5 =>
    ob (lbin .eql v11 (.int .i64 0)) fun t6 =>
    ob (gq (isB t6 true) (some t3)) fun t7 =>
    ob (gq (isB t6 true) (lbin .eql t7 (.int .i64 0))) fun t8 =>
    ob (lpick t6 t8 (.bool false)) fun t9 =>
    ob (gq (isB t9 true) (lloadn r5.2 6 r4.1)) fun t10 =>
    ob (gq (isB t9 true) (lloadn r5.2 6 v4)) fun t11 =>
    ob (ge (isB t9 true) r5.2 (φ cVeneerref07Same [t10, t11] r5.2)) fun r12 =>
    ob (lpick t9 r12.1 (.bool false)) fun t13 =>
    some (t13, r12.2)) v2 v4 v7 v10 v11 H
theorem veneerlaw07DescAloneC6Eq (cal : FuncId → Bool) (φ : Oracle) (N : Nat) (cVeneerlaw07Awake cDescNew cVeneerlaw07Play cVeneerDescTableFull cVeneerDescTableOpen cVeneerDescTableGet cVeneerref07Same : FuncId) {k : KT (IV × Heap)} (hR : ∀ σ H, k .ret σ H = resK [(.tmp 6)] [] σ H) : ∀ (σ : Sg) (H : Heap), lxK cal φ N (veneerlaw07DescAloneC6 cVeneerlaw07Awake cDescNew cVeneerlaw07Play cVeneerDescTableFull cVeneerDescTableOpen cVeneerDescTableGet cVeneerref07Same) σ H k = veneerlaw07DescAloneC6S cal φ N cVeneerlaw07Awake cDescNew cVeneerlaw07Play cVeneerDescTableFull cVeneerDescTableOpen cVeneerDescTableGet cVeneerref07Same (lk σ 2) (lk σ 4) (lk σ 7) (lk σ 10) (lk σ 11) H := by
  have hk : k = (kR (resK [(.tmp 6)] []) k) := (kR_mk hR rfl)
  intro σ H
  rw [hk]
  show lxK cal φ N (veneerlaw07DescAloneC5 cVeneerlaw07Awake cDescNew cVeneerlaw07Play cVeneerDescTableFull cVeneerDescTableOpen cVeneerDescTableGet cVeneerref07Same) σ H (seqK (lxK cal φ N (.seq (.reg [
    ⟨(some 107), (.mv (.t 7)), none⟩,
    ⟨(some 108), (.mv (.t 10)), none⟩,
    ⟨(some 109), (.callF cVeneerDescTableGet [(.t 107), (.t 108)]), none⟩,
    ⟨(some 106), (.mv (.t 109)), none⟩,
    ⟨(some 110), (.ext (.t 106) 0), none⟩,
    ⟨(some 111), (.ext (.t 106) 1), none⟩,
    ⟨(some 16), (.zbox (.agg [(.int .i64 0), (.int .i64 0), (.int .i64 0), (.bool false), .nilSlice, (.int .i64 0)])), none⟩,
    ⟨none, (.st 6 (.t 16) (.t 110)), none⟩,
    ⟨(some 17), (.mv (.t 111)), none⟩])
  (.seq (.reg [
    ⟨(some 112), (.mv (.t 11)), none⟩,
    ⟨(some 113), (.bin .eql (.t 112) (.k (.int .i64 0))), none⟩,
    ⟨(some 114), (.mv (.t 113)), none⟩,
    ⟨(some 115), (.mv (.t 17)), (some (114, true))⟩,
    ⟨(some 116), (.bin .eql (.t 115) (.k (.int .i64 0))), (some (114, true))⟩,
    ⟨(some 117), (.pick (.t 114) (.t 116) (.k (.bool false))), none⟩,
    ⟨(some 118), (.mv (.t 117)), none⟩,
    ⟨(some 119), (.ldn 6 (.t 16)), (some (118, true))⟩,
    ⟨(some 120), (.ldn 6 (.t 4)), (some (118, true))⟩,
    ⟨(some 121), (.callF cVeneerref07Same [(.t 119), (.t 120)]), (some (118, true))⟩,
    ⟨(some 122), (.pick (.t 118) (.t 121) (.k (.bool false))), none⟩,
    ⟨(some 6), (.mv (.t 122)), none⟩])
  .ret))) (kR (resK [(.tmp 6)] []) k)) = _
  exact veneerlaw07DescAloneC5Eq cal φ N cVeneerlaw07Awake cDescNew cVeneerlaw07Play cVeneerDescTableFull cVeneerDescTableOpen cVeneerDescTableGet cVeneerref07Same (k := (seqK (lxK cal φ N (.seq (.reg [
    ⟨(some 107), (.mv (.t 7)), none⟩,
    ⟨(some 108), (.mv (.t 10)), none⟩,
    ⟨(some 109), (.callF cVeneerDescTableGet [(.t 107), (.t 108)]), none⟩,
    ⟨(some 106), (.mv (.t 109)), none⟩,
    ⟨(some 110), (.ext (.t 106) 0), none⟩,
    ⟨(some 111), (.ext (.t 106) 1), none⟩,
    ⟨(some 16), (.zbox (.agg [(.int .i64 0), (.int .i64 0), (.int .i64 0), (.bool false), .nilSlice, (.int .i64 0)])), none⟩,
    ⟨none, (.st 6 (.t 16) (.t 110)), none⟩,
    ⟨(some 17), (.mv (.t 111)), none⟩])
  (.seq (.reg [
    ⟨(some 112), (.mv (.t 11)), none⟩,
    ⟨(some 113), (.bin .eql (.t 112) (.k (.int .i64 0))), none⟩,
    ⟨(some 114), (.mv (.t 113)), none⟩,
    ⟨(some 115), (.mv (.t 17)), (some (114, true))⟩,
    ⟨(some 116), (.bin .eql (.t 115) (.k (.int .i64 0))), (some (114, true))⟩,
    ⟨(some 117), (.pick (.t 114) (.t 116) (.k (.bool false))), none⟩,
    ⟨(some 118), (.mv (.t 117)), none⟩,
    ⟨(some 119), (.ldn 6 (.t 16)), (some (118, true))⟩,
    ⟨(some 120), (.ldn 6 (.t 4)), (some (118, true))⟩,
    ⟨(some 121), (.callF cVeneerref07Same [(.t 119), (.t 120)]), (some (118, true))⟩,
    ⟨(some 122), (.pick (.t 118) (.t 121) (.k (.bool false))), none⟩,
    ⟨(some 6), (.mv (.t 122)), none⟩])
  .ret))) (kR (resK [(.tmp 6)] []) k))) (fun v4 v7 v10 v11 H => ob (φ cVeneerDescTableGet [v7, v10] H) fun r1 =>
ob (iextract r1.1 0) fun t2 =>
ob (iextract r1.1 1) fun t3 =>
ob (lzbox r1.2 (.agg [(.int .i64 0), (.int .i64 0), (.int .i64 0), (.bool false), .nilSlice, (.int .i64 0)])) fun r4 =>
ob (lstV r4.2 6 r4.1 t2) fun r5 =>
ob (lbin .eql v11 (.int .i64 0)) fun t6 =>
ob (gq (isB t6 true) (some t3)) fun t7 =>
ob (gq (isB t6 true) (lbin .eql t7 (.int .i64 0))) fun t8 =>
ob (lpick t6 t8 (.bool false)) fun t9 =>
ob (gq (isB t9 true) (lloadn r5.2 6 r4.1)) fun t10 =>
ob (gq (isB t9 true) (lloadn r5.2 6 v4)) fun t11 =>
ob (ge (isB t9 true) r5.2 (φ cVeneerref07Same [t10, t11] r5.2)) fun r12 =>
ob (lpick t9 r12.1 (.bool false)) fun t13 =>
some (t13, r12.2)) (fun _ _ => rfl) (fun _ _ => rfl) σ H
def veneerlaw07DescAloneC7S (cal : FuncId → Bool) (φ : Oracle) (N : Nat) (cVeneerlaw07Awake cDescNew cVeneerlaw07Play cVeneerDescTableFull cVeneerDescTableOpen cVeneerDescTableGet cVeneerref07Same : FuncId) (v2 v4 v7 v9 v10 v11 : IV) (H : Heap) : Option (IV × Heap) :=
    cnd v9
    (ob (lbin .eql v10 (.int .i64 0)) fun t1 =>
    ob (gq (isB t1 true) (some v11)) fun t2 =>
    ob (gq (isB t1 true) (lbin .eql t2 (.int .i64 24))) fun t3 =>
    ob (lpick t1 t3 (.bool false)) fun t4 =>
    some (t4, H))
    (veneerlaw07DescAloneC6S cal φ N cVeneerlaw07Awake cDescNew cVeneerlaw07Play cVeneerDescTableFull cVeneerDescTableOpen cVeneerDescTableGet cVeneerref07Same v2 v4 v7 v10 v11 H)
theorem veneerlaw07DescAloneC7Eq (cal : FuncId → Bool) (φ : Oracle) (N : Nat) (cVeneerlaw07Awake cDescNew cVeneerlaw07Play cVeneerDescTableFull cVeneerDescTableOpen cVeneerDescTableGet cVeneerref07Same : FuncId) {k : KT (IV × Heap)} (hR : ∀ σ H, k .ret σ H = resK [(.tmp 6)] [] σ H) : ∀ (σ : Sg) (H : Heap), lxK cal φ N (veneerlaw07DescAloneC7 cVeneerlaw07Awake cDescNew cVeneerlaw07Play cVeneerDescTableFull cVeneerDescTableOpen cVeneerDescTableGet cVeneerref07Same) σ H k = veneerlaw07DescAloneC7S cal φ N cVeneerlaw07Awake cDescNew cVeneerlaw07Play cVeneerDescTableFull cVeneerDescTableOpen cVeneerDescTableGet cVeneerref07Same (lk σ 2) (lk σ 4) (lk σ 7) (lk σ 9) (lk σ 10) (lk σ 11) H := by
  have hk : k = (kR (resK [(.tmp 6)] []) k) := (kR_mk hR rfl)
  intro σ H
  rw [hk]
  show lxK cal φ N (.seq (.reg [
    ⟨(some 49), (.mv (.t 9)), none⟩])
  (.cond (.t 49) (.seq (.reg [
    ⟨(some 50), (.mv (.t 10)), none⟩,
    ⟨(some 51), (.bin .eql (.t 50) (.k (.int .i64 0))), none⟩,
    ⟨(some 52), (.mv (.t 51)), none⟩,
    ⟨(some 53), (.mv (.t 11)), (some (52, true))⟩,
    ⟨(some 54), (.bin .eql (.t 53) (.k (.int .i64 24))), (some (52, true))⟩,
    ⟨(some 55), (.pick (.t 52) (.t 54) (.k (.bool false))), none⟩,
    ⟨(some 6), (.mv (.t 55)), none⟩])
  .ret)
  .skip)) σ H (seqK (lxK cal φ N (veneerlaw07DescAloneC6 cVeneerlaw07Awake cDescNew cVeneerlaw07Play cVeneerDescTableFull cVeneerDescTableOpen cVeneerDescTableGet cVeneerref07Same)) (kR (resK [(.tmp 6)] []) k)) = _
  rw [seqK_mk (g := fun σ H => veneerlaw07DescAloneC6S cal φ N cVeneerlaw07Awake cDescNew cVeneerlaw07Play cVeneerDescTableFull cVeneerDescTableOpen cVeneerDescTableGet cVeneerref07Same (lk σ 2) (lk σ 4) (lk σ 7) (lk σ 10) (lk σ 11) H) (veneerlaw07DescAloneC6Eq cal φ N cVeneerlaw07Awake cDescNew cVeneerlaw07Play cVeneerDescTableFull cVeneerDescTableOpen cVeneerDescTableGet cVeneerref07Same (k := (kR (resK [(.tmp 6)] []) k)) (fun _ _ => rfl))]
  kernel_rfl
def veneerlaw07DescAloneC8S (cal : FuncId → Bool) (φ : Oracle) (N : Nat) (cVeneerlaw07Awake cDescNew cVeneerlaw07Play cVeneerDescTableFull cVeneerDescTableOpen cVeneerDescTableGet cVeneerref07Same : FuncId) (v2 v4 v7 v9 : IV) (H : Heap) : Option (IV × Heap) :=
    ob (lloadn H 6 v4) fun t1 =>
    ob (φ cVeneerDescTableOpen [v7, t1] H) fun r2 =>
    ob (iextract r2.1 0) fun t3 =>
    ob (iextract r2.1 1) fun t4 =>
    veneerlaw07DescAloneC7S cal φ N cVeneerlaw07Awake cDescNew cVeneerlaw07Play cVeneerDescTableFull cVeneerDescTableOpen cVeneerDescTableGet cVeneerref07Same v2 v4 v7 v9 t3 t4 r2.2
theorem veneerlaw07DescAloneC8Eq (cal : FuncId → Bool) (φ : Oracle) (N : Nat) (cVeneerlaw07Awake cDescNew cVeneerlaw07Play cVeneerDescTableFull cVeneerDescTableOpen cVeneerDescTableGet cVeneerref07Same : FuncId) {k : KT (IV × Heap)} (hR : ∀ σ H, k .ret σ H = resK [(.tmp 6)] [] σ H) : ∀ (σ : Sg) (H : Heap), lxK cal φ N (veneerlaw07DescAloneC8 cVeneerlaw07Awake cDescNew cVeneerlaw07Play cVeneerDescTableFull cVeneerDescTableOpen cVeneerDescTableGet cVeneerref07Same) σ H k = veneerlaw07DescAloneC8S cal φ N cVeneerlaw07Awake cDescNew cVeneerlaw07Play cVeneerDescTableFull cVeneerDescTableOpen cVeneerDescTableGet cVeneerref07Same (lk σ 2) (lk σ 4) (lk σ 7) (lk σ 9) H := by
  have hk : k = (kR (resK [(.tmp 6)] []) k) := (kR_mk hR rfl)
  intro σ H
  rw [hk]
  show lxK cal φ N (.reg [
    ⟨(some 44), (.mv (.t 7)), none⟩,
    ⟨(some 45), (.ldn 6 (.t 4)), none⟩,
    ⟨(some 46), (.callF cVeneerDescTableOpen [(.t 44), (.t 45)]), none⟩,
    ⟨(some 43), (.mv (.t 46)), none⟩,
    ⟨(some 47), (.ext (.t 43) 0), none⟩,
    ⟨(some 48), (.ext (.t 43) 1), none⟩,
    ⟨(some 10), (.mv (.t 47)), none⟩,
    ⟨(some 11), (.mv (.t 48)), none⟩]) σ H (seqK (lxK cal φ N (veneerlaw07DescAloneC7 cVeneerlaw07Awake cDescNew cVeneerlaw07Play cVeneerDescTableFull cVeneerDescTableOpen cVeneerDescTableGet cVeneerref07Same)) (kR (resK [(.tmp 6)] []) k)) = _
  rw [seqK_mk (g := fun σ H => veneerlaw07DescAloneC7S cal φ N cVeneerlaw07Awake cDescNew cVeneerlaw07Play cVeneerDescTableFull cVeneerDescTableOpen cVeneerDescTableGet cVeneerref07Same (lk σ 2) (lk σ 4) (lk σ 7) (lk σ 9) (lk σ 10) (lk σ 11) H) (veneerlaw07DescAloneC7Eq cal φ N cVeneerlaw07Awake cDescNew cVeneerlaw07Play cVeneerDescTableFull cVeneerDescTableOpen cVeneerDescTableGet cVeneerref07Same (k := (kR (resK [(.tmp 6)] []) k)) (fun _ _ => rfl))]
  kernel_rfl
def veneerlaw07DescAloneC9S (cal : FuncId → Bool) (φ : Oracle) (N : Nat) (cVeneerlaw07Awake cDescNew cVeneerlaw07Play cVeneerDescTableFull cVeneerDescTableOpen cVeneerDescTableGet cVeneerref07Same : FuncId) (v2 v4 v7 : IV) (H : Heap) : Option (IV × Heap) :=
    ob (φ cVeneerDescTableFull [v7] H) fun r1 =>
    veneerlaw07DescAloneC8S cal φ N cVeneerlaw07Awake cDescNew cVeneerlaw07Play cVeneerDescTableFull cVeneerDescTableOpen cVeneerDescTableGet cVeneerref07Same v2 v4 v7 r1.1 r1.2
theorem veneerlaw07DescAloneC9Eq (cal : FuncId → Bool) (φ : Oracle) (N : Nat) (cVeneerlaw07Awake cDescNew cVeneerlaw07Play cVeneerDescTableFull cVeneerDescTableOpen cVeneerDescTableGet cVeneerref07Same : FuncId) {k : KT (IV × Heap)} (hR : ∀ σ H, k .ret σ H = resK [(.tmp 6)] [] σ H) : ∀ (σ : Sg) (H : Heap), lxK cal φ N (veneerlaw07DescAloneC9 cVeneerlaw07Awake cDescNew cVeneerlaw07Play cVeneerDescTableFull cVeneerDescTableOpen cVeneerDescTableGet cVeneerref07Same) σ H k = veneerlaw07DescAloneC9S cal φ N cVeneerlaw07Awake cDescNew cVeneerlaw07Play cVeneerDescTableFull cVeneerDescTableOpen cVeneerDescTableGet cVeneerref07Same (lk σ 2) (lk σ 4) (lk σ 7) H := by
  have hk : k = (kR (resK [(.tmp 6)] []) k) := (kR_mk hR rfl)
  intro σ H
  rw [hk]
  show lxK cal φ N (.reg [
    ⟨(some 41), (.mv (.t 7)), none⟩,
    ⟨(some 42), (.callF cVeneerDescTableFull [(.t 41)]), none⟩,
    ⟨(some 9), (.mv (.t 42)), none⟩]) σ H (seqK (lxK cal φ N (veneerlaw07DescAloneC8 cVeneerlaw07Awake cDescNew cVeneerlaw07Play cVeneerDescTableFull cVeneerDescTableOpen cVeneerDescTableGet cVeneerref07Same)) (kR (resK [(.tmp 6)] []) k)) = _
  rw [seqK_mk (g := fun σ H => veneerlaw07DescAloneC8S cal φ N cVeneerlaw07Awake cDescNew cVeneerlaw07Play cVeneerDescTableFull cVeneerDescTableOpen cVeneerDescTableGet cVeneerref07Same (lk σ 2) (lk σ 4) (lk σ 7) (lk σ 9) H) (veneerlaw07DescAloneC8Eq cal φ N cVeneerlaw07Awake cDescNew cVeneerlaw07Play cVeneerDescTableFull cVeneerDescTableOpen cVeneerDescTableGet cVeneerref07Same (k := (kR (resK [(.tmp 6)] []) k)) (fun _ _ => rfl))]
  kernel_rfl
def veneerlaw07DescAloneC0S (cal : FuncId → Bool) (φ : Oracle) (N : Nat) (cVeneerlaw07Awake cDescNew cVeneerlaw07Play cVeneerDescTableFull cVeneerDescTableOpen cVeneerDescTableGet cVeneerref07Same : FuncId) (gE0 : IV → IV → IV → Heap → Option (IV × Heap)) : Nat → IV → IV → IV → IV → IV → Heap → Option (IV × Heap)
  | 0, _, _, _, _, _, _ => none
  | n + 1, v0, v2, v4, v7, v8, H =>
    ob (llen H .slice v0) fun t1 =>
    ob (lbin .lss v8 t1) fun t2 =>
    ob (gq (isB t2 true) (some v8)) fun t3 =>
    ob (gq (isB t2 true) (lbin .lss t3 (.int .i64 120))) fun t4 =>
    ob (lpick t2 t4 (.bool false)) fun t5 =>
    cnd t5
    (ob (lix 8 v0 v8) fun t6 =>
    ob (lloadn H 8 t6) fun t7 =>
    ob (φ cVeneerlaw07Play [v7, t7] H) fun r8 =>
    ob (lbin .add v8 (.int .i64 1)) fun t9 =>
    veneerlaw07DescAloneC0S cal φ N cVeneerlaw07Awake cDescNew cVeneerlaw07Play cVeneerDescTableFull cVeneerDescTableOpen cVeneerDescTableGet cVeneerref07Same gE0 n v0 v2 v4 v7 t9 r8.2)
    (gE0 v2 v4 v7 H)
theorem veneerlaw07DescAloneC0Eq (cal : FuncId → Bool) (φ : Oracle) (N : Nat) (cVeneerlaw07Awake cDescNew cVeneerlaw07Play cVeneerDescTableFull cVeneerDescTableOpen cVeneerDescTableGet cVeneerref07Same : FuncId) {k : KT (IV × Heap)} (gE0 : IV → IV → IV → Heap → Option (IV × Heap)) (hgE0 : ∀ σ H, k (.exit 0) σ H = gE0 (lk σ 2) (lk σ 4) (lk σ 7) H) : ∀ (n : Nat) (σ : Sg) (H : Heap), itK (lxK cal φ N (.seq (.seq (.reg [
    ⟨(some 25), (.mv (.t 8)), none⟩,
    ⟨(some 26), (.mv (.t 0)), none⟩,
    ⟨(some 27), (.len .slice (.t 26)), none⟩,
    ⟨(some 28), (.bin .lss (.t 25) (.t 27)), none⟩,
    ⟨(some 29), (.mv (.t 28)), none⟩,
    ⟨(some 30), (.mv (.t 8)), (some (29, true))⟩,
    ⟨(some 31), (.bin .lss (.t 30) (.k (.int .i64 120))), (some (29, true))⟩,
    ⟨(some 32), (.pick (.t 29) (.t 31) (.k (.bool false))), none⟩])
  (.cond (.t 32) .skip
  (.exit 0)))
  (.seq (.block 1 (.reg [
    ⟨(some 35), (.mv (.t 7)), none⟩,
    ⟨(some 36), (.mv (.t 0)), none⟩,
    ⟨(some 37), (.mv (.t 8)), none⟩,
    ⟨(some 38), (.ix 8 (.t 36) (.t 37)), none⟩,
    ⟨(some 39), (.ldn 8 (.t 38)), none⟩,
    ⟨(some 40), (.callF cVeneerlaw07Play [(.t 35), (.t 39)]), none⟩]))
  (.reg [
    ⟨(some 33), (.mv (.t 8)), none⟩,
    ⟨(some 34), (.bin .add (.t 33) (.k (.int .i64 1))), none⟩,
    ⟨(some 8), (.mv (.t 34)), none⟩])))) n σ H k = veneerlaw07DescAloneC0S cal φ N cVeneerlaw07Awake cDescNew cVeneerlaw07Play cVeneerDescTableFull cVeneerDescTableOpen cVeneerDescTableGet cVeneerref07Same gE0 n (lk σ 0) (lk σ 2) (lk σ 4) (lk σ 7) (lk σ 8) H := by
  have hk : k = (kE 0 (fun σ H => gE0 (lk σ 2) (lk σ 4) (lk σ 7) H) k) := (kE_mk hgE0 rfl)
  intro n
  induction n with
  | zero => intro σ H; rfl
  | succ n ih =>
    intro σ H
    rw [itK_succ, seqK_mk (g := fun σ H => veneerlaw07DescAloneC0S cal φ N cVeneerlaw07Awake cDescNew cVeneerlaw07Play cVeneerDescTableFull cVeneerDescTableOpen cVeneerDescTableGet cVeneerref07Same gE0 n (lk σ 0) (lk σ 2) (lk σ 4) (lk σ 7) (lk σ 8) H) ih, hk]
    kernel_rfl
def veneerlaw07DescAloneC1S (cal : FuncId → Bool) (φ : Oracle) (N : Nat) (cVeneerlaw07Awake cDescNew cVeneerlaw07Play cVeneerDescTableFull cVeneerDescTableOpen cVeneerDescTableGet cVeneerref07Same : FuncId) (gN : IV → IV → IV → Heap → Option (IV × Heap)) (v0 v2 v4 v7 v8 : IV) (H : Heap) : Option (IV × Heap) :=
    veneerlaw07DescAloneC0S cal φ N cVeneerlaw07Awake cDescNew cVeneerlaw07Play cVeneerDescTableFull cVeneerDescTableOpen cVeneerDescTableGet cVeneerref07Same (fun v2 v4 v7 H => gN v2 v4 v7 H) N v0 v2 v4 v7 v8 H
theorem veneerlaw07DescAloneC1Eq (cal : FuncId → Bool) (φ : Oracle) (N : Nat) (cVeneerlaw07Awake cDescNew cVeneerlaw07Play cVeneerDescTableFull cVeneerDescTableOpen cVeneerDescTableGet cVeneerref07Same : FuncId) {k : KT (IV × Heap)} (gN : IV → IV → IV → Heap → Option (IV × Heap)) (hgN : ∀ σ H, k .normal σ H = gN (lk σ 2) (lk σ 4) (lk σ 7) H) : ∀ (σ : Sg) (H : Heap), lxK cal φ N (veneerlaw07DescAloneC1 cVeneerlaw07Awake cDescNew cVeneerlaw07Play cVeneerDescTableFull cVeneerDescTableOpen cVeneerDescTableGet cVeneerref07Same) σ H k = veneerlaw07DescAloneC1S cal φ N cVeneerlaw07Awake cDescNew cVeneerlaw07Play cVeneerDescTableFull cVeneerDescTableOpen cVeneerDescTableGet cVeneerref07Same gN (lk σ 0) (lk σ 2) (lk σ 4) (lk σ 7) (lk σ 8) H := by
  have hk : k = (kN (fun σ H => gN (lk σ 2) (lk σ 4) (lk σ 7) H) k) := (kN_mk hgN rfl)
  intro σ H
  rw [hk]
  show lxK cal φ N (veneerlaw07DescAloneC0 cVeneerlaw07Awake cDescNew cVeneerlaw07Play cVeneerDescTableFull cVeneerDescTableOpen cVeneerDescTableGet cVeneerref07Same) σ H (blockK 0 (kN (fun σ H => gN (lk σ 2) (lk σ 4) (lk σ 7) H) k)) = _
  exact veneerlaw07DescAloneC0Eq cal φ N cVeneerlaw07Awake cDescNew cVeneerlaw07Play cVeneerDescTableFull cVeneerDescTableOpen cVeneerDescTableGet cVeneerref07Same (k := (blockK 0 (kN (fun σ H => gN (lk σ 2) (lk σ 4) (lk σ 7) H) k))) (fun v2 v4 v7 H => gN v2 v4 v7 H) (fun _ _ => rfl) N σ H
def veneerlaw07DescAloneC2S (cal : FuncId → Bool) (φ : Oracle) (N : Nat) (cVeneerlaw07Awake cDescNew cVeneerlaw07Play cVeneerDescTableFull cVeneerDescTableOpen cVeneerDescTableGet cVeneerref07Same : FuncId) (gN : IV → IV → IV → Heap → Option (IV × Heap)) (v0 v2 v4 v7 : IV) (H : Heap) : Option (IV × Heap) :=
    veneerlaw07DescAloneC1S cal φ N cVeneerlaw07Awake cDescNew cVeneerlaw07Play cVeneerDescTableFull cVeneerDescTableOpen cVeneerDescTableGet cVeneerref07Same (fun v2 v4 v7 H => gN v2 v4 v7 H) v0 v2 v4 v7 (.int .i64 0) H
theorem veneerlaw07DescAloneC2Eq (cal : FuncId → Bool) (φ : Oracle) (N : Nat) (cVeneerlaw07Awake cDescNew cVeneerlaw07Play cVeneerDescTableFull cVeneerDescTableOpen cVeneerDescTableGet cVeneerref07Same : FuncId) {k : KT (IV × Heap)} (gN : IV → IV → IV → Heap → Option (IV × Heap)) (hgN : ∀ σ H, k .normal σ H = gN (lk σ 2) (lk σ 4) (lk σ 7) H) : ∀ (σ : Sg) (H : Heap), lxK cal φ N (veneerlaw07DescAloneC2 cVeneerlaw07Awake cDescNew cVeneerlaw07Play cVeneerDescTableFull cVeneerDescTableOpen cVeneerDescTableGet cVeneerref07Same) σ H k = veneerlaw07DescAloneC2S cal φ N cVeneerlaw07Awake cDescNew cVeneerlaw07Play cVeneerDescTableFull cVeneerDescTableOpen cVeneerDescTableGet cVeneerref07Same gN (lk σ 0) (lk σ 2) (lk σ 4) (lk σ 7) H := by
  have hk : k = (kN (fun σ H => gN (lk σ 2) (lk σ 4) (lk σ 7) H) k) := (kN_mk hgN rfl)
  intro σ H
  rw [hk]
  show lxK cal φ N (.reg [
    ⟨(some 8), (.mv (.k (.int .i64 0))), none⟩]) σ H (seqK (lxK cal φ N (veneerlaw07DescAloneC1 cVeneerlaw07Awake cDescNew cVeneerlaw07Play cVeneerDescTableFull cVeneerDescTableOpen cVeneerDescTableGet cVeneerref07Same)) (kN (fun σ H => gN (lk σ 2) (lk σ 4) (lk σ 7) H) k)) = _
  rw [seqK_mk (g := fun σ H => veneerlaw07DescAloneC1S cal φ N cVeneerlaw07Awake cDescNew cVeneerlaw07Play cVeneerDescTableFull cVeneerDescTableOpen cVeneerDescTableGet cVeneerref07Same (fun v2 v4 v7 H => gN v2 v4 v7 H) (lk σ 0) (lk σ 2) (lk σ 4) (lk σ 7) (lk σ 8) H) (veneerlaw07DescAloneC1Eq cal φ N cVeneerlaw07Awake cDescNew cVeneerlaw07Play cVeneerDescTableFull cVeneerDescTableOpen cVeneerDescTableGet cVeneerref07Same (k := (kN (fun σ H => gN (lk σ 2) (lk σ 4) (lk σ 7) H) k)) (fun v2 v4 v7 H => gN v2 v4 v7 H) (fun _ _ => rfl))]
  kernel_rfl
def veneerlaw07DescAloneC10S (cal : FuncId → Bool) (φ : Oracle) (N : Nat) (cVeneerlaw07Awake cDescNew cVeneerlaw07Play cVeneerDescTableFull cVeneerDescTableOpen cVeneerDescTableGet cVeneerref07Same : FuncId) (v0 v2 v4 v7 : IV) (H : Heap) : Option (IV × Heap) :=
    veneerlaw07DescAloneC2S cal φ N cVeneerlaw07Awake cDescNew cVeneerlaw07Play cVeneerDescTableFull cVeneerDescTableOpen cVeneerDescTableGet cVeneerref07Same (fun v2 v4 v7 H => veneerlaw07DescAloneC9S cal φ N cVeneerlaw07Awake cDescNew cVeneerlaw07Play cVeneerDescTableFull cVeneerDescTableOpen cVeneerDescTableGet cVeneerref07Same v2 v4 v7 H) v0 v2 v4 v7 H
theorem veneerlaw07DescAloneC10Eq (cal : FuncId → Bool) (φ : Oracle) (N : Nat) (cVeneerlaw07Awake cDescNew cVeneerlaw07Play cVeneerDescTableFull cVeneerDescTableOpen cVeneerDescTableGet cVeneerref07Same : FuncId) {k : KT (IV × Heap)} (hR : ∀ σ H, k .ret σ H = resK [(.tmp 6)] [] σ H) : ∀ (σ : Sg) (H : Heap), lxK cal φ N (veneerlaw07DescAloneC10 cVeneerlaw07Awake cDescNew cVeneerlaw07Play cVeneerDescTableFull cVeneerDescTableOpen cVeneerDescTableGet cVeneerref07Same) σ H k = veneerlaw07DescAloneC10S cal φ N cVeneerlaw07Awake cDescNew cVeneerlaw07Play cVeneerDescTableFull cVeneerDescTableOpen cVeneerDescTableGet cVeneerref07Same (lk σ 0) (lk σ 2) (lk σ 4) (lk σ 7) H := by
  have hk : k = (kR (resK [(.tmp 6)] []) k) := (kR_mk hR rfl)
  intro σ H
  rw [hk]
  show lxK cal φ N (veneerlaw07DescAloneC2 cVeneerlaw07Awake cDescNew cVeneerlaw07Play cVeneerDescTableFull cVeneerDescTableOpen cVeneerDescTableGet cVeneerref07Same) σ H (seqK (lxK cal φ N (veneerlaw07DescAloneC9 cVeneerlaw07Awake cDescNew cVeneerlaw07Play cVeneerDescTableFull cVeneerDescTableOpen cVeneerDescTableGet cVeneerref07Same)) (kR (resK [(.tmp 6)] []) k)) = _
  rw [seqK_mk (g := fun σ H => veneerlaw07DescAloneC9S cal φ N cVeneerlaw07Awake cDescNew cVeneerlaw07Play cVeneerDescTableFull cVeneerDescTableOpen cVeneerDescTableGet cVeneerref07Same (lk σ 2) (lk σ 4) (lk σ 7) H) (veneerlaw07DescAloneC9Eq cal φ N cVeneerlaw07Awake cDescNew cVeneerlaw07Play cVeneerDescTableFull cVeneerDescTableOpen cVeneerDescTableGet cVeneerref07Same (k := (kR (resK [(.tmp 6)] []) k)) (fun _ _ => rfl))]
  exact veneerlaw07DescAloneC2Eq cal φ N cVeneerlaw07Awake cDescNew cVeneerlaw07Play cVeneerDescTableFull cVeneerDescTableOpen cVeneerDescTableGet cVeneerref07Same (k := (kN (fun σ H => veneerlaw07DescAloneC9S cal φ N cVeneerlaw07Awake cDescNew cVeneerlaw07Play cVeneerDescTableFull cVeneerDescTableOpen cVeneerDescTableGet cVeneerref07Same (lk σ 2) (lk σ 4) (lk σ 7) H) (kR (resK [(.tmp 6)] []) k))) (fun v2 v4 v7 H => veneerlaw07DescAloneC9S cal φ N cVeneerlaw07Awake cDescNew cVeneerlaw07Play cVeneerDescTableFull cVeneerDescTableOpen cVeneerDescTableGet cVeneerref07Same v2 v4 v7 H) (fun _ _ => rfl) σ H
def veneerlaw07DescAloneC11S (cal : FuncId → Bool) (φ : Oracle) (N : Nat) (cVeneerlaw07Awake cDescNew cVeneerlaw07Play cVeneerDescTableFull cVeneerDescTableOpen cVeneerDescTableGet cVeneerref07Same : FuncId) (v0 v2 v4 v7 : IV) (H : Heap) : Option (IV × Heap) :=
    ob (loff v4 4) fun t1 =>
    ob (lload1 H t1) fun t2 =>
    ob (llen H .slice t2) fun t3 =>
    ob (lbin .gtr t3 (.int .i64 100)) fun t4 =>
    cnd t4
    (some ((.bool true), H))
    (veneerlaw07DescAloneC10S cal φ N cVeneerlaw07Awake cDescNew cVeneerlaw07Play cVeneerDescTableFull cVeneerDescTableOpen cVeneerDescTableGet cVeneerref07Same v0 v2 v4 v7 H)
theorem veneerlaw07DescAloneC11Eq (cal : FuncId → Bool) (φ : Oracle) (N : Nat) (cVeneerlaw07Awake cDescNew cVeneerlaw07Play cVeneerDescTableFull cVeneerDescTableOpen cVeneerDescTableGet cVeneerref07Same : FuncId) {k : KT (IV × Heap)} (hR : ∀ σ H, k .ret σ H = resK [(.tmp 6)] [] σ H) : ∀ (σ : Sg) (H : Heap), lxK cal φ N (veneerlaw07DescAloneC11 cVeneerlaw07Awake cDescNew cVeneerlaw07Play cVeneerDescTableFull cVeneerDescTableOpen cVeneerDescTableGet cVeneerref07Same) σ H k = veneerlaw07DescAloneC11S cal φ N cVeneerlaw07Awake cDescNew cVeneerlaw07Play cVeneerDescTableFull cVeneerDescTableOpen cVeneerDescTableGet cVeneerref07Same (lk σ 0) (lk σ 2) (lk σ 4) (lk σ 7) H := by
  have hk : k = (kR (resK [(.tmp 6)] []) k) := (kR_mk hR rfl)
  intro σ H
  rw [hk]
  show lxK cal φ N (.seq (.reg [
    ⟨(some 21), (.off (.t 4) 4), none⟩,
    ⟨(some 22), (.ld1 (.t 21)), none⟩,
    ⟨(some 23), (.len .slice (.t 22)), none⟩,
    ⟨(some 24), (.bin .gtr (.t 23) (.k (.int .i64 100))), none⟩])
  (.cond (.t 24) (.seq (.reg [
    ⟨(some 6), (.mv (.k (.bool true))), none⟩])
  .ret)
  .skip)) σ H (seqK (lxK cal φ N (veneerlaw07DescAloneC10 cVeneerlaw07Awake cDescNew cVeneerlaw07Play cVeneerDescTableFull cVeneerDescTableOpen cVeneerDescTableGet cVeneerref07Same)) (kR (resK [(.tmp 6)] []) k)) = _
  rw [seqK_mk (g := fun σ H => veneerlaw07DescAloneC10S cal φ N cVeneerlaw07Awake cDescNew cVeneerlaw07Play cVeneerDescTableFull cVeneerDescTableOpen cVeneerDescTableGet cVeneerref07Same (lk σ 0) (lk σ 2) (lk σ 4) (lk σ 7) H) (veneerlaw07DescAloneC10Eq cal φ N cVeneerlaw07Awake cDescNew cVeneerlaw07Play cVeneerDescTableFull cVeneerDescTableOpen cVeneerDescTableGet cVeneerref07Same (k := (kR (resK [(.tmp 6)] []) k)) (fun _ _ => rfl))]
  kernel_rfl
def veneerlaw07DescAloneC12S (cal : FuncId → Bool) (φ : Oracle) (N : Nat) (cVeneerlaw07Awake cDescNew cVeneerlaw07Play cVeneerDescTableFull cVeneerDescTableOpen cVeneerDescTableGet cVeneerref07Same : FuncId) (v0 v2 v4 : IV) (H : Heap) : Option (IV × Heap) :=
    ob (φ cDescNew [] H) fun r1 =>
    veneerlaw07DescAloneC11S cal φ N cVeneerlaw07Awake cDescNew cVeneerlaw07Play cVeneerDescTableFull cVeneerDescTableOpen cVeneerDescTableGet cVeneerref07Same v0 v2 v4 r1.1 r1.2
theorem veneerlaw07DescAloneC12Eq (cal : FuncId → Bool) (φ : Oracle) (N : Nat) (cVeneerlaw07Awake cDescNew cVeneerlaw07Play cVeneerDescTableFull cVeneerDescTableOpen cVeneerDescTableGet cVeneerref07Same : FuncId) {k : KT (IV × Heap)} (hR : ∀ σ H, k .ret σ H = resK [(.tmp 6)] [] σ H) : ∀ (σ : Sg) (H : Heap), lxK cal φ N (veneerlaw07DescAloneC12 cVeneerlaw07Awake cDescNew cVeneerlaw07Play cVeneerDescTableFull cVeneerDescTableOpen cVeneerDescTableGet cVeneerref07Same) σ H k = veneerlaw07DescAloneC12S cal φ N cVeneerlaw07Awake cDescNew cVeneerlaw07Play cVeneerDescTableFull cVeneerDescTableOpen cVeneerDescTableGet cVeneerref07Same (lk σ 0) (lk σ 2) (lk σ 4) H := by
  have hk : k = (kR (resK [(.tmp 6)] []) k) := (kR_mk hR rfl)
  intro σ H
  rw [hk]
  show lxK cal φ N (.reg [
    ⟨(some 20), (.callF cDescNew []), none⟩,
    ⟨(some 7), (.mv (.t 20)), none⟩]) σ H (seqK (lxK cal φ N (veneerlaw07DescAloneC11 cVeneerlaw07Awake cDescNew cVeneerlaw07Play cVeneerDescTableFull cVeneerDescTableOpen cVeneerDescTableGet cVeneerref07Same)) (kR (resK [(.tmp 6)] []) k)) = _
  rw [seqK_mk (g := fun σ H => veneerlaw07DescAloneC11S cal φ N cVeneerlaw07Awake cDescNew cVeneerlaw07Play cVeneerDescTableFull cVeneerDescTableOpen cVeneerDescTableGet cVeneerref07Same (lk σ 0) (lk σ 2) (lk σ 4) (lk σ 7) H) (veneerlaw07DescAloneC11Eq cal φ N cVeneerlaw07Awake cDescNew cVeneerlaw07Play cVeneerDescTableFull cVeneerDescTableOpen cVeneerDescTableGet cVeneerref07Same (k := (kR (resK [(.tmp 6)] []) k)) (fun _ _ => rfl))]
  kernel_rfl
def veneerlaw07DescAloneC13S (cal : FuncId → Bool) (φ : Oracle) (N : Nat) (cVeneerlaw07Awake cDescNew cVeneerlaw07Play cVeneerDescTableFull cVeneerDescTableOpen cVeneerDescTableGet cVeneerref07Same : FuncId) (v0 v2 v4 : IV) (H : Heap) : Option (IV × Heap) :=
    ob (φ cVeneerlaw07Awake [] H) fun r1 =>
    ob (iun .not r1.1) fun t2 =>
    cnd t2
    (some ((.bool false), r1.2))
    (veneerlaw07DescAloneC12S cal φ N cVeneerlaw07Awake cDescNew cVeneerlaw07Play cVeneerDescTableFull cVeneerDescTableOpen cVeneerDescTableGet cVeneerref07Same v0 v2 v4 r1.2)
theorem veneerlaw07DescAloneC13Eq (cal : FuncId → Bool) (φ : Oracle) (N : Nat) (cVeneerlaw07Awake cDescNew cVeneerlaw07Play cVeneerDescTableFull cVeneerDescTableOpen cVeneerDescTableGet cVeneerref07Same : FuncId) {k : KT (IV × Heap)} (hR : ∀ σ H, k .ret σ H = resK [(.tmp 6)] [] σ H) : ∀ (σ : Sg) (H : Heap), lxK cal φ N (veneerlaw07DescAloneC13 cVeneerlaw07Awake cDescNew cVeneerlaw07Play cVeneerDescTableFull cVeneerDescTableOpen cVeneerDescTableGet cVeneerref07Same) σ H k = veneerlaw07DescAloneC13S cal φ N cVeneerlaw07Awake cDescNew cVeneerlaw07Play cVeneerDescTableFull cVeneerDescTableOpen cVeneerDescTableGet cVeneerref07Same (lk σ 0) (lk σ 2) (lk σ 4) H := by
  have hk : k = (kR (resK [(.tmp 6)] []) k) := (kR_mk hR rfl)
  intro σ H
  rw [hk]
  show lxK cal φ N (.seq (.reg [
    ⟨(some 18), (.callF cVeneerlaw07Awake []), none⟩,
    ⟨(some 19), (.un .not (.t 18)), none⟩])
  (.cond (.t 19) (.seq (.reg [
    ⟨(some 6), (.mv (.k (.bool false))), none⟩])
  .ret)
  .skip)) σ H (seqK (lxK cal φ N (veneerlaw07DescAloneC12 cVeneerlaw07Awake cDescNew cVeneerlaw07Play cVeneerDescTableFull cVeneerDescTableOpen cVeneerDescTableGet cVeneerref07Same)) (kR (resK [(.tmp 6)] []) k)) = _
  rw [seqK_mk (g := fun σ H => veneerlaw07DescAloneC12S cal φ N cVeneerlaw07Awake cDescNew cVeneerlaw07Play cVeneerDescTableFull cVeneerDescTableOpen cVeneerDescTableGet cVeneerref07Same (lk σ 0) (lk σ 2) (lk σ 4) H) (veneerlaw07DescAloneC12Eq cal φ N cVeneerlaw07Awake cDescNew cVeneerlaw07Play cVeneerDescTableFull cVeneerDescTableOpen cVeneerDescTableGet cVeneerref07Same (k := (kR (resK [(.tmp 6)] []) k)) (fun _ _ => rfl))]
  kernel_rfl
def veneerlaw07DescAloneC14S (cal : FuncId → Bool) (φ : Oracle) (N : Nat) (cVeneerlaw07Awake cDescNew cVeneerlaw07Play cVeneerDescTableFull cVeneerDescTableOpen cVeneerDescTableGet cVeneerref07Same : FuncId) (v0 v1 v2 : IV) (H : Heap) : Option (IV × Heap) :=
    ob (lbox H v1) fun r1 =>
    veneerlaw07DescAloneC13S cal φ N cVeneerlaw07Awake cDescNew cVeneerlaw07Play cVeneerDescTableFull cVeneerDescTableOpen cVeneerDescTableGet cVeneerref07Same v0 v2 r1.1 r1.2
theorem veneerlaw07DescAloneC14Eq (cal : FuncId → Bool) (φ : Oracle) (N : Nat) (cVeneerlaw07Awake cDescNew cVeneerlaw07Play cVeneerDescTableFull cVeneerDescTableOpen cVeneerDescTableGet cVeneerref07Same : FuncId) {k : KT (IV × Heap)} (hR : ∀ σ H, k .ret σ H = resK [(.tmp 6)] [] σ H) : ∀ (σ : Sg) (H : Heap), lxK cal φ N (veneerlaw07DescAloneC14 cVeneerlaw07Awake cDescNew cVeneerlaw07Play cVeneerDescTableFull cVeneerDescTableOpen cVeneerDescTableGet cVeneerref07Same) σ H k = veneerlaw07DescAloneC14S cal φ N cVeneerlaw07Awake cDescNew cVeneerlaw07Play cVeneerDescTableFull cVeneerDescTableOpen cVeneerDescTableGet cVeneerref07Same (lk σ 0) (lk σ 1) (lk σ 2) H := by
  have hk : k = (kR (resK [(.tmp 6)] []) k) := (kR_mk hR rfl)
  intro σ H
  rw [hk]
  show lxK cal φ N (.reg [
    ⟨(some 4), (.box (.t 1)), none⟩,
    ⟨(some 6), (.mv (.k (.bool false))), none⟩]) σ H (seqK (lxK cal φ N (veneerlaw07DescAloneC13 cVeneerlaw07Awake cDescNew cVeneerlaw07Play cVeneerDescTableFull cVeneerDescTableOpen cVeneerDescTableGet cVeneerref07Same)) (kR (resK [(.tmp 6)] []) k)) = _
  rw [seqK_mk (g := fun σ H => veneerlaw07DescAloneC13S cal φ N cVeneerlaw07Awake cDescNew cVeneerlaw07Play cVeneerDescTableFull cVeneerDescTableOpen cVeneerDescTableGet cVeneerref07Same (lk σ 0) (lk σ 2) (lk σ 4) H) (veneerlaw07DescAloneC13Eq cal φ N cVeneerlaw07Awake cDescNew cVeneerlaw07Play cVeneerDescTableFull cVeneerDescTableOpen cVeneerDescTableGet cVeneerref07Same (k := (kR (resK [(.tmp 6)] []) k)) (fun _ _ => rfl))]
  kernel_rfl
def veneerlaw07DescAlone (cVeneerlaw07Awake cDescNew cVeneerlaw07Play cVeneerDescTableFull cVeneerDescTableOpen cVeneerDescTableGet cVeneerref07Same : FuncId) : LFun := ⟨(veneerlaw07DescAloneC14 cVeneerlaw07Awake cDescNew cVeneerlaw07Play cVeneerDescTableFull cVeneerDescTableOpen cVeneerDescTableGet cVeneerref07Same), [(.tmp 6)], 123⟩
def veneerlaw07DescAloneS (cal : FuncId → Bool) (φ : Oracle) (N : Nat) (cVeneerlaw07Awake cDescNew cVeneerlaw07Play cVeneerDescTableFull cVeneerDescTableOpen cVeneerDescTableGet cVeneerref07Same : FuncId) (v0 v1 v2 : IV) (H : Heap) : Option (IV × Heap) :=
    veneerlaw07DescAloneC14S cal φ N cVeneerlaw07Awake cDescNew cVeneerlaw07Play cVeneerDescTableFull cVeneerDescTableOpen cVeneerDescTableGet cVeneerref07Same v0 v1 v2 H
theorem veneerlaw07DescAloneEq (cal : FuncId → Bool) (φ : Oracle) (N : Nat) (cVeneerlaw07Awake cDescNew cVeneerlaw07Play cVeneerDescTableFull cVeneerDescTableOpen cVeneerDescTableGet cVeneerref07Same : FuncId) (v0 v1 v2 : IV) (H : Heap) : lrunK cal φ N (veneerlaw07DescAlone cVeneerlaw07Awake cDescNew cVeneerlaw07Play cVeneerDescTableFull cVeneerDescTableOpen cVeneerDescTableGet cVeneerref07Same) [v0, v1, v2] H = veneerlaw07DescAloneS cal φ N cVeneerlaw07Awake cDescNew cVeneerlaw07Play cVeneerDescTableFull cVeneerDescTableOpen cVeneerDescTableGet cVeneerref07Same v0 v1 v2 H := by
  show lxK cal φ N (veneerlaw07DescAloneC14 cVeneerlaw07Awake cDescNew cVeneerlaw07Play cVeneerDescTableFull cVeneerDescTableOpen cVeneerDescTableGet cVeneerref07Same) (initFrom 0 [v0, v1, v2]) H (endK [(.tmp 6)]) = _
  exact veneerlaw07DescAloneC14Eq cal φ N cVeneerlaw07Awake cDescNew cVeneerlaw07Play cVeneerDescTableFull cVeneerDescTableOpen cVeneerDescTableGet cVeneerref07Same (k := (endK [(.tmp 6)])) (fun _ _ => rfl) (initFrom 0 [v0, v1, v2]) H

end Go.Shade
/- DESC, part 6: 'DescAlone'. -/
namespace Go.Shade
set_option linter.unusedVariables false
set_option linter.unusedSimpArgs false
def AwOk (φ : Oracle) (f : FuncId) : Prop := ∀ H : Heap, φ f [] H = some (.bool true, H)
/-- Only what is above L is changed. -/
abbrev Up (L : Nat) : Nat → Prop := fun i => L ≤ i
section
variable {cal : FuncId → Bool} {φ : Oracle} {N : Nat} {aw nw pl fu op gt sm : FuncId}
theorem alone_go1 (hp : PlayOk φ pl) {L t q : Nat} {v0 v2 : IV} {l : List Ac} {gE0 : IV → IV → IV → Heap → Option Out} {Q : Out → Prop} {H0 : Heap} (ht : L ≤ t) (hqt : q ≠ t)
    (hQ : ∀ H G tab, Frame (fun i => i = t) H0 H → TabOk G H t tab → (∀ j, G j → H0.length ≤ j) → Wp (gE0 v2 (.ptr q 0) (.ptr t 0) H) Q) (hv : AcsV L H0 v0 l) :
    ∀ (k i n : Nat) (H : Heap) (G : Nat → Prop) (tab : Tab), i + k = 120 → k < n → Frame (fun i => i = t) H0 H → TabOk G H t tab → (∀ j, G j → H0.length ≤ j) →
      Wp (veneerlaw07DescAloneC0S cal φ N aw nw pl fu op gt sm gE0 n v0 v2 (.ptr q 0) (.ptr t 0) (.int .i64 (i : Nat)) H) Q := by
  intro k
  induction k with
  | zero =>
    intro i n H G tab hi hn hK hT hG
    obtain ⟨n, rfl⟩ : ∃ j, n = j + 1 := ⟨n - 1, by omega⟩
    have hvH := hv.frame (hK.mono fun i e => by subst e; exact ht)
    obtain ⟨_, cs, hsl, _⟩ := hvH
    rw [veneerlaw07DescAloneC0S, hsl.len, ob_some, lbin_lss, ob_some]
    cases decide (((i : Nat) : Int) < (l.length : Nat))
    · simp only [isB_ft, gq_false, ob_some, lpick_false, cnd_false]
      exact hQ H G tab hK hT hG
    · simp only [isB_tt, gq_true, ob_some, lbin_lss]
      rw [lpick_true, ob_some, decide_eq_false (by omega), cnd_false]
      exact hQ H G tab hK hT hG
  | succ k ih =>
    intro i n H G tab hi hn hK hT hG
    obtain ⟨n, rfl⟩ : ∃ j, n = j + 1 := ⟨n - 1, by omega⟩
    have hvH := hv.frame (hK.mono fun i e => by subst e; exact ht)
    obtain ⟨_, cs, hsl, _⟩ := id hvH
    rw [veneerlaw07DescAloneC0S, hsl.len, ob_some, lbin_lss, ob_some]
    by_cases hlt : i < l.length
    · rw [decide_eq_true (by omega)]
      simp only [isB_tt, gq_true, ob_some, lbin_lss]
      rw [lpick_true, ob_some, decide_eq_true (by omega), cnd_true]
      obtain ⟨p, nv, e1, e2, e3⟩ := hvH.at (List.getElem?_eq_getElem hlt)
      rw [e1, ob_some, e2, ob_some]
      refine Wp.call (hp _ G H t tab l[i] nv hT e3) ?_
      rintro ⟨r, H2⟩ ⟨f1, G', tab', f2, f3, _⟩
      simp only at f1 f2 ⊢
      rw [lbin_add, ob_some, wrap_i64 (by omega) (by omega), show ((i : Nat) : Int) + 1 = ((i + 1 : Nat) : Int) by omega]
      refine ih (i + 1) n H2 G' tab' (by omega) (by omega) (hK.tr f1) f2 fun j hj => ?_
      rcases f3 j hj with h | h
      · exact hG j h
      · exact Nat.le_trans hK.1 h
    · rw [decide_eq_false (by omega)]
      simp only [isB_ft, gq_false, ob_some, lpick_false, cnd_false]
      exact hQ H G tab hK hT hG
theorem ac8 (a : Ac) (nv : IV) : (a.cells nv)[0]? = some (.int .i64 a.kind) ∧ (a.cells nv)[1]? = some (.int .i64 a.fd) ∧ (a.cells nv)[2 + 4]? = some nv := ⟨rfl, rfl, rfl⟩
theorem alone_go2 (hp : PlayOk φ pl) (ho : OpenOk φ op) {L t q : Nat} {v2 : IV} {l : List Ac} {k0 : Nat} {d : Dsc} {gE0 : IV → IV → IV → IV → Heap → Option Out} {Q : Out → Prop} {H0 : Heap} (ht : L ≤ t) (hk0 : k0 < 32) (htl : t < H0.length)
    (hret : ∀ H, False → Q (.bool false, H))
    (hQ : ∀ H G tab, Frame (fun i => i = t) H0 H → TabOk G H t tab → tab[k0]? = some (some d) → Wp (gE0 (.ptr q 0) (.ptr t 0) (.int .i64 (k0 : Nat)) (.int .i64 0) H) Q) (hv : AcsV L H0 v2 l) :
    ∀ (k i n : Nat) (H : Heap) (G : Nat → Prop) (tab : Tab), i + k = 120 → k < n → Frame (fun i => i = t) H0 H → TabOk G H t tab → tab[k0]? = some (some d) →
      Wp (veneerlaw07DescAloneC3S cal φ N aw nw pl fu op gt sm gE0 n v2 (.ptr q 0) (.ptr t 0) (.int .i64 (k0 : Nat)) (.int .i64 0) (.int .i64 (i : Nat)) H) Q := by
  intro k
  induction k with
  | zero =>
    intro i n H G tab hi hn hK hT hd
    obtain ⟨n, rfl⟩ : ∃ j, n = j + 1 := ⟨n - 1, by omega⟩
    have hvH := hv.frame (hK.mono fun i e => by subst e; exact ht)
    obtain ⟨_, cs, hsl, _⟩ := hvH
    rw [veneerlaw07DescAloneC3S, hsl.len, ob_some, lbin_lss, ob_some]
    cases decide (((i : Nat) : Int) < (l.length : Nat))
    · simp only [isB_ft, gq_false, ob_some, lpick_false, cnd_false]
      exact hQ H G tab hK hT hd
    · simp only [isB_tt, gq_true, ob_some, lbin_lss]
      rw [lpick_true, ob_some, decide_eq_false (by omega), cnd_false]
      exact hQ H G tab hK hT hd
  | succ k ih =>
    intro i n H G tab hi hn hK hT hd
    obtain ⟨n, rfl⟩ : ∃ j, n = j + 1 := ⟨n - 1, by omega⟩
    have hvH := hv.frame (hK.mono fun i e => by subst e; exact ht)
    obtain ⟨_, cs, hsl, _⟩ := id hvH
    rw [veneerlaw07DescAloneC3S, hsl.len, ob_some, lbin_lss, ob_some]
    by_cases hlt : i < l.length
    · rw [decide_eq_true (by omega)]
      simp only [isB_tt, gq_true, ob_some, lbin_lss]
      rw [lpick_true, ob_some, decide_eq_true (by omega), cnd_true, jn_eq]
      obtain ⟨p, nv, e1, e2, e3⟩ := hvH.at (List.getElem?_eq_getElem hlt)
      generalize l[i] = a at *
      rw [e1, ob_some, e2, ob_some, lzbox_eq, ob_some]
      simp only [cells_agg]
      rw [stn (n := 8) newRow (a.cells_one e3.one) rfl rfl, ob_some, setRow]
      simp only
      have k1 : Frame NoF H (H ++ [IObj.row (a.cells nv) false]) := Frame.push _ _ _
      have r1 := newRow (H := H) (o := IObj.row (a.cells nv) false)
      have hT1 := hT.kp k1
      have e31 := e3.kp k1
      have kk1 := hK.tr k1.no
      generalize H ++ [IObj.row (a.cells nv) false] = K at *
      obtain ⟨c0, c1, c6⟩ := ac8 a nv
      simp only [loff_ptr, ob_some, Nat.zero_add, ld1 r1, c0, c1, c6, lbin_eql]
      have next : ∀ (K2 : Heap) (G' : Nat → Prop) (tab' : Tab), Frame (fun i => i = t) K K2 → TabOk G' K2 t tab' → tab'[k0]? = some (some d) → Wp (ob (lbin .add (.int .i64 (i : Nat)) (.int .i64 1)) fun t37 => veneerlaw07DescAloneC3S cal φ N aw nw pl fu op gt sm gE0 n v2 (.ptr q 0) (.ptr t 0) (.int .i64 (k0 : Nat)) (.int .i64 0) t37 K2) Q := by
        intro K2 G' tab' f1 f2 f3
        rw [lbin_add, ob_some, wrap_i64 (by omega) (by omega), show ((i : Nat) : Int) + 1 = ((i + 1 : Nat) : Int) by omega]
        exact ih (i + 1) n K2 G' tab' (by omega) (by omega) (kk1.tr f1) f2 f3
      have l6 : lloadn K 6 (.ptr H.length 2) = some (.agg (a.d.cells nv)) := by rw [lloadn_ptr, r1, ogn_row]; rfl
      have l8 : lloadn K 8 (.ptr H.length 0) = some (.agg (a.cells nv)) := ldn r1 rfl
      have rest : (a.kind = 0 ∨ a.fd ≠ (k0 : Nat)) → Wp (ob (some (IV.bool (decide (a.kind = 0)))) fun t51 => ob (gq (isB t51 true) (some (.ptr H.length 2))) fun t52 => ob (gq (isB t51 true) (loff t52 4)) fun t53 => ob (gq (isB t51 true) (lload1 K t53)) fun t54 => ob (gq (isB t51 true) (llen K .slice t54)) fun t55 => ob (gq (isB t51 true) (lbin .leq t55 (.int .i64 100))) fun t56 => ob (lpick t51 t56 (.bool false)) fun t57 =>
          cnd t57 (ob (lloadn K 6 (.ptr H.length 2)) fun t59 => ob (φ op [.ptr t 0, t59] K) fun r60 => ob (iextract r60.1 0) fun t61 => ob (iextract r60.1 1) fun t62 => ob (lbin .eql t62 (.int .i64 0)) fun t63 => ob (gq (isB t63 true) (some t61)) fun t64 => ob (gq (isB t63 true) (some (.int .i64 (k0 : Nat)))) fun t65 => ob (gq (isB t63 true) (lbin .eql t64 t65)) fun t66 => ob (lpick t63 t66 (.bool false)) fun t67 =>
            cnd t67 (some (.bool false, r60.2)) (ob (lbin .add (.int .i64 (i : Nat)) (.int .i64 1)) fun t37 => veneerlaw07DescAloneC3S cal φ N aw nw pl fu op gt sm gE0 n v2 (.ptr q 0) (.ptr t 0) (.int .i64 (k0 : Nat)) (.int .i64 0) t37 r60.2))
          (ob (lloadn K 8 (.ptr H.length 0)) fun t68 => ob (φ pl [.ptr t 0, t68] K) fun r69 => ob (lbin .add (.int .i64 (i : Nat)) (.int .i64 1)) fun t37 => veneerlaw07DescAloneC3S cal φ N aw nw pl fu op gt sm gE0 n v2 (.ptr q 0) (.ptr t 0) (.int .i64 (k0 : Nat)) (.int .i64 0) t37 r69.2)) Q := by
        intro hsafe
        have viaPlay : Wp (ob (lloadn K 8 (.ptr H.length 0)) fun t68 => ob (φ pl [.ptr t 0, t68] K) fun r69 => ob (lbin .add (.int .i64 (i : Nat)) (.int .i64 1)) fun t37 => veneerlaw07DescAloneC3S cal φ N aw nw pl fu op gt sm gE0 n v2 (.ptr q 0) (.ptr t 0) (.int .i64 (k0 : Nat)) (.int .i64 0) t37 r69.2) Q := by
          rw [l8, ob_some]
          refine Wp.call (hp _ G K t tab a nv hT1 e31) ?_
          rintro ⟨r, K2⟩ ⟨f1, G', tab', f2, f3, f4⟩
          exact next K2 G' tab' f1 f2 (f4 k0 d hd hsafe)
        rw [ob_some]
        by_cases h0 : a.kind = 0
        · rw [decide_eq_true h0]
          simp only [isB_tt, gq_true, ob_some, loff_ptr, ld1 r1, c6, e31.1.len, lbin_leq]
          rw [lpick_true, ob_some]
          refine Wp.dec (fun h1 => ?_) (fun h1 => viaPlay)
          rw [l6, ob_some]
          refine Wp.call (ho _ G K t tab _ a.d hT1 ⟨nv, rfl, e31⟩ (by omega)) ?_
          rintro ⟨r, K2⟩ ⟨f1, ⟨i', G', hi', g1, g2, g3, g4, g5⟩ | ⟨g1, g2, g3⟩⟩
          · simp only at g3 g4 f1 ⊢
            subst g3
            rw [iextract_tuple, iextract_tuple]
            simp only [List.getElem?_cons_zero, List.getElem?_cons_succ, ob_some, lbin_eql, decide_true, isB_tt, gq_true]
            have hne : i' ≠ k0 := fun e => by subst e; rw [hd] at g1; cases g1
            rw [decide_eq_false (by omega), lpick_true, ob_some, cnd_false]
            exact next K2 G' _ f1 g4 (set_ne hd hne)
          · simp only at g2 g3 f1 ⊢
            subst g2
            rw [iextract_tuple, iextract_tuple]
            simp only [List.getElem?_cons_zero, List.getElem?_cons_succ, ob_some, lbin_eql]
            have h24 : decide ((24 : Int) = 0) = false := rfl
            rw [h24]
            simp only [isB_ft, gq_false, ob_some, lpick_false, cnd_false]
            exact next K2 G _ f1 g3 hd
        · rw [decide_eq_false h0]
          simp only [isB_ft, gq_false, ob_some, lpick_false, cnd_false]
          exact viaPlay
      by_cases hfd : a.fd = (k0 : Nat)
      · rw [decide_eq_true hfd]
        simp only [isB_tt, gq_true, ob_some, ld1 r1, c0, lbin_neq]
        by_cases h0 : a.kind = 0
        · rw [decide_eq_true h0, Bool.not_true, lpick_true, ob_some, cnd_false]
          have := rest (.inl h0)
          rw [decide_eq_true h0] at this
          exact this
        · rw [decide_eq_false h0, Bool.not_false, lpick_true, ob_some, cnd_true]
          exact next K G tab (Frame.refl _ _) hT1 hd
      · rw [decide_eq_false hfd]
        simp only [isB_ft, gq_false, ob_some, lpick_false, cnd_false]
        exact rest (.inr hfd)
    · rw [decide_eq_false (by omega)]
      simp only [isB_ft, gq_false, ob_some, lpick_false, cnd_false]
      exact hQ H G tab hK hT hd
theorem alone_l (ha : AwOk φ aw) (hnw : NewOk φ nw) (hp : PlayOk φ pl) (hf : FullOk φ fu) (ho : OpenOk φ op) (hg : GetOk φ gt) (hs : Same7Ok φ sm) (hN : 120 < N) {H : Heap} {v0 v2 : IV} {l m : List Ac} {d : Dsc} {nv : IV} (hv0 : AcsV H.length H v0 l) (hn : Nm (· < H.length) H nv d.names) (hv2 : AcsV H.length H v2 m) :
    Wp (veneerlaw07DescAloneS cal φ N aw nw pl fu op gt sm v0 (.agg (d.cells nv)) v2 H) fun r => r.1 = .bool true := by
  unfold veneerlaw07DescAloneS veneerlaw07DescAloneC14S veneerlaw07DescAloneC13S
  have hbx : lbox H (.agg (d.cells nv)) = some (.ptr H.length 0, H ++ [IObj.row (d.cells nv) false]) := lbox_agg (d.cells_one hn.one)
  rw [hbx, ob_some]
  simp only
  have k1 : Frame NoF H (H ++ [IObj.row (d.cells nv) false]) := Frame.push _ _ _
  have r1 := newRow (H := H) (o := IObj.row (d.cells nv) false)
  have lK : (H ++ [IObj.row (d.cells nv) false]).length = H.length + 1 := by simp
  generalize H ++ [IObj.row (d.cells nv) false] = K at *
  rw [ha, ob_some]
  simp only
  rw [iun_not, ob_some, Bool.not_true, cnd_false]
  unfold veneerlaw07DescAloneC12S
  refine Wp.call (hnw K) ?_
  rintro ⟨r, K1⟩ ⟨t, rfl, ht, hT, k2⟩
  simp only at hT k2 ⊢
  have r2 := k2.get (fun h => h) r1
  have kk := k1.tr k2
  have hn1 := hn.kp kk
  unfold veneerlaw07DescAloneC11S
  have d4 : (d.cells nv)[0 + 4]? = some nv := rfl
  rw [loff_ptr, ob_some, ld1 r2, d4, ob_some, hn1.1.len, ob_some, lbin_gtr, ob_some]
  refine Wp.dec (fun _ => Wp.ret rfl) (fun hb => ?_)
  unfold veneerlaw07DescAloneC10S veneerlaw07DescAloneC2S veneerlaw07DescAloneC1S
  have hne : H.length ≠ t := by omega
  have htK1 := hT.ltT
  refine alone_go1 hp (L := H.length) (by omega) hne (H0 := K1) (fun K2 G tab f1 f2 f3 => ?_) (hv0.frame kk.no) 120 0 N K1 NoF _ (by omega) hN (Frame.refl _ _) hT (fun _ h => h.elim)
  have r3 := f1.get (by omega) r2
  have hn2 := hn1.frame f1 fun i (hi : i < H.length) e => by omega
  have hv2' := (hv2.frame kk.no).frame (f1.mono fun i e => by omega)
  unfold veneerlaw07DescAloneC9S
  simp only
  rw [hf G K2 t tab f2, ob_some]
  simp only
  unfold veneerlaw07DescAloneC8S
  rw [ldn r3 (d.cells_length nv), ob_some]
  refine Wp.call (ho _ G K2 t tab _ d f2 ⟨nv, rfl, hn2⟩ (by omega)) ?_
  rintro ⟨r, K3⟩ ⟨g0, ⟨i, G', hi, g1, g2, g3, g4, g5⟩ | ⟨g1, g2, g3⟩⟩
  · simp only at g0 g3 g4 ⊢
    subst g3
    rw [iextract_tuple, iextract_tuple]
    simp only [List.getElem?_cons_zero, List.getElem?_cons_succ, ob_some]
    unfold veneerlaw07DescAloneC7S
    have hmem : none ∈ tab := List.mem_of_getElem? g1
    rw [decide_eq_true hmem, Bool.not_true, cnd_false]
    unfold veneerlaw07DescAloneC6S veneerlaw07DescAloneC5S veneerlaw07DescAloneC4S
    have r4 := g0.get (by omega) r3
    have hlen : i < tab.length := by have := f2.len; omega
    refine alone_go2 (N := N) hp ho (L := H.length) (d := d) (by omega) hi (H0 := K3) g4.ltT (fun _ h => h.elim) (fun K4 G4 tab4 q1 q2 q3 => ?_) (hv2'.frame (g0.mono fun i e => by omega)) 120 0 N K3 G' _ (by omega) hN (Frame.refl _ _) g4 (by simp [hlen])
    simp only
    refine Wp.call (hg G4 K4 t tab4 (i : Nat) q2) ?_
    rintro ⟨r, K5⟩ ⟨s1, ⟨d', x, s2, s3, s4⟩ | ⟨s2, s3⟩⟩
    · have hl : look tab4 (i : Nat) = some d := by unfold look; rw [if_pos (by omega), Int.toNat_natCast, q3]; rfl
      rw [hl] at s2
      cases s2
      simp only at s1 s3 s4 ⊢
      subst s3
      rw [iextract_tuple, iextract_tuple]
      simp only [List.getElem?_cons_zero, List.getElem?_cons_succ, ob_some]
      obtain ⟨nv5, rfl, hn5⟩ := s4
      rw [lzbox_eq, ob_some]
      simp only [cells_agg]
      rw [stn (n := 6) newRow (d.cells_one hn5.one) rfl rfl, ob_some, setRow]
      have k5 : Frame NoF K5 (K5 ++ [IObj.row (d.cells nv5) false]) := Frame.push _ _ _
      have r5 := (s1.tr k5).get (fun h => h) (q1.get (by omega) r4)
      have r6 := newRow (H := K5) (o := IObj.row (d.cells nv5) false)
      have hn6 := hn5.kp k5
      have hn7 := (((hn2.frame g0 fun i (hi : i < H.length) e => by omega).frame q1 fun i (hi : i < H.length) e => by omega).kp s1).kp k5
      simp only [lbin_eql, ob_some, decide_true, isB_tt, gq_true, ge_true, lpick_true]
      rw [ldn r6 (d.cells_length nv5), ob_some, ldn r5 (d.cells_length nv), ob_some]
      refine Wp.call (hs _ _ _ _ _ d d ⟨nv5, rfl, hn6⟩ ⟨nv, rfl, hn7⟩ (by omega)) ?_
      rintro ⟨r, K6⟩ ⟨w1, w2⟩
      simp only at w1 ⊢
      subst w1
      exact Wp.ret (by simp)
    · have hl : look tab4 (i : Nat) = some d := by unfold look; rw [if_pos (by omega), Int.toNat_natCast, q3]; rfl
      rw [hl] at s2; cases s2
  · simp only at g0 g2 ⊢
    subst g2
    rw [iextract_tuple, iextract_tuple]
    simp only [List.getElem?_cons_zero, List.getElem?_cons_succ, ob_some]
    unfold veneerlaw07DescAloneC7S
    have hmem : none ∉ tab := by
      intro h
      obtain ⟨j, hj⟩ := List.mem_iff_getElem?.1 h
      have := (List.getElem?_eq_some_iff.1 hj).1
      exact g1 j (by have := f2.len; omega) hj
    rw [decide_eq_false hmem, Bool.not_false, cnd_true]
    simp only [lbin_eql, ob_some, decide_true, isB_tt, gq_true, lpick_true]
    exact Wp.ret rfl
end
end Go.Shade
/- DESC, part 8: this seat's program: the law DescAlone. -/
namespace Go.Proofs.Ytbcekfagnajooaa
open Go.Shade
theorem lo4 : LoF Try.prog 4 (veneerlaw07DescAlone 8 9 24 23 11 18 15) := ⟨⟨Try.f4, Try.func4, by kernel_rfl⟩, by kernel_rfl⟩
end Go.Proofs.Ytbcekfagnajooaa
