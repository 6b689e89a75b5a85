/- DESC: low code of a law of the layer 'desc'. Printed by gen.py. -/
import Derived.Test.YtbcekfagnajooaaM2
import Derived.KernelRfl
namespace Go.Shade
set_option linter.unusedVariables false
def veneerlaw07DescDoesC0 (cVeneerlaw07Awake cDescNew cVeneerref07Own cVeneerDescTableOpen cVeneerVeneerref07TableOpen cVeneerDescTableClose cVeneerVeneerref07TableClose cVeneerref07Same cVeneerDescTableSet cVeneerVeneerref07TableSet cVeneerDescTableGet cVeneerVeneerref07TableGet cVeneerDescTableAll cVeneerVeneerref07TableAll cVeneerlaw07Ints cVeneerDescTableFull : FuncId) : LC := .loop (.seq (.reg [
    ⟨(some 122), (.bin .lss (.t 121) (.t 120)), none⟩])
  (.seq (.cond (.t 122) .skip
  (.exit 3))
  (.seq (.block 4 (.seq (.reg [
    ⟨(some 123), (.mv (.t 121)), none⟩,
    ⟨(some 16), (.mv (.t 123)), none⟩])
  (.reg [
    ⟨(some 124), (.off (.t 7) 4), none⟩,
    ⟨(some 125), (.ld1 (.t 124)), none⟩,
    ⟨(some 126), (.mv (.t 16)), none⟩,
    ⟨(some 127), (.ix 1 (.t 125) (.t 126)), none⟩,
    ⟨none, (.st 1 (.t 127) (.k (.str [120]))), none⟩])))
  (.reg [
    ⟨(some 128), (.bin .add (.t 121) (.k (.int .i64 1))), none⟩,
    ⟨(some 121), (.mv (.t 128)), none⟩]))))
def veneerlaw07DescDoesC1 (cVeneerlaw07Awake cDescNew cVeneerref07Own cVeneerDescTableOpen cVeneerVeneerref07TableOpen cVeneerDescTableClose cVeneerVeneerref07TableClose cVeneerref07Same cVeneerDescTableSet cVeneerVeneerref07TableSet cVeneerDescTableGet cVeneerVeneerref07TableGet cVeneerDescTableAll cVeneerVeneerref07TableAll cVeneerlaw07Ints cVeneerDescTableFull : FuncId) : LC := .block 3 (veneerlaw07DescDoesC0 cVeneerlaw07Awake cDescNew cVeneerref07Own cVeneerDescTableOpen cVeneerVeneerref07TableOpen cVeneerDescTableClose cVeneerVeneerref07TableClose cVeneerref07Same cVeneerDescTableSet cVeneerVeneerref07TableSet cVeneerDescTableGet cVeneerVeneerref07TableGet cVeneerDescTableAll cVeneerVeneerref07TableAll cVeneerlaw07Ints cVeneerDescTableFull)
def veneerlaw07DescDoesC2 (cVeneerlaw07Awake cDescNew cVeneerref07Own cVeneerDescTableOpen cVeneerVeneerref07TableOpen cVeneerDescTableClose cVeneerVeneerref07TableClose cVeneerref07Same cVeneerDescTableSet cVeneerVeneerref07TableSet cVeneerDescTableGet cVeneerVeneerref07TableGet cVeneerDescTableAll cVeneerVeneerref07TableAll cVeneerlaw07Ints cVeneerDescTableFull : FuncId) : LC := .seq (.reg [
    ⟨(some 118), (.off (.t 7) 4), none⟩,
    ⟨(some 119), (.ld1 (.t 118)), none⟩,
    ⟨(some 120), (.len .slice (.t 119)), none⟩,
    ⟨(some 121), (.mv (.k (.int .i64 0))), none⟩]) (veneerlaw07DescDoesC1 cVeneerlaw07Awake cDescNew cVeneerref07Own cVeneerDescTableOpen cVeneerVeneerref07TableOpen cVeneerDescTableClose cVeneerVeneerref07TableClose cVeneerref07Same cVeneerDescTableSet cVeneerVeneerref07TableSet cVeneerDescTableGet cVeneerVeneerref07TableGet cVeneerDescTableAll cVeneerVeneerref07TableAll cVeneerlaw07Ints cVeneerDescTableFull)
def veneerlaw07DescDoesC3 (cVeneerlaw07Awake cDescNew cVeneerref07Own cVeneerDescTableOpen cVeneerVeneerref07TableOpen cVeneerDescTableClose cVeneerVeneerref07TableClose cVeneerref07Same cVeneerDescTableSet cVeneerVeneerref07TableSet cVeneerDescTableGet cVeneerVeneerref07TableGet cVeneerDescTableAll cVeneerVeneerref07TableAll cVeneerlaw07Ints cVeneerDescTableFull : FuncId) : LC := .loop (.seq (.reg [
    ⟨(some 173), (.bin .lss (.t 172) (.t 171)), none⟩])
  (.seq (.cond (.t 173) .skip
  (.exit 5))
  (.seq (.block 6 (.seq (.reg [
    ⟨(some 174), (.mv (.t 172)), none⟩,
    ⟨(some 21), (.mv (.t 174)), none⟩])
  (.reg [
    ⟨(some 175), (.off (.t 17) 4), none⟩,
    ⟨(some 176), (.ld1 (.t 175)), none⟩,
    ⟨(some 177), (.mv (.t 21)), none⟩,
    ⟨(some 178), (.ix 1 (.t 176) (.t 177)), none⟩,
    ⟨none, (.st 1 (.t 178) (.k (.str [121]))), none⟩])))
  (.reg [
    ⟨(some 179), (.bin .add (.t 172) (.k (.int .i64 1))), none⟩,
    ⟨(some 172), (.mv (.t 179)), none⟩]))))
def veneerlaw07DescDoesC4 (cVeneerlaw07Awake cDescNew cVeneerref07Own cVeneerDescTableOpen cVeneerVeneerref07TableOpen cVeneerDescTableClose cVeneerVeneerref07TableClose cVeneerref07Same cVeneerDescTableSet cVeneerVeneerref07TableSet cVeneerDescTableGet cVeneerVeneerref07TableGet cVeneerDescTableAll cVeneerVeneerref07TableAll cVeneerlaw07Ints cVeneerDescTableFull : FuncId) : LC := .block 5 (veneerlaw07DescDoesC3 cVeneerlaw07Awake cDescNew cVeneerref07Own cVeneerDescTableOpen cVeneerVeneerref07TableOpen cVeneerDescTableClose cVeneerVeneerref07TableClose cVeneerref07Same cVeneerDescTableSet cVeneerVeneerref07TableSet cVeneerDescTableGet cVeneerVeneerref07TableGet cVeneerDescTableAll cVeneerVeneerref07TableAll cVeneerlaw07Ints cVeneerDescTableFull)
def veneerlaw07DescDoesC5 (cVeneerlaw07Awake cDescNew cVeneerref07Own cVeneerDescTableOpen cVeneerVeneerref07TableOpen cVeneerDescTableClose cVeneerVeneerref07TableClose cVeneerref07Same cVeneerDescTableSet cVeneerVeneerref07TableSet cVeneerDescTableGet cVeneerVeneerref07TableGet cVeneerDescTableAll cVeneerVeneerref07TableAll cVeneerlaw07Ints cVeneerDescTableFull : FuncId) : LC := .seq (.reg [
    ⟨(some 169), (.off (.t 17) 4), none⟩,
    ⟨(some 170), (.ld1 (.t 169)), none⟩,
    ⟨(some 171), (.len .slice (.t 170)), none⟩,
    ⟨(some 172), (.mv (.k (.int .i64 0))), none⟩]) (veneerlaw07DescDoesC4 cVeneerlaw07Awake cDescNew cVeneerref07Own cVeneerDescTableOpen cVeneerVeneerref07TableOpen cVeneerDescTableClose cVeneerVeneerref07TableClose cVeneerref07Same cVeneerDescTableSet cVeneerVeneerref07TableSet cVeneerDescTableGet cVeneerVeneerref07TableGet cVeneerDescTableAll cVeneerVeneerref07TableAll cVeneerlaw07Ints cVeneerDescTableFull)
def veneerlaw07DescDoesC6 (cVeneerlaw07Awake cDescNew cVeneerref07Own cVeneerDescTableOpen cVeneerVeneerref07TableOpen cVeneerDescTableClose cVeneerVeneerref07TableClose cVeneerref07Same cVeneerDescTableSet cVeneerVeneerref07TableSet cVeneerDescTableGet cVeneerVeneerref07TableGet cVeneerDescTableAll cVeneerVeneerref07TableAll cVeneerlaw07Ints cVeneerDescTableFull : FuncId) : LC := .seq (.seq (.reg [
    ⟨(some 143), (.ldn 6 (.t 17)), none⟩,
    ⟨(some 144), (.ldn 6 (.t 19)), none⟩,
    ⟨(some 145), (.callF cVeneerref07Same [(.t 143), (.t 144)]), none⟩,
    ⟨(some 146), (.un .not (.t 145)), none⟩,
    ⟨(some 147), (.mv (.t 146)), none⟩,
    ⟨(some 148), (.mv (.t 18)), (some (147, false))⟩,
    ⟨(some 149), (.mv (.t 20)), (some (147, false))⟩,
    ⟨(some 150), (.bin .neq (.t 148) (.t 149)), (some (147, false))⟩,
    ⟨(some 151), (.pick (.t 147) (.k (.bool true)) (.t 150)), none⟩,
    ⟨(some 152), (.mv (.t 151)), none⟩,
    ⟨(some 153), (.mv (.t 3)), (some (152, false))⟩,
    ⟨(some 154), (.callF cVeneerDescTableAll [(.t 153)]), (some (152, false))⟩,
    ⟨(some 155), (.mv (.t 4)), (some (152, false))⟩,
    ⟨(some 156), (.callF cVeneerVeneerref07TableAll [(.t 155)]), (some (152, false))⟩,
    ⟨(some 157), (.callF cVeneerlaw07Ints [(.t 154), (.t 156)]), (some (152, false))⟩,
    ⟨(some 158), (.un .not (.t 157)), (some (152, false))⟩,
    ⟨(some 159), (.pick (.t 152) (.k (.bool true)) (.t 158)), none⟩,
    ⟨(some 160), (.mv (.t 159)), none⟩,
    ⟨(some 161), (.mv (.t 3)), (some (160, false))⟩,
    ⟨(some 162), (.callF cVeneerDescTableFull [(.t 161)]), (some (160, false))⟩,
    ⟨(some 163), (.mv (.t 4)), (some (160, false))⟩,
    ⟨(some 164), (.callF cVeneerVeneerref07TableAll [(.t 163)]), (some (160, false))⟩,
    ⟨(some 165), (.len .slice (.t 164)), (some (160, false))⟩,
    ⟨(some 166), (.bin .eql (.t 165) (.k (.int .i64 32))), (some (160, false))⟩,
    ⟨(some 167), (.eqv true .bool (.t 162) (.t 166)), (some (160, false))⟩,
    ⟨(some 168), (.pick (.t 160) (.k (.bool true)) (.t 167)), none⟩])
  (.cond (.t 168) (.seq (.reg [
    ⟨(some 2), (.mv (.k (.bool false))), none⟩])
  .ret)
  .skip)) (veneerlaw07DescDoesC5 cVeneerlaw07Awake cDescNew cVeneerref07Own cVeneerDescTableOpen cVeneerVeneerref07TableOpen cVeneerDescTableClose cVeneerVeneerref07TableClose cVeneerref07Same cVeneerDescTableSet cVeneerVeneerref07TableSet cVeneerDescTableGet cVeneerVeneerref07TableGet cVeneerDescTableAll cVeneerVeneerref07TableAll cVeneerlaw07Ints cVeneerDescTableFull)
def veneerlaw07DescDoesC7 (cVeneerlaw07Awake cDescNew cVeneerref07Own cVeneerDescTableOpen cVeneerVeneerref07TableOpen cVeneerDescTableClose cVeneerVeneerref07TableClose cVeneerref07Same cVeneerDescTableSet cVeneerVeneerref07TableSet cVeneerDescTableGet cVeneerVeneerref07TableGet cVeneerDescTableAll cVeneerVeneerref07TableAll cVeneerlaw07Ints cVeneerDescTableFull : FuncId) : LC := .seq (.reg [
    ⟨(some 137), (.mv (.t 4)), none⟩,
    ⟨(some 138), (.off (.t 6) 1), none⟩,
    ⟨(some 139), (.ld1 (.t 138)), none⟩,
    ⟨(some 140), (.callF cVeneerVeneerref07TableGet [(.t 137), (.t 139)]), none⟩,
    ⟨(some 136), (.mv (.t 140)), none⟩,
    ⟨(some 141), (.ext (.t 136) 0), none⟩,
    ⟨(some 142), (.ext (.t 136) 1), none⟩,
    ⟨(some 19), (.zbox (.agg [(.int .i64 0), (.int .i64 0), (.int .i64 0), (.bool false), .nilSlice, (.int .i64 0)])), none⟩,
    ⟨none, (.st 6 (.t 19) (.t 141)), none⟩,
    ⟨(some 20), (.mv (.t 142)), none⟩]) (veneerlaw07DescDoesC6 cVeneerlaw07Awake cDescNew cVeneerref07Own cVeneerDescTableOpen cVeneerVeneerref07TableOpen cVeneerDescTableClose cVeneerVeneerref07TableClose cVeneerref07Same cVeneerDescTableSet cVeneerVeneerref07TableSet cVeneerDescTableGet cVeneerVeneerref07TableGet cVeneerDescTableAll cVeneerVeneerref07TableAll cVeneerlaw07Ints cVeneerDescTableFull)
def veneerlaw07DescDoesC8 (cVeneerlaw07Awake cDescNew cVeneerref07Own cVeneerDescTableOpen cVeneerVeneerref07TableOpen cVeneerDescTableClose cVeneerVeneerref07TableClose cVeneerref07Same cVeneerDescTableSet cVeneerVeneerref07TableSet cVeneerDescTableGet cVeneerVeneerref07TableGet cVeneerDescTableAll cVeneerVeneerref07TableAll cVeneerlaw07Ints cVeneerDescTableFull : FuncId) : LC := .seq (.reg [
    ⟨(some 130), (.mv (.t 3)), none⟩,
    ⟨(some 131), (.off (.t 6) 1), none⟩,
    ⟨(some 132), (.ld1 (.t 131)), none⟩,
    ⟨(some 133), (.callF cVeneerDescTableGet [(.t 130), (.t 132)]), none⟩,
    ⟨(some 129), (.mv (.t 133)), none⟩,
    ⟨(some 134), (.ext (.t 129) 0), none⟩,
    ⟨(some 135), (.ext (.t 129) 1), none⟩,
    ⟨(some 17), (.zbox (.agg [(.int .i64 0), (.int .i64 0), (.int .i64 0), (.bool false), .nilSlice, (.int .i64 0)])), none⟩,
    ⟨none, (.st 6 (.t 17) (.t 134)), none⟩,
    ⟨(some 18), (.mv (.t 135)), none⟩]) (veneerlaw07DescDoesC7 cVeneerlaw07Awake cDescNew cVeneerref07Own cVeneerDescTableOpen cVeneerVeneerref07TableOpen cVeneerDescTableClose cVeneerVeneerref07TableClose cVeneerref07Same cVeneerDescTableSet cVeneerVeneerref07TableSet cVeneerDescTableGet cVeneerVeneerref07TableGet cVeneerDescTableAll cVeneerVeneerref07TableAll cVeneerlaw07Ints cVeneerDescTableFull)
def veneerlaw07DescDoesC9 (cVeneerlaw07Awake cDescNew cVeneerref07Own cVeneerDescTableOpen cVeneerVeneerref07TableOpen cVeneerDescTableClose cVeneerVeneerref07TableClose cVeneerref07Same cVeneerDescTableSet cVeneerVeneerref07TableSet cVeneerDescTableGet cVeneerVeneerref07TableGet cVeneerDescTableAll cVeneerVeneerref07TableAll cVeneerlaw07Ints cVeneerDescTableFull : FuncId) : LC := .seq (veneerlaw07DescDoesC2 cVeneerlaw07Awake cDescNew cVeneerref07Own cVeneerDescTableOpen cVeneerVeneerref07TableOpen cVeneerDescTableClose cVeneerVeneerref07TableClose cVeneerref07Same cVeneerDescTableSet cVeneerVeneerref07TableSet cVeneerDescTableGet cVeneerVeneerref07TableGet cVeneerDescTableAll cVeneerVeneerref07TableAll cVeneerlaw07Ints cVeneerDescTableFull) (veneerlaw07DescDoesC8 cVeneerlaw07Awake cDescNew cVeneerref07Own cVeneerDescTableOpen cVeneerVeneerref07TableOpen cVeneerDescTableClose cVeneerVeneerref07TableClose cVeneerref07Same cVeneerDescTableSet cVeneerVeneerref07TableSet cVeneerDescTableGet cVeneerVeneerref07TableGet cVeneerDescTableAll cVeneerVeneerref07TableAll cVeneerlaw07Ints cVeneerDescTableFull)
def veneerlaw07DescDoesC10 (cVeneerlaw07Awake cDescNew cVeneerref07Own cVeneerDescTableOpen cVeneerVeneerref07TableOpen cVeneerDescTableClose cVeneerVeneerref07TableClose cVeneerref07Same cVeneerDescTableSet cVeneerVeneerref07TableSet cVeneerDescTableGet cVeneerVeneerref07TableGet cVeneerDescTableAll cVeneerVeneerref07TableAll cVeneerlaw07Ints cVeneerDescTableFull : FuncId) : LC := .seq (.seq (.reg [
    ⟨(some 54), (.off (.t 6) 0), none⟩,
    ⟨(some 55), (.ld1 (.t 54)), none⟩])
  (.block 2 (.seq (.reg [
    ⟨(some 57), (.bin .eql (.t 55) (.k (.int .i64 0))), none⟩,
    ⟨(some 56), (.mv (.t 57)), none⟩])
  (.cond (.t 56) (.seq (.reg [
    ⟨(some 59), (.mv (.t 3)), none⟩,
    ⟨(some 60), (.ldn 6 (.t 7)), none⟩,
    ⟨(some 61), (.callF cVeneerDescTableOpen [(.t 59), (.t 60)]), none⟩,
    ⟨(some 58), (.mv (.t 61)), none⟩,
    ⟨(some 62), (.ext (.t 58) 0), none⟩,
    ⟨(some 63), (.ext (.t 58) 1), none⟩,
    ⟨(some 8), (.mv (.t 62)), none⟩,
    ⟨(some 9), (.mv (.t 63)), none⟩])
  (.seq (.reg [
    ⟨(some 65), (.mv (.t 4)), none⟩,
    ⟨(some 66), (.off (.t 6) 2), none⟩,
    ⟨(some 67), (.ldn 6 (.t 66)), none⟩,
    ⟨(some 68), (.callF cVeneerVeneerref07TableOpen [(.t 65), (.t 67)]), none⟩,
    ⟨(some 64), (.mv (.t 68)), none⟩,
    ⟨(some 69), (.ext (.t 64) 0), none⟩,
    ⟨(some 70), (.ext (.t 64) 1), none⟩,
    ⟨(some 10), (.mv (.t 69)), none⟩,
    ⟨(some 11), (.mv (.t 70)), none⟩])
  (.seq (.reg [
    ⟨(some 71), (.mv (.t 8)), none⟩,
    ⟨(some 72), (.mv (.t 10)), none⟩,
    ⟨(some 73), (.bin .neq (.t 71) (.t 72)), none⟩,
    ⟨(some 74), (.mv (.t 73)), none⟩,
    ⟨(some 75), (.mv (.t 9)), (some (74, false))⟩,
    ⟨(some 76), (.mv (.t 11)), (some (74, false))⟩,
    ⟨(some 77), (.bin .neq (.t 75) (.t 76)), (some (74, false))⟩,
    ⟨(some 78), (.pick (.t 74) (.k (.bool true)) (.t 77)), none⟩])
  (.cond (.t 78) (.seq (.reg [
    ⟨(some 2), (.mv (.k (.bool false))), none⟩])
  .ret)
  .skip))))
  (.seq (.reg [
    ⟨(some 80), (.bin .eql (.t 55) (.k (.int .i64 1))), none⟩,
    ⟨(some 79), (.mv (.t 80)), none⟩])
  (.cond (.t 79) (.seq (.reg [
    ⟨(some 82), (.mv (.t 3)), none⟩,
    ⟨(some 83), (.off (.t 6) 1), none⟩,
    ⟨(some 84), (.ld1 (.t 83)), none⟩,
    ⟨(some 85), (.callF cVeneerDescTableClose [(.t 82), (.t 84)]), none⟩,
    ⟨(some 81), (.mv (.t 85)), none⟩,
    ⟨(some 86), (.ext (.t 81) 0), none⟩,
    ⟨(some 87), (.ext (.t 81) 1), none⟩,
    ⟨(some 12), (.zbox (.agg [(.int .i64 0), (.int .i64 0), (.int .i64 0), (.bool false), .nilSlice, (.int .i64 0)])), none⟩,
    ⟨none, (.st 6 (.t 12) (.t 86)), none⟩,
    ⟨(some 13), (.mv (.t 87)), none⟩])
  (.seq (.reg [
    ⟨(some 89), (.mv (.t 4)), none⟩,
    ⟨(some 90), (.off (.t 6) 1), none⟩,
    ⟨(some 91), (.ld1 (.t 90)), none⟩,
    ⟨(some 92), (.callF cVeneerVeneerref07TableClose [(.t 89), (.t 91)]), none⟩,
    ⟨(some 88), (.mv (.t 92)), none⟩,
    ⟨(some 93), (.ext (.t 88) 0), none⟩,
    ⟨(some 94), (.ext (.t 88) 1), none⟩,
    ⟨(some 14), (.zbox (.agg [(.int .i64 0), (.int .i64 0), (.int .i64 0), (.bool false), .nilSlice, (.int .i64 0)])), none⟩,
    ⟨none, (.st 6 (.t 14) (.t 93)), none⟩,
    ⟨(some 15), (.mv (.t 94)), none⟩])
  (.seq (.reg [
    ⟨(some 95), (.ldn 6 (.t 12)), none⟩,
    ⟨(some 96), (.ldn 6 (.t 14)), none⟩,
    ⟨(some 97), (.callF cVeneerref07Same [(.t 95), (.t 96)]), none⟩,
    ⟨(some 98), (.un .not (.t 97)), none⟩,
    ⟨(some 99), (.mv (.t 98)), none⟩,
    ⟨(some 100), (.mv (.t 13)), (some (99, false))⟩,
    ⟨(some 101), (.mv (.t 15)), (some (99, false))⟩,
    ⟨(some 102), (.bin .neq (.t 100) (.t 101)), (some (99, false))⟩,
    ⟨(some 103), (.pick (.t 99) (.k (.bool true)) (.t 102)), none⟩])
  (.cond (.t 103) (.seq (.reg [
    ⟨(some 2), (.mv (.k (.bool false))), none⟩])
  .ret)
  .skip))))
  (.seq (.reg [
    ⟨(some 105), (.bin .eql (.t 55) (.k (.int .i64 2))), none⟩,
    ⟨(some 104), (.mv (.t 105)), none⟩])
  (.cond (.t 104) (.seq (.drw [
    ⟨(some 106), (.mv (.t 3)), none⟩,
    ⟨(some 107), (.off (.t 6) 1), none⟩,
    ⟨(some 108), (.ld1 (.t 107)), none⟩,
    ⟨(some 109), (.ldn 6 (.t 7)), none⟩,
    ⟨(some 110), (.callF cVeneerDescTableSet [(.t 106), (.t 108), (.t 109)]), none⟩,
    ⟨(some 111), (.mv (.t 4)), none⟩,
    ⟨(some 112), (.off (.t 6) 1), none⟩,
    ⟨(some 113), (.ld1 (.t 112)), none⟩,
    ⟨(some 114), (.off (.t 6) 2), none⟩,
    ⟨(some 115), (.ldn 6 (.t 114)), none⟩,
    ⟨(some 116), (.callF cVeneerVeneerref07TableSet [(.t 111), (.t 113), (.t 115)]), none⟩,
    ⟨(some 117), (.bin .neq (.t 110) (.t 116)), none⟩] [(7, 4), (9, 4)])
  (.cond (.t 117) (.seq (.reg [
    ⟨(some 2), (.mv (.k (.bool false))), none⟩])
  .ret)
  .skip))
  .skip)))))))) (veneerlaw07DescDoesC9 cVeneerlaw07Awake cDescNew cVeneerref07Own cVeneerDescTableOpen cVeneerVeneerref07TableOpen cVeneerDescTableClose cVeneerVeneerref07TableClose cVeneerref07Same cVeneerDescTableSet cVeneerVeneerref07TableSet cVeneerDescTableGet cVeneerVeneerref07TableGet cVeneerDescTableAll cVeneerVeneerref07TableAll cVeneerlaw07Ints cVeneerDescTableFull)
def veneerlaw07DescDoesC11 (cVeneerlaw07Awake cDescNew cVeneerref07Own cVeneerDescTableOpen cVeneerVeneerref07TableOpen cVeneerDescTableClose cVeneerVeneerref07TableClose cVeneerref07Same cVeneerDescTableSet cVeneerVeneerref07TableSet cVeneerDescTableGet cVeneerVeneerref07TableGet cVeneerDescTableAll cVeneerVeneerref07TableAll cVeneerlaw07Ints cVeneerDescTableFull : FuncId) : LC := .seq (.reg [
    ⟨(some 51), (.off (.t 6) 2), none⟩,
    ⟨(some 52), (.ldn 6 (.t 51)), none⟩,
    ⟨(some 53), (.callF cVeneerref07Own [(.t 52)]), none⟩,
    ⟨(some 7), (.zbox (.agg [(.int .i64 0), (.int .i64 0), (.int .i64 0), (.bool false), .nilSlice, (.int .i64 0)])), none⟩,
    ⟨none, (.st 6 (.t 7) (.t 53)), none⟩]) (veneerlaw07DescDoesC10 cVeneerlaw07Awake cDescNew cVeneerref07Own cVeneerDescTableOpen cVeneerVeneerref07TableOpen cVeneerDescTableClose cVeneerVeneerref07TableClose cVeneerref07Same cVeneerDescTableSet cVeneerVeneerref07TableSet cVeneerDescTableGet cVeneerVeneerref07TableGet cVeneerDescTableAll cVeneerVeneerref07TableAll cVeneerlaw07Ints cVeneerDescTableFull)
def veneerlaw07DescDoesC12 (cVeneerlaw07Awake cDescNew cVeneerref07Own cVeneerDescTableOpen cVeneerVeneerref07TableOpen cVeneerDescTableClose cVeneerVeneerref07TableClose cVeneerref07Same cVeneerDescTableSet cVeneerVeneerref07TableSet cVeneerDescTableGet cVeneerVeneerref07TableGet cVeneerDescTableAll cVeneerVeneerref07TableAll cVeneerlaw07Ints cVeneerDescTableFull : FuncId) : LC := .seq (.seq (.reg [
    ⟨(some 46), (.off (.t 6) 2), none⟩,
    ⟨(some 47), (.off (.t 46) 4), none⟩,
    ⟨(some 48), (.ld1 (.t 47)), none⟩,
    ⟨(some 49), (.len .slice (.t 48)), none⟩,
    ⟨(some 50), (.bin .gtr (.t 49) (.k (.int .i64 100))), none⟩])
  (.cond (.t 50) (.seq (.reg [
    ⟨(some 2), (.mv (.k (.bool true))), none⟩])
  .ret)
  .skip)) (veneerlaw07DescDoesC11 cVeneerlaw07Awake cDescNew cVeneerref07Own cVeneerDescTableOpen cVeneerVeneerref07TableOpen cVeneerDescTableClose cVeneerVeneerref07TableClose cVeneerref07Same cVeneerDescTableSet cVeneerVeneerref07TableSet cVeneerDescTableGet cVeneerVeneerref07TableGet cVeneerDescTableAll cVeneerVeneerref07TableAll cVeneerlaw07Ints cVeneerDescTableFull)
def veneerlaw07DescDoesC13 (cVeneerlaw07Awake cDescNew cVeneerref07Own cVeneerDescTableOpen cVeneerVeneerref07TableOpen cVeneerDescTableClose cVeneerVeneerref07TableClose cVeneerref07Same cVeneerDescTableSet cVeneerVeneerref07TableSet cVeneerDescTableGet cVeneerVeneerref07TableGet cVeneerDescTableAll cVeneerVeneerref07TableAll cVeneerlaw07Ints cVeneerDescTableFull : FuncId) : LC := .seq (.reg [
    ⟨(some 42), (.mv (.t 0)), none⟩,
    ⟨(some 43), (.mv (.t 5)), none⟩,
    ⟨(some 44), (.ix 8 (.t 42) (.t 43)), none⟩,
    ⟨(some 45), (.ldn 8 (.t 44)), none⟩,
    ⟨(some 6), (.zbox (.agg [(.int .i64 0), (.int .i64 0), (.int .i64 0), (.int .i64 0), (.int .i64 0), (.bool false), .nilSlice, (.int .i64 0)])), none⟩,
    ⟨none, (.st 8 (.t 6) (.t 45)), none⟩]) (veneerlaw07DescDoesC12 cVeneerlaw07Awake cDescNew cVeneerref07Own cVeneerDescTableOpen cVeneerVeneerref07TableOpen cVeneerDescTableClose cVeneerVeneerref07TableClose cVeneerref07Same cVeneerDescTableSet cVeneerVeneerref07TableSet cVeneerDescTableGet cVeneerVeneerref07TableGet cVeneerDescTableAll cVeneerVeneerref07TableAll cVeneerlaw07Ints cVeneerDescTableFull)
def veneerlaw07DescDoesC14 (cVeneerlaw07Awake cDescNew cVeneerref07Own cVeneerDescTableOpen cVeneerVeneerref07TableOpen cVeneerDescTableClose cVeneerVeneerref07TableClose cVeneerref07Same cVeneerDescTableSet cVeneerVeneerref07TableSet cVeneerDescTableGet cVeneerVeneerref07TableGet cVeneerDescTableAll cVeneerVeneerref07TableAll cVeneerlaw07Ints cVeneerDescTableFull : FuncId) : LC := .block 1 (veneerlaw07DescDoesC13 cVeneerlaw07Awake cDescNew cVeneerref07Own cVeneerDescTableOpen cVeneerVeneerref07TableOpen cVeneerDescTableClose cVeneerVeneerref07TableClose cVeneerref07Same cVeneerDescTableSet cVeneerVeneerref07TableSet cVeneerDescTableGet cVeneerVeneerref07TableGet cVeneerDescTableAll cVeneerVeneerref07TableAll cVeneerlaw07Ints cVeneerDescTableFull)
def veneerlaw07DescDoesC15 (cVeneerlaw07Awake cDescNew cVeneerref07Own cVeneerDescTableOpen cVeneerVeneerref07TableOpen cVeneerDescTableClose cVeneerVeneerref07TableClose cVeneerref07Same cVeneerDescTableSet cVeneerVeneerref07TableSet cVeneerDescTableGet cVeneerVeneerref07TableGet cVeneerDescTableAll cVeneerVeneerref07TableAll cVeneerlaw07Ints cVeneerDescTableFull : FuncId) : LC := .seq (veneerlaw07DescDoesC14 cVeneerlaw07Awake cDescNew cVeneerref07Own cVeneerDescTableOpen cVeneerVeneerref07TableOpen cVeneerDescTableClose cVeneerVeneerref07TableClose cVeneerref07Same cVeneerDescTableSet cVeneerVeneerref07TableSet cVeneerDescTableGet cVeneerVeneerref07TableGet cVeneerDescTableAll cVeneerVeneerref07TableAll cVeneerlaw07Ints cVeneerDescTableFull) (.reg [
    ⟨(some 40), (.mv (.t 5)), none⟩,
    ⟨(some 41), (.bin .add (.t 40) (.k (.int .i64 1))), none⟩,
    ⟨(some 5), (.mv (.t 41)), none⟩])
def veneerlaw07DescDoesC16 (cVeneerlaw07Awake cDescNew cVeneerref07Own cVeneerDescTableOpen cVeneerVeneerref07TableOpen cVeneerDescTableClose cVeneerVeneerref07TableClose cVeneerref07Same cVeneerDescTableSet cVeneerVeneerref07TableSet cVeneerDescTableGet cVeneerVeneerref07TableGet cVeneerDescTableAll cVeneerVeneerref07TableAll cVeneerlaw07Ints cVeneerDescTableFull : FuncId) : LC := .seq (.seq (.reg [
    ⟨(some 32), (.mv (.t 5)), none⟩,
    ⟨(some 33), (.mv (.t 0)), none⟩,
    ⟨(some 34), (.len .slice (.t 33)), none⟩,
    ⟨(some 35), (.bin .lss (.t 32) (.t 34)), none⟩,
    ⟨(some 36), (.mv (.t 35)), none⟩,
    ⟨(some 37), (.mv (.t 5)), (some (36, true))⟩,
    ⟨(some 38), (.bin .lss (.t 37) (.k (.int .i64 120))), (some (36, true))⟩,
    ⟨(some 39), (.pick (.t 36) (.t 38) (.k (.bool false))), none⟩])
  (.cond (.t 39) .skip
  (.exit 0))) (veneerlaw07DescDoesC15 cVeneerlaw07Awake cDescNew cVeneerref07Own cVeneerDescTableOpen cVeneerVeneerref07TableOpen cVeneerDescTableClose cVeneerVeneerref07TableClose cVeneerref07Same cVeneerDescTableSet cVeneerVeneerref07TableSet cVeneerDescTableGet cVeneerVeneerref07TableGet cVeneerDescTableAll cVeneerVeneerref07TableAll cVeneerlaw07Ints cVeneerDescTableFull)
def veneerlaw07DescDoesC17 (cVeneerlaw07Awake cDescNew cVeneerref07Own cVeneerDescTableOpen cVeneerVeneerref07TableOpen cVeneerDescTableClose cVeneerVeneerref07TableClose cVeneerref07Same cVeneerDescTableSet cVeneerVeneerref07TableSet cVeneerDescTableGet cVeneerVeneerref07TableGet cVeneerDescTableAll cVeneerVeneerref07TableAll cVeneerlaw07Ints cVeneerDescTableFull : FuncId) : LC := .loop (veneerlaw07DescDoesC16 cVeneerlaw07Awake cDescNew cVeneerref07Own cVeneerDescTableOpen cVeneerVeneerref07TableOpen cVeneerDescTableClose cVeneerVeneerref07TableClose cVeneerref07Same cVeneerDescTableSet cVeneerVeneerref07TableSet cVeneerDescTableGet cVeneerVeneerref07TableGet cVeneerDescTableAll cVeneerVeneerref07TableAll cVeneerlaw07Ints cVeneerDescTableFull)
def veneerlaw07DescDoesC18 (cVeneerlaw07Awake cDescNew cVeneerref07Own cVeneerDescTableOpen cVeneerVeneerref07TableOpen cVeneerDescTableClose cVeneerVeneerref07TableClose cVeneerref07Same cVeneerDescTableSet cVeneerVeneerref07TableSet cVeneerDescTableGet cVeneerVeneerref07TableGet cVeneerDescTableAll cVeneerVeneerref07TableAll cVeneerlaw07Ints cVeneerDescTableFull : FuncId) : LC := .block 0 (veneerlaw07DescDoesC17 cVeneerlaw07Awake cDescNew cVeneerref07Own cVeneerDescTableOpen cVeneerVeneerref07TableOpen cVeneerDescTableClose cVeneerVeneerref07TableClose cVeneerref07Same cVeneerDescTableSet cVeneerVeneerref07TableSet cVeneerDescTableGet cVeneerVeneerref07TableGet cVeneerDescTableAll cVeneerVeneerref07TableAll cVeneerlaw07Ints cVeneerDescTableFull)
def veneerlaw07DescDoesC19 (cVeneerlaw07Awake cDescNew cVeneerref07Own cVeneerDescTableOpen cVeneerVeneerref07TableOpen cVeneerDescTableClose cVeneerVeneerref07TableClose cVeneerref07Same cVeneerDescTableSet cVeneerVeneerref07TableSet cVeneerDescTableGet cVeneerVeneerref07TableGet cVeneerDescTableAll cVeneerVeneerref07TableAll cVeneerlaw07Ints cVeneerDescTableFull : FuncId) : LC := .seq (.reg [
    ⟨(some 5), (.mv (.k (.int .i64 0))), none⟩]) (veneerlaw07DescDoesC18 cVeneerlaw07Awake cDescNew cVeneerref07Own cVeneerDescTableOpen cVeneerVeneerref07TableOpen cVeneerDescTableClose cVeneerVeneerref07TableClose cVeneerref07Same cVeneerDescTableSet cVeneerVeneerref07TableSet cVeneerDescTableGet cVeneerVeneerref07TableGet cVeneerDescTableAll cVeneerVeneerref07TableAll cVeneerlaw07Ints cVeneerDescTableFull)
def veneerlaw07DescDoesC20 (cVeneerlaw07Awake cDescNew cVeneerref07Own cVeneerDescTableOpen cVeneerVeneerref07TableOpen cVeneerDescTableClose cVeneerVeneerref07TableClose cVeneerref07Same cVeneerDescTableSet cVeneerVeneerref07TableSet cVeneerDescTableGet cVeneerVeneerref07TableGet cVeneerDescTableAll cVeneerVeneerref07TableAll cVeneerlaw07Ints cVeneerDescTableFull : FuncId) : LC := .loop (.seq (.seq (.reg [
    ⟨(some 180), (.mv (.t 22)), none⟩,
    ⟨(some 181), (.bin .leq (.t 180) (.k (.int .i64 32))), none⟩])
  (.cond (.t 181) .skip
  (.exit 7)))
  (.seq (.block 8 (.seq (.reg [
    ⟨(some 185), (.mv (.t 3)), none⟩,
    ⟨(some 186), (.mv (.t 22)), none⟩,
    ⟨(some 187), (.callF cVeneerDescTableGet [(.t 185), (.t 186)]), none⟩,
    ⟨(some 184), (.mv (.t 187)), none⟩,
    ⟨(some 188), (.ext (.t 184) 0), none⟩,
    ⟨(some 189), (.ext (.t 184) 1), none⟩,
    ⟨(some 23), (.zbox (.agg [(.int .i64 0), (.int .i64 0), (.int .i64 0), (.bool false), .nilSlice, (.int .i64 0)])), none⟩,
    ⟨none, (.st 6 (.t 23) (.t 188)), none⟩,
    ⟨(some 24), (.mv (.t 189)), none⟩])
  (.seq (.reg [
    ⟨(some 191), (.mv (.t 4)), none⟩,
    ⟨(some 192), (.mv (.t 22)), none⟩,
    ⟨(some 193), (.callF cVeneerVeneerref07TableGet [(.t 191), (.t 192)]), none⟩,
    ⟨(some 190), (.mv (.t 193)), none⟩,
    ⟨(some 194), (.ext (.t 190) 0), none⟩,
    ⟨(some 195), (.ext (.t 190) 1), none⟩,
    ⟨(some 25), (.zbox (.agg [(.int .i64 0), (.int .i64 0), (.int .i64 0), (.bool false), .nilSlice, (.int .i64 0)])), none⟩,
    ⟨none, (.st 6 (.t 25) (.t 194)), none⟩,
    ⟨(some 26), (.mv (.t 195)), none⟩])
  (.seq (.reg [
    ⟨(some 196), (.ldn 6 (.t 23)), none⟩,
    ⟨(some 197), (.ldn 6 (.t 25)), none⟩,
    ⟨(some 198), (.callF cVeneerref07Same [(.t 196), (.t 197)]), none⟩,
    ⟨(some 199), (.un .not (.t 198)), none⟩,
    ⟨(some 200), (.mv (.t 199)), none⟩,
    ⟨(some 201), (.mv (.t 24)), (some (200, false))⟩,
    ⟨(some 202), (.mv (.t 26)), (some (200, false))⟩,
    ⟨(some 203), (.bin .neq (.t 201) (.t 202)), (some (200, false))⟩,
    ⟨(some 204), (.pick (.t 200) (.k (.bool true)) (.t 203)), none⟩])
  (.cond (.t 204) (.seq (.reg [
    ⟨(some 2), (.mv (.k (.bool false))), none⟩])
  .ret)
  .skip)))))
  (.reg [
    ⟨(some 182), (.mv (.t 22)), none⟩,
    ⟨(some 183), (.bin .add (.t 182) (.k (.int .i64 1))), none⟩,
    ⟨(some 22), (.mv (.t 183)), none⟩])))
def veneerlaw07DescDoesC21 (cVeneerlaw07Awake cDescNew cVeneerref07Own cVeneerDescTableOpen cVeneerVeneerref07TableOpen cVeneerDescTableClose cVeneerVeneerref07TableClose cVeneerref07Same cVeneerDescTableSet cVeneerVeneerref07TableSet cVeneerDescTableGet cVeneerVeneerref07TableGet cVeneerDescTableAll cVeneerVeneerref07TableAll cVeneerlaw07Ints cVeneerDescTableFull : FuncId) : LC := .block 7 (veneerlaw07DescDoesC20 cVeneerlaw07Awake cDescNew cVeneerref07Own cVeneerDescTableOpen cVeneerVeneerref07TableOpen cVeneerDescTableClose cVeneerVeneerref07TableClose cVeneerref07Same cVeneerDescTableSet cVeneerVeneerref07TableSet cVeneerDescTableGet cVeneerVeneerref07TableGet cVeneerDescTableAll cVeneerVeneerref07TableAll cVeneerlaw07Ints cVeneerDescTableFull)
def veneerlaw07DescDoesC22 (cVeneerlaw07Awake cDescNew cVeneerref07Own cVeneerDescTableOpen cVeneerVeneerref07TableOpen cVeneerDescTableClose cVeneerVeneerref07TableClose cVeneerref07Same cVeneerDescTableSet cVeneerVeneerref07TableSet cVeneerDescTableGet cVeneerVeneerref07TableGet cVeneerDescTableAll cVeneerVeneerref07TableAll cVeneerlaw07Ints cVeneerDescTableFull : FuncId) : LC := .seq (.reg [
    ⟨(some 22), (.mv (.k (.int .i64 (-1)))), none⟩]) (veneerlaw07DescDoesC21 cVeneerlaw07Awake cDescNew cVeneerref07Own cVeneerDescTableOpen cVeneerVeneerref07TableOpen cVeneerDescTableClose cVeneerVeneerref07TableClose cVeneerref07Same cVeneerDescTableSet cVeneerVeneerref07TableSet cVeneerDescTableGet cVeneerVeneerref07TableGet cVeneerDescTableAll cVeneerVeneerref07TableAll cVeneerlaw07Ints cVeneerDescTableFull)
def veneerlaw07DescDoesC23 (cVeneerlaw07Awake cDescNew cVeneerref07Own cVeneerDescTableOpen cVeneerVeneerref07TableOpen cVeneerDescTableClose cVeneerVeneerref07TableClose cVeneerref07Same cVeneerDescTableSet cVeneerVeneerref07TableSet cVeneerDescTableGet cVeneerVeneerref07TableGet cVeneerDescTableAll cVeneerVeneerref07TableAll cVeneerlaw07Ints cVeneerDescTableFull : FuncId) : LC := .seq (veneerlaw07DescDoesC22 cVeneerlaw07Awake cDescNew cVeneerref07Own cVeneerDescTableOpen cVeneerVeneerref07TableOpen cVeneerDescTableClose cVeneerVeneerref07TableClose cVeneerref07Same cVeneerDescTableSet cVeneerVeneerref07TableSet cVeneerDescTableGet cVeneerVeneerref07TableGet cVeneerDescTableAll cVeneerVeneerref07TableAll cVeneerlaw07Ints cVeneerDescTableFull) (.seq (.reg [
    ⟨(some 2), (.mv (.k (.bool true))), none⟩])
  .ret)
def veneerlaw07DescDoesC24 (cVeneerlaw07Awake cDescNew cVeneerref07Own cVeneerDescTableOpen cVeneerVeneerref07TableOpen cVeneerDescTableClose cVeneerVeneerref07TableClose cVeneerref07Same cVeneerDescTableSet cVeneerVeneerref07TableSet cVeneerDescTableGet cVeneerVeneerref07TableGet cVeneerDescTableAll cVeneerVeneerref07TableAll cVeneerlaw07Ints cVeneerDescTableFull : FuncId) : LC := .seq (veneerlaw07DescDoesC19 cVeneerlaw07Awake cDescNew cVeneerref07Own cVeneerDescTableOpen cVeneerVeneerref07TableOpen cVeneerDescTableClose cVeneerVeneerref07TableClose cVeneerref07Same cVeneerDescTableSet cVeneerVeneerref07TableSet cVeneerDescTableGet cVeneerVeneerref07TableGet cVeneerDescTableAll cVeneerVeneerref07TableAll cVeneerlaw07Ints cVeneerDescTableFull) (veneerlaw07DescDoesC23 cVeneerlaw07Awake cDescNew cVeneerref07Own cVeneerDescTableOpen cVeneerVeneerref07TableOpen cVeneerDescTableClose cVeneerVeneerref07TableClose cVeneerref07Same cVeneerDescTableSet cVeneerVeneerref07TableSet cVeneerDescTableGet cVeneerVeneerref07TableGet cVeneerDescTableAll cVeneerVeneerref07TableAll cVeneerlaw07Ints cVeneerDescTableFull)
def veneerlaw07DescDoesC25 (cVeneerlaw07Awake cDescNew cVeneerref07Own cVeneerDescTableOpen cVeneerVeneerref07TableOpen cVeneerDescTableClose cVeneerVeneerref07TableClose cVeneerref07Same cVeneerDescTableSet cVeneerVeneerref07TableSet cVeneerDescTableGet cVeneerVeneerref07TableGet cVeneerDescTableAll cVeneerVeneerref07TableAll cVeneerlaw07Ints cVeneerDescTableFull : FuncId) : LC := .seq (.reg [
    ⟨(some 30), (.bld [(.bool false), (.bool false), (.bool false), (.bool false), (.bool false), (.bool false), (.bool false), (.bool false), (.bool false), (.bool false), (.bool false), (.bool false), (.bool false), (.bool false), (.bool false), (.bool false), (.bool false), (.bool false), (.bool false), (.bool false), (.bool false), (.bool false), (.bool false), (.bool false), (.bool false), (.bool false), (.bool false), (.bool false), (.bool false), (.bool false), (.bool false), (.bool false), (.int .i64 0), (.int .i64 0), (.int .i64 0), (.bool false), .nilSlice, (.int .i64 0), (.int .i64 0), (.int .i64 0), (.int .i64 0), (.bool false), .nilSlice, (.int .i64 0), (.int .i64 0), (.int .i64 0), (.int .i64 0), (.bool false), .nilSlice, (.int .i64 0), (.int .i64 0), (.int .i64 0), (.int .i64 0), (.bool false), .nilSlice, (.int .i64 0), (.int .i64 0), (.int .i64 0), (.int .i64 0), (.bool false), .nilSlice, (.int .i64 0), (.int .i64 0), (.int .i64 0), (.int .i64 0), (.bool false), .nilSlice, (.int .i64 0), (.int .i64 0), (.int .i64 0), (.int .i64 0), (.bool false), .nilSlice, (.int .i64 0), (.int .i64 0), (.int .i64 0), (.int .i64 0), (.bool false), .nilSlice, (.int .i64 0), (.int .i64 0), (.int .i64 0), (.int .i64 0), (.bool false), .nilSlice, (.int .i64 0), (.int .i64 0), (.int .i64 0), (.int .i64 0), (.bool false), .nilSlice, (.int .i64 0), (.int .i64 0), (.int .i64 0), (.int .i64 0), (.bool false), .nilSlice, (.int .i64 0), (.int .i64 0), (.int .i64 0), (.int .i64 0), (.bool false), .nilSlice, (.int .i64 0), (.int .i64 0), (.int .i64 0), (.int .i64 0), (.bool false), .nilSlice, (.int .i64 0), (.int .i64 0), (.int .i64 0), (.int .i64 0), (.bool false), .nilSlice, (.int .i64 0), (.int .i64 0), (.int .i64 0), (.int .i64 0), (.bool false), .nilSlice, (.int .i64 0), (.int .i64 0), (.int .i64 0), (.int .i64 0), (.bool false), .nilSlice, (.int .i64 0), (.int .i64 0), (.int .i64 0), (.int .i64 0), (.bool false), .nilSlice, (.int .i64 0), (.int .i64 0), (.int .i64 0), (.int .i64 0), (.bool false), .nilSlice, (.int .i64 0), (.int .i64 0), (.int .i64 0), (.int .i64 0), (.bool false), .nilSlice, (.int .i64 0), (.int .i64 0), (.int .i64 0), (.int .i64 0), (.bool false), .nilSlice, (.int .i64 0), (.int .i64 0), (.int .i64 0), (.int .i64 0), (.bool false), .nilSlice, (.int .i64 0), (.int .i64 0), (.int .i64 0), (.int .i64 0), (.bool false), .nilSlice, (.int .i64 0), (.int .i64 0), (.int .i64 0), (.int .i64 0), (.bool false), .nilSlice, (.int .i64 0), (.int .i64 0), (.int .i64 0), (.int .i64 0), (.bool false), .nilSlice, (.int .i64 0), (.int .i64 0), (.int .i64 0), (.int .i64 0), (.bool false), .nilSlice, (.int .i64 0), (.int .i64 0), (.int .i64 0), (.int .i64 0), (.bool false), .nilSlice, (.int .i64 0), (.int .i64 0), (.int .i64 0), (.int .i64 0), (.bool false), .nilSlice, (.int .i64 0), (.int .i64 0), (.int .i64 0), (.int .i64 0), (.bool false), .nilSlice, (.int .i64 0), (.int .i64 0), (.int .i64 0), (.int .i64 0), (.bool false), .nilSlice, (.int .i64 0), (.int .i64 0), (.int .i64 0), (.int .i64 0), (.bool false), .nilSlice, (.int .i64 0), (.int .i64 0), (.int .i64 0), (.int .i64 0), (.bool false), .nilSlice, (.int .i64 0), (.int .i64 0), (.int .i64 0), (.int .i64 0), (.bool false), .nilSlice, (.int .i64 0)] []), none⟩,
    ⟨(some 31), (.box (.t 30)), none⟩,
    ⟨(some 4), (.mv (.t 31)), none⟩]) (veneerlaw07DescDoesC24 cVeneerlaw07Awake cDescNew cVeneerref07Own cVeneerDescTableOpen cVeneerVeneerref07TableOpen cVeneerDescTableClose cVeneerVeneerref07TableClose cVeneerref07Same cVeneerDescTableSet cVeneerVeneerref07TableSet cVeneerDescTableGet cVeneerVeneerref07TableGet cVeneerDescTableAll cVeneerVeneerref07TableAll cVeneerlaw07Ints cVeneerDescTableFull)
def veneerlaw07DescDoesC26 (cVeneerlaw07Awake cDescNew cVeneerref07Own cVeneerDescTableOpen cVeneerVeneerref07TableOpen cVeneerDescTableClose cVeneerVeneerref07TableClose cVeneerref07Same cVeneerDescTableSet cVeneerVeneerref07TableSet cVeneerDescTableGet cVeneerVeneerref07TableGet cVeneerDescTableAll cVeneerVeneerref07TableAll cVeneerlaw07Ints cVeneerDescTableFull : FuncId) : LC := .seq (.reg [
    ⟨(some 29), (.callF cDescNew []), none⟩,
    ⟨(some 3), (.mv (.t 29)), none⟩]) (veneerlaw07DescDoesC25 cVeneerlaw07Awake cDescNew cVeneerref07Own cVeneerDescTableOpen cVeneerVeneerref07TableOpen cVeneerDescTableClose cVeneerVeneerref07TableClose cVeneerref07Same cVeneerDescTableSet cVeneerVeneerref07TableSet cVeneerDescTableGet cVeneerVeneerref07TableGet cVeneerDescTableAll cVeneerVeneerref07TableAll cVeneerlaw07Ints cVeneerDescTableFull)
def veneerlaw07DescDoesC27 (cVeneerlaw07Awake cDescNew cVeneerref07Own cVeneerDescTableOpen cVeneerVeneerref07TableOpen cVeneerDescTableClose cVeneerVeneerref07TableClose cVeneerref07Same cVeneerDescTableSet cVeneerVeneerref07TableSet cVeneerDescTableGet cVeneerVeneerref07TableGet cVeneerDescTableAll cVeneerVeneerref07TableAll cVeneerlaw07Ints cVeneerDescTableFull : FuncId) : LC := .seq (.seq (.reg [
    ⟨(some 27), (.callF cVeneerlaw07Awake []), none⟩,
    ⟨(some 28), (.un .not (.t 27)), none⟩])
  (.cond (.t 28) (.seq (.reg [
    ⟨(some 2), (.mv (.k (.bool false))), none⟩])
  .ret)
  .skip)) (veneerlaw07DescDoesC26 cVeneerlaw07Awake cDescNew cVeneerref07Own cVeneerDescTableOpen cVeneerVeneerref07TableOpen cVeneerDescTableClose cVeneerVeneerref07TableClose cVeneerref07Same cVeneerDescTableSet cVeneerVeneerref07TableSet cVeneerDescTableGet cVeneerVeneerref07TableGet cVeneerDescTableAll cVeneerVeneerref07TableAll cVeneerlaw07Ints cVeneerDescTableFull)
def veneerlaw07DescDoesC28 (cVeneerlaw07Awake cDescNew cVeneerref07Own cVeneerDescTableOpen cVeneerVeneerref07TableOpen cVeneerDescTableClose cVeneerVeneerref07TableClose cVeneerref07Same cVeneerDescTableSet cVeneerVeneerref07TableSet cVeneerDescTableGet cVeneerVeneerref07TableGet cVeneerDescTableAll cVeneerVeneerref07TableAll cVeneerlaw07Ints cVeneerDescTableFull : FuncId) : LC := .seq (.reg [
    ⟨(some 2), (.mv (.k (.bool false))), none⟩]) (veneerlaw07DescDoesC27 cVeneerlaw07Awake cDescNew cVeneerref07Own cVeneerDescTableOpen cVeneerVeneerref07TableOpen cVeneerDescTableClose cVeneerVeneerref07TableClose cVeneerref07Same cVeneerDescTableSet cVeneerVeneerref07TableSet cVeneerDescTableGet cVeneerVeneerref07TableGet cVeneerDescTableAll cVeneerVeneerref07TableAll cVeneerlaw07Ints cVeneerDescTableFull)
def veneerlaw07DescDoesC20S (cal : FuncId → Bool) (φ : Oracle) (N : Nat) (cVeneerlaw07Awake cDescNew cVeneerref07Own cVeneerDescTableOpen cVeneerVeneerref07TableOpen cVeneerDescTableClose cVeneerVeneerref07TableClose cVeneerref07Same cVeneerDescTableSet cVeneerVeneerref07TableSet cVeneerDescTableGet cVeneerVeneerref07TableGet cVeneerDescTableAll cVeneerVeneerref07TableAll cVeneerlaw07Ints cVeneerDescTableFull : FuncId) (gE7 : Heap → Option (IV × Heap)) : Nat → IV → IV → IV → Heap → Option (IV × Heap)
  | 0, _, _, _, _ => none
  | n + 1, v3, v4, v22, H =>
    ob (lbin .leq v22 (.int .i64 32)) fun t1 =>
    cnd t1
    (ob (φ cVeneerDescTableGet [v3, v22] H) fun r2 =>
    ob (iextract r2.1 0) fun t3 =>
    ob (iextract r2.1 1) fun t4 =>
    ob (lzbox r2.2 (.agg [(.int .i64 0), (.int .i64 0), (.int .i64 0), (.bool false), .nilSlice, (.int .i64 0)])) fun r5 =>
    ob (lstV r5.2 6 r5.1 t3) fun r6 =>
    ob (φ cVeneerVeneerref07TableGet [v4, v22] r6.2) fun r7 =>
    ob (iextract r7.1 0) fun t8 =>
    ob (iextract r7.1 1) fun t9 =>
    ob (lzbox r7.2 (.agg [(.int .i64 0), (.int .i64 0), (.int .i64 0), (.bool false), .nilSlice, (.int .i64 0)])) fun r10 =>
    ob (lstV r10.2 6 r10.1 t8) fun r11 =>
    ob (lloadn r11.2 6 r5.1) fun t12 =>
    ob (lloadn r11.2 6 r10.1) fun t13 =>
    ob (φ cVeneerref07Same [t12, t13] r11.2) fun r14 =>
    ob (iun .not r14.1) fun t15 =>
    ob (gq (isB t15 false) (some t4)) fun t16 =>
    ob (gq (isB t15 false) (some t9)) fun t17 =>
    ob (gq (isB t15 false) (lbin .neq t16 t17)) fun t18 =>
    ob (lpick t15 (.bool true) t18) fun t19 =>
    cnd t19
    (some ((.bool false), r14.2))
    (ob (lbin .add v22 (.int .i64 1)) fun t20 =>
    veneerlaw07DescDoesC20S cal φ N cVeneerlaw07Awake cDescNew cVeneerref07Own cVeneerDescTableOpen cVeneerVeneerref07TableOpen cVeneerDescTableClose cVeneerVeneerref07TableClose cVeneerref07Same cVeneerDescTableSet cVeneerVeneerref07TableSet cVeneerDescTableGet cVeneerVeneerref07TableGet cVeneerDescTableAll cVeneerVeneerref07TableAll cVeneerlaw07Ints cVeneerDescTableFull gE7 n v3 v4 t20 r14.2))
    (gE7 H)
theorem veneerlaw07DescDoesC20Eq (cal : FuncId → Bool) (φ : Oracle) (N : Nat) (cVeneerlaw07Awake cDescNew cVeneerref07Own cVeneerDescTableOpen cVeneerVeneerref07TableOpen cVeneerDescTableClose cVeneerVeneerref07TableClose cVeneerref07Same cVeneerDescTableSet cVeneerVeneerref07TableSet cVeneerDescTableGet cVeneerVeneerref07TableGet cVeneerDescTableAll cVeneerVeneerref07TableAll cVeneerlaw07Ints cVeneerDescTableFull : FuncId) {k : KT (IV × Heap)} (gE7 : Heap → Option (IV × Heap)) (hgE7 : ∀ σ H, k (.exit 7) σ H = gE7 H) (hR : ∀ σ H, k .ret σ H = resK [(.tmp 2)] [] σ H) : ∀ (n : Nat) (σ : Sg) (H : Heap), itK (lxK cal φ N (.seq (.seq (.reg [
    ⟨(some 180), (.mv (.t 22)), none⟩,
    ⟨(some 181), (.bin .leq (.t 180) (.k (.int .i64 32))), none⟩])
  (.cond (.t 181) .skip
  (.exit 7)))
  (.seq (.block 8 (.seq (.reg [
    ⟨(some 185), (.mv (.t 3)), none⟩,
    ⟨(some 186), (.mv (.t 22)), none⟩,
    ⟨(some 187), (.callF cVeneerDescTableGet [(.t 185), (.t 186)]), none⟩,
    ⟨(some 184), (.mv (.t 187)), none⟩,
    ⟨(some 188), (.ext (.t 184) 0), none⟩,
    ⟨(some 189), (.ext (.t 184) 1), none⟩,
    ⟨(some 23), (.zbox (.agg [(.int .i64 0), (.int .i64 0), (.int .i64 0), (.bool false), .nilSlice, (.int .i64 0)])), none⟩,
    ⟨none, (.st 6 (.t 23) (.t 188)), none⟩,
    ⟨(some 24), (.mv (.t 189)), none⟩])
  (.seq (.reg [
    ⟨(some 191), (.mv (.t 4)), none⟩,
    ⟨(some 192), (.mv (.t 22)), none⟩,
    ⟨(some 193), (.callF cVeneerVeneerref07TableGet [(.t 191), (.t 192)]), none⟩,
    ⟨(some 190), (.mv (.t 193)), none⟩,
    ⟨(some 194), (.ext (.t 190) 0), none⟩,
    ⟨(some 195), (.ext (.t 190) 1), none⟩,
    ⟨(some 25), (.zbox (.agg [(.int .i64 0), (.int .i64 0), (.int .i64 0), (.bool false), .nilSlice, (.int .i64 0)])), none⟩,
    ⟨none, (.st 6 (.t 25) (.t 194)), none⟩,
    ⟨(some 26), (.mv (.t 195)), none⟩])
  (.seq (.reg [
    ⟨(some 196), (.ldn 6 (.t 23)), none⟩,
    ⟨(some 197), (.ldn 6 (.t 25)), none⟩,
    ⟨(some 198), (.callF cVeneerref07Same [(.t 196), (.t 197)]), none⟩,
    ⟨(some 199), (.un .not (.t 198)), none⟩,
    ⟨(some 200), (.mv (.t 199)), none⟩,
    ⟨(some 201), (.mv (.t 24)), (some (200, false))⟩,
    ⟨(some 202), (.mv (.t 26)), (some (200, false))⟩,
    ⟨(some 203), (.bin .neq (.t 201) (.t 202)), (some (200, false))⟩,
    ⟨(some 204), (.pick (.t 200) (.k (.bool true)) (.t 203)), none⟩])
  (.cond (.t 204) (.seq (.reg [
    ⟨(some 2), (.mv (.k (.bool false))), none⟩])
  .ret)
  .skip)))))
  (.reg [
    ⟨(some 182), (.mv (.t 22)), none⟩,
    ⟨(some 183), (.bin .add (.t 182) (.k (.int .i64 1))), none⟩,
    ⟨(some 22), (.mv (.t 183)), none⟩])))) n σ H k = veneerlaw07DescDoesC20S cal φ N cVeneerlaw07Awake cDescNew cVeneerref07Own cVeneerDescTableOpen cVeneerVeneerref07TableOpen cVeneerDescTableClose cVeneerVeneerref07TableClose cVeneerref07Same cVeneerDescTableSet cVeneerVeneerref07TableSet cVeneerDescTableGet cVeneerVeneerref07TableGet cVeneerDescTableAll cVeneerVeneerref07TableAll cVeneerlaw07Ints cVeneerDescTableFull gE7 n (lk σ 3) (lk σ 4) (lk σ 22) H := by
  have hk : k = (kE 7 (fun σ H => gE7 H) (kR (resK [(.tmp 2)] []) k)) := (kE_mk hgE7 (kR_mk hR rfl))
  intro n
  induction n with
  | zero => intro σ H; rfl
  | succ n ih =>
    intro σ H
    rw [itK_succ, seqK_mk (g := fun σ H => veneerlaw07DescDoesC20S cal φ N cVeneerlaw07Awake cDescNew cVeneerref07Own cVeneerDescTableOpen cVeneerVeneerref07TableOpen cVeneerDescTableClose cVeneerVeneerref07TableClose cVeneerref07Same cVeneerDescTableSet cVeneerVeneerref07TableSet cVeneerDescTableGet cVeneerVeneerref07TableGet cVeneerDescTableAll cVeneerVeneerref07TableAll cVeneerlaw07Ints cVeneerDescTableFull gE7 n (lk σ 3) (lk σ 4) (lk σ 22) H) ih, hk]
    kernel_rfl
def veneerlaw07DescDoesC21S (cal : FuncId → Bool) (φ : Oracle) (N : Nat) (cVeneerlaw07Awake cDescNew cVeneerref07Own cVeneerDescTableOpen cVeneerVeneerref07TableOpen cVeneerDescTableClose cVeneerVeneerref07TableClose cVeneerref07Same cVeneerDescTableSet cVeneerVeneerref07TableSet cVeneerDescTableGet cVeneerVeneerref07TableGet cVeneerDescTableAll cVeneerVeneerref07TableAll cVeneerlaw07Ints cVeneerDescTableFull : FuncId) (gN : Heap → Option (IV × Heap)) (v3 v4 v22 : IV) (H : Heap) : Option (IV × Heap) :=
    veneerlaw07DescDoesC20S cal φ N cVeneerlaw07Awake cDescNew cVeneerref07Own cVeneerDescTableOpen cVeneerVeneerref07TableOpen cVeneerDescTableClose cVeneerVeneerref07TableClose cVeneerref07Same cVeneerDescTableSet cVeneerVeneerref07TableSet cVeneerDescTableGet cVeneerVeneerref07TableGet cVeneerDescTableAll cVeneerVeneerref07TableAll cVeneerlaw07Ints cVeneerDescTableFull (fun H => gN H) N v3 v4 v22 H
theorem veneerlaw07DescDoesC21Eq (cal : FuncId → Bool) (φ : Oracle) (N : Nat) (cVeneerlaw07Awake cDescNew cVeneerref07Own cVeneerDescTableOpen cVeneerVeneerref07TableOpen cVeneerDescTableClose cVeneerVeneerref07TableClose cVeneerref07Same cVeneerDescTableSet cVeneerVeneerref07TableSet cVeneerDescTableGet cVeneerVeneerref07TableGet cVeneerDescTableAll cVeneerVeneerref07TableAll cVeneerlaw07Ints cVeneerDescTableFull : FuncId) {k : KT (IV × Heap)} (gN : Heap → Option (IV × Heap)) (hgN : ∀ σ H, k .normal σ H = gN H) (hR : ∀ σ H, k .ret σ H = resK [(.tmp 2)] [] σ H) : ∀ (σ : Sg) (H : Heap), lxK cal φ N (veneerlaw07DescDoesC21 cVeneerlaw07Awake cDescNew cVeneerref07Own cVeneerDescTableOpen cVeneerVeneerref07TableOpen cVeneerDescTableClose cVeneerVeneerref07TableClose cVeneerref07Same cVeneerDescTableSet cVeneerVeneerref07TableSet cVeneerDescTableGet cVeneerVeneerref07TableGet cVeneerDescTableAll cVeneerVeneerref07TableAll cVeneerlaw07Ints cVeneerDescTableFull) σ H k = veneerlaw07DescDoesC21S cal φ N cVeneerlaw07Awake cDescNew cVeneerref07Own cVeneerDescTableOpen cVeneerVeneerref07TableOpen cVeneerDescTableClose cVeneerVeneerref07TableClose cVeneerref07Same cVeneerDescTableSet cVeneerVeneerref07TableSet cVeneerDescTableGet cVeneerVeneerref07TableGet cVeneerDescTableAll cVeneerVeneerref07TableAll cVeneerlaw07Ints cVeneerDescTableFull gN (lk σ 3) (lk σ 4) (lk σ 22) H := by
  have hk : k = (kN (fun σ H => gN H) (kR (resK [(.tmp 2)] []) k)) := (kN_mk hgN (kR_mk hR rfl))
  intro σ H
  rw [hk]
  show lxK cal φ N (veneerlaw07DescDoesC20 cVeneerlaw07Awake cDescNew cVeneerref07Own cVeneerDescTableOpen cVeneerVeneerref07TableOpen cVeneerDescTableClose cVeneerVeneerref07TableClose cVeneerref07Same cVeneerDescTableSet cVeneerVeneerref07TableSet cVeneerDescTableGet cVeneerVeneerref07TableGet cVeneerDescTableAll cVeneerVeneerref07TableAll cVeneerlaw07Ints cVeneerDescTableFull) σ H (blockK 7 (kN (fun σ H => gN H) (kR (resK [(.tmp 2)] []) k))) = _
  exact veneerlaw07DescDoesC20Eq cal φ N cVeneerlaw07Awake cDescNew cVeneerref07Own cVeneerDescTableOpen cVeneerVeneerref07TableOpen cVeneerDescTableClose cVeneerVeneerref07TableClose cVeneerref07Same cVeneerDescTableSet cVeneerVeneerref07TableSet cVeneerDescTableGet cVeneerVeneerref07TableGet cVeneerDescTableAll cVeneerVeneerref07TableAll cVeneerlaw07Ints cVeneerDescTableFull (k := (blockK 7 (kN (fun σ H => gN H) (kR (resK [(.tmp 2)] []) k)))) (fun H => gN H) (fun _ _ => rfl) (fun _ _ => rfl) N σ H
def veneerlaw07DescDoesC22S (cal : FuncId → Bool) (φ : Oracle) (N : Nat) (cVeneerlaw07Awake cDescNew cVeneerref07Own cVeneerDescTableOpen cVeneerVeneerref07TableOpen cVeneerDescTableClose cVeneerVeneerref07TableClose cVeneerref07Same cVeneerDescTableSet cVeneerVeneerref07TableSet cVeneerDescTableGet cVeneerVeneerref07TableGet cVeneerDescTableAll cVeneerVeneerref07TableAll cVeneerlaw07Ints cVeneerDescTableFull : FuncId) (gN : Heap → Option (IV × Heap)) (v3 v4 : IV) (H : Heap) : Option (IV × Heap) :=
    veneerlaw07DescDoesC21S cal φ N cVeneerlaw07Awake cDescNew cVeneerref07Own cVeneerDescTableOpen cVeneerVeneerref07TableOpen cVeneerDescTableClose cVeneerVeneerref07TableClose cVeneerref07Same cVeneerDescTableSet cVeneerVeneerref07TableSet cVeneerDescTableGet cVeneerVeneerref07TableGet cVeneerDescTableAll cVeneerVeneerref07TableAll cVeneerlaw07Ints cVeneerDescTableFull (fun H => gN H) v3 v4 (.int .i64 (-1)) H
theorem veneerlaw07DescDoesC22Eq (cal : FuncId → Bool) (φ : Oracle) (N : Nat) (cVeneerlaw07Awake cDescNew cVeneerref07Own cVeneerDescTableOpen cVeneerVeneerref07TableOpen cVeneerDescTableClose cVeneerVeneerref07TableClose cVeneerref07Same cVeneerDescTableSet cVeneerVeneerref07TableSet cVeneerDescTableGet cVeneerVeneerref07TableGet cVeneerDescTableAll cVeneerVeneerref07TableAll cVeneerlaw07Ints cVeneerDescTableFull : FuncId) {k : KT (IV × Heap)} (gN : Heap → Option (IV × Heap)) (hgN : ∀ σ H, k .normal σ H = gN H) (hR : ∀ σ H, k .ret σ H = resK [(.tmp 2)] [] σ H) : ∀ (σ : Sg) (H : Heap), lxK cal φ N (veneerlaw07DescDoesC22 cVeneerlaw07Awake cDescNew cVeneerref07Own cVeneerDescTableOpen cVeneerVeneerref07TableOpen cVeneerDescTableClose cVeneerVeneerref07TableClose cVeneerref07Same cVeneerDescTableSet cVeneerVeneerref07TableSet cVeneerDescTableGet cVeneerVeneerref07TableGet cVeneerDescTableAll cVeneerVeneerref07TableAll cVeneerlaw07Ints cVeneerDescTableFull) σ H k = veneerlaw07DescDoesC22S cal φ N cVeneerlaw07Awake cDescNew cVeneerref07Own cVeneerDescTableOpen cVeneerVeneerref07TableOpen cVeneerDescTableClose cVeneerVeneerref07TableClose cVeneerref07Same cVeneerDescTableSet cVeneerVeneerref07TableSet cVeneerDescTableGet cVeneerVeneerref07TableGet cVeneerDescTableAll cVeneerVeneerref07TableAll cVeneerlaw07Ints cVeneerDescTableFull gN (lk σ 3) (lk σ 4) H := by
  have hk : k = (kN (fun σ H => gN H) (kR (resK [(.tmp 2)] []) k)) := (kN_mk hgN (kR_mk hR rfl))
  intro σ H
  rw [hk]
  show lxK cal φ N (.reg [
    ⟨(some 22), (.mv (.k (.int .i64 (-1)))), none⟩]) σ H (seqK (lxK cal φ N (veneerlaw07DescDoesC21 cVeneerlaw07Awake cDescNew cVeneerref07Own cVeneerDescTableOpen cVeneerVeneerref07TableOpen cVeneerDescTableClose cVeneerVeneerref07TableClose cVeneerref07Same cVeneerDescTableSet cVeneerVeneerref07TableSet cVeneerDescTableGet cVeneerVeneerref07TableGet cVeneerDescTableAll cVeneerVeneerref07TableAll cVeneerlaw07Ints cVeneerDescTableFull)) (kN (fun σ H => gN H) (kR (resK [(.tmp 2)] []) k))) = _
  rw [seqK_mk (g := fun σ H => veneerlaw07DescDoesC21S cal φ N cVeneerlaw07Awake cDescNew cVeneerref07Own cVeneerDescTableOpen cVeneerVeneerref07TableOpen cVeneerDescTableClose cVeneerVeneerref07TableClose cVeneerref07Same cVeneerDescTableSet cVeneerVeneerref07TableSet cVeneerDescTableGet cVeneerVeneerref07TableGet cVeneerDescTableAll cVeneerVeneerref07TableAll cVeneerlaw07Ints cVeneerDescTableFull (fun H => gN H) (lk σ 3) (lk σ 4) (lk σ 22) H) (veneerlaw07DescDoesC21Eq cal φ N cVeneerlaw07Awake cDescNew cVeneerref07Own cVeneerDescTableOpen cVeneerVeneerref07TableOpen cVeneerDescTableClose cVeneerVeneerref07TableClose cVeneerref07Same cVeneerDescTableSet cVeneerVeneerref07TableSet cVeneerDescTableGet cVeneerVeneerref07TableGet cVeneerDescTableAll cVeneerVeneerref07TableAll cVeneerlaw07Ints cVeneerDescTableFull (k := (kN (fun σ H => gN H) (kR (resK [(.tmp 2)] []) k))) (fun H => gN H) (fun _ _ => rfl) (fun _ _ => rfl))]
  kernel_rfl
def veneerlaw07DescDoesC23S (cal : FuncId → Bool) (φ : Oracle) (N : Nat) (cVeneerlaw07Awake cDescNew cVeneerref07Own cVeneerDescTableOpen cVeneerVeneerref07TableOpen cVeneerDescTableClose cVeneerVeneerref07TableClose cVeneerref07Same cVeneerDescTableSet cVeneerVeneerref07TableSet cVeneerDescTableGet cVeneerVeneerref07TableGet cVeneerDescTableAll cVeneerVeneerref07TableAll cVeneerlaw07Ints cVeneerDescTableFull : FuncId) (v3 v4 : IV) (H : Heap) : Option (IV × Heap) :=
    veneerlaw07DescDoesC22S cal φ N cVeneerlaw07Awake cDescNew cVeneerref07Own cVeneerDescTableOpen cVeneerVeneerref07TableOpen cVeneerDescTableClose cVeneerVeneerref07TableClose cVeneerref07Same cVeneerDescTableSet cVeneerVeneerref07TableSet cVeneerDescTableGet cVeneerVeneerref07TableGet cVeneerDescTableAll cVeneerVeneerref07TableAll cVeneerlaw07Ints cVeneerDescTableFull (fun H => some ((.bool true), H)) v3 v4 H
theorem veneerlaw07DescDoesC23Eq (cal : FuncId → Bool) (φ : Oracle) (N : Nat) (cVeneerlaw07Awake cDescNew cVeneerref07Own cVeneerDescTableOpen cVeneerVeneerref07TableOpen cVeneerDescTableClose cVeneerVeneerref07TableClose cVeneerref07Same cVeneerDescTableSet cVeneerVeneerref07TableSet cVeneerDescTableGet cVeneerVeneerref07TableGet cVeneerDescTableAll cVeneerVeneerref07TableAll cVeneerlaw07Ints cVeneerDescTableFull : FuncId) {k : KT (IV × Heap)} (hR : ∀ σ H, k .ret σ H = resK [(.tmp 2)] [] σ H) : ∀ (σ : Sg) (H : Heap), lxK cal φ N (veneerlaw07DescDoesC23 cVeneerlaw07Awake cDescNew cVeneerref07Own cVeneerDescTableOpen cVeneerVeneerref07TableOpen cVeneerDescTableClose cVeneerVeneerref07TableClose cVeneerref07Same cVeneerDescTableSet cVeneerVeneerref07TableSet cVeneerDescTableGet cVeneerVeneerref07TableGet cVeneerDescTableAll cVeneerVeneerref07TableAll cVeneerlaw07Ints cVeneerDescTableFull) σ H k = veneerlaw07DescDoesC23S cal φ N cVeneerlaw07Awake cDescNew cVeneerref07Own cVeneerDescTableOpen cVeneerVeneerref07TableOpen cVeneerDescTableClose cVeneerVeneerref07TableClose cVeneerref07Same cVeneerDescTableSet cVeneerVeneerref07TableSet cVeneerDescTableGet cVeneerVeneerref07TableGet cVeneerDescTableAll cVeneerVeneerref07TableAll cVeneerlaw07Ints cVeneerDescTableFull (lk σ 3) (lk σ 4) H := by
  have hk : k = (kR (resK [(.tmp 2)] []) k) := (kR_mk hR rfl)
  intro σ H
  rw [hk]
  show lxK cal φ N (veneerlaw07DescDoesC22 cVeneerlaw07Awake cDescNew cVeneerref07Own cVeneerDescTableOpen cVeneerVeneerref07TableOpen cVeneerDescTableClose cVeneerVeneerref07TableClose cVeneerref07Same cVeneerDescTableSet cVeneerVeneerref07TableSet cVeneerDescTableGet cVeneerVeneerref07TableGet cVeneerDescTableAll cVeneerVeneerref07TableAll cVeneerlaw07Ints cVeneerDescTableFull) σ H (seqK (lxK cal φ N (.seq (.reg [
    ⟨(some 2), (.mv (.k (.bool true))), none⟩])
  .ret)) (kR (resK [(.tmp 2)] []) k)) = _
  exact veneerlaw07DescDoesC22Eq cal φ N cVeneerlaw07Awake cDescNew cVeneerref07Own cVeneerDescTableOpen cVeneerVeneerref07TableOpen cVeneerDescTableClose cVeneerVeneerref07TableClose cVeneerref07Same cVeneerDescTableSet cVeneerVeneerref07TableSet cVeneerDescTableGet cVeneerVeneerref07TableGet cVeneerDescTableAll cVeneerVeneerref07TableAll cVeneerlaw07Ints cVeneerDescTableFull (k := (seqK (lxK cal φ N (.seq (.reg [
    ⟨(some 2), (.mv (.k (.bool true))), none⟩])
  .ret)) (kR (resK [(.tmp 2)] []) k))) (fun H => some ((.bool true), H)) (fun _ _ => rfl) (fun _ _ => rfl) σ H
def veneerlaw07DescDoesC3S (cal : FuncId → Bool) (φ : Oracle) (N : Nat) (cVeneerlaw07Awake cDescNew cVeneerref07Own cVeneerDescTableOpen cVeneerVeneerref07TableOpen cVeneerDescTableClose cVeneerVeneerref07TableClose cVeneerref07Same cVeneerDescTableSet cVeneerVeneerref07TableSet cVeneerDescTableGet cVeneerVeneerref07TableGet cVeneerDescTableAll cVeneerVeneerref07TableAll cVeneerlaw07Ints cVeneerDescTableFull : FuncId) (gE5 : IV → IV → IV → IV → Heap → Option (IV × Heap)) : Nat → IV → IV → IV → IV → IV → IV → IV → Heap → Option (IV × Heap)
  | 0, _, _, _, _, _, _, _, _ => none
  | n + 1, v0, v3, v4, v5, v17, v171, v172, H =>
    ob (lbin .lss v172 v171) fun t1 =>
    cnd t1
    (ob (loff v17 4) fun t2 =>
    ob (lload1 H t2) fun t3 =>
    ob (lix 1 t3 v172) fun t4 =>
    ob (lstV H 1 t4 (.str [121])) fun r5 =>
    ob (lbin .add v172 (.int .i64 1)) fun t6 =>
    veneerlaw07DescDoesC3S cal φ N cVeneerlaw07Awake cDescNew cVeneerref07Own cVeneerDescTableOpen cVeneerVeneerref07TableOpen cVeneerDescTableClose cVeneerVeneerref07TableClose cVeneerref07Same cVeneerDescTableSet cVeneerVeneerref07TableSet cVeneerDescTableGet cVeneerVeneerref07TableGet cVeneerDescTableAll cVeneerVeneerref07TableAll cVeneerlaw07Ints cVeneerDescTableFull gE5 n v0 v3 v4 v5 v17 v171 t6 r5.2)
    (gE5 v0 v3 v4 v5 H)
theorem veneerlaw07DescDoesC3Eq (cal : FuncId → Bool) (φ : Oracle) (N : Nat) (cVeneerlaw07Awake cDescNew cVeneerref07Own cVeneerDescTableOpen cVeneerVeneerref07TableOpen cVeneerDescTableClose cVeneerVeneerref07TableClose cVeneerref07Same cVeneerDescTableSet cVeneerVeneerref07TableSet cVeneerDescTableGet cVeneerVeneerref07TableGet cVeneerDescTableAll cVeneerVeneerref07TableAll cVeneerlaw07Ints cVeneerDescTableFull : FuncId) {k : KT (IV × Heap)} (gE5 : IV → IV → IV → IV → Heap → Option (IV × Heap)) (hgE5 : ∀ σ H, k (.exit 5) σ H = gE5 (lk σ 0) (lk σ 3) (lk σ 4) (lk σ 5) H) : ∀ (n : Nat) (σ : Sg) (H : Heap), itK (lxK cal φ N (.seq (.reg [
    ⟨(some 173), (.bin .lss (.t 172) (.t 171)), none⟩])
  (.seq (.cond (.t 173) .skip
  (.exit 5))
  (.seq (.block 6 (.seq (.reg [
    ⟨(some 174), (.mv (.t 172)), none⟩,
    ⟨(some 21), (.mv (.t 174)), none⟩])
  (.reg [
    ⟨(some 175), (.off (.t 17) 4), none⟩,
    ⟨(some 176), (.ld1 (.t 175)), none⟩,
    ⟨(some 177), (.mv (.t 21)), none⟩,
    ⟨(some 178), (.ix 1 (.t 176) (.t 177)), none⟩,
    ⟨none, (.st 1 (.t 178) (.k (.str [121]))), none⟩])))
  (.reg [
    ⟨(some 179), (.bin .add (.t 172) (.k (.int .i64 1))), none⟩,
    ⟨(some 172), (.mv (.t 179)), none⟩]))))) n σ H k = veneerlaw07DescDoesC3S cal φ N cVeneerlaw07Awake cDescNew cVeneerref07Own cVeneerDescTableOpen cVeneerVeneerref07TableOpen cVeneerDescTableClose cVeneerVeneerref07TableClose cVeneerref07Same cVeneerDescTableSet cVeneerVeneerref07TableSet cVeneerDescTableGet cVeneerVeneerref07TableGet cVeneerDescTableAll cVeneerVeneerref07TableAll cVeneerlaw07Ints cVeneerDescTableFull gE5 n (lk σ 0) (lk σ 3) (lk σ 4) (lk σ 5) (lk σ 17) (lk σ 171) (lk σ 172) H := by
  have hk : k = (kE 5 (fun σ H => gE5 (lk σ 0) (lk σ 3) (lk σ 4) (lk σ 5) H) k) := (kE_mk hgE5 rfl)
  intro n
  induction n with
  | zero => intro σ H; rfl
  | succ n ih =>
    intro σ H
    rw [itK_succ, seqK_mk (g := fun σ H => veneerlaw07DescDoesC3S cal φ N cVeneerlaw07Awake cDescNew cVeneerref07Own cVeneerDescTableOpen cVeneerVeneerref07TableOpen cVeneerDescTableClose cVeneerVeneerref07TableClose cVeneerref07Same cVeneerDescTableSet cVeneerVeneerref07TableSet cVeneerDescTableGet cVeneerVeneerref07TableGet cVeneerDescTableAll cVeneerVeneerref07TableAll cVeneerlaw07Ints cVeneerDescTableFull gE5 n (lk σ 0) (lk σ 3) (lk σ 4) (lk σ 5) (lk σ 17) (lk σ 171) (lk σ 172) H) ih, hk]
    kernel_rfl
def veneerlaw07DescDoesC4S (cal : FuncId → Bool) (φ : Oracle) (N : Nat) (cVeneerlaw07Awake cDescNew cVeneerref07Own cVeneerDescTableOpen cVeneerVeneerref07TableOpen cVeneerDescTableClose cVeneerVeneerref07TableClose cVeneerref07Same cVeneerDescTableSet cVeneerVeneerref07TableSet cVeneerDescTableGet cVeneerVeneerref07TableGet cVeneerDescTableAll cVeneerVeneerref07TableAll cVeneerlaw07Ints cVeneerDescTableFull : FuncId) (gN : IV → IV → IV → IV → Heap → Option (IV × Heap)) (v0 v3 v4 v5 v17 v171 v172 : IV) (H : Heap) : Option (IV × Heap) :=
    veneerlaw07DescDoesC3S cal φ N cVeneerlaw07Awake cDescNew cVeneerref07Own cVeneerDescTableOpen cVeneerVeneerref07TableOpen cVeneerDescTableClose cVeneerVeneerref07TableClose cVeneerref07Same cVeneerDescTableSet cVeneerVeneerref07TableSet cVeneerDescTableGet cVeneerVeneerref07TableGet cVeneerDescTableAll cVeneerVeneerref07TableAll cVeneerlaw07Ints cVeneerDescTableFull (fun v0 v3 v4 v5 H => gN v0 v3 v4 v5 H) N v0 v3 v4 v5 v17 v171 v172 H
theorem veneerlaw07DescDoesC4Eq (cal : FuncId → Bool) (φ : Oracle) (N : Nat) (cVeneerlaw07Awake cDescNew cVeneerref07Own cVeneerDescTableOpen cVeneerVeneerref07TableOpen cVeneerDescTableClose cVeneerVeneerref07TableClose cVeneerref07Same cVeneerDescTableSet cVeneerVeneerref07TableSet cVeneerDescTableGet cVeneerVeneerref07TableGet cVeneerDescTableAll cVeneerVeneerref07TableAll cVeneerlaw07Ints cVeneerDescTableFull : FuncId) {k : KT (IV × Heap)} (gN : IV → IV → IV → IV → Heap → Option (IV × Heap)) (hgN : ∀ σ H, k .normal σ H = gN (lk σ 0) (lk σ 3) (lk σ 4) (lk σ 5) H) : ∀ (σ : Sg) (H : Heap), lxK cal φ N (veneerlaw07DescDoesC4 cVeneerlaw07Awake cDescNew cVeneerref07Own cVeneerDescTableOpen cVeneerVeneerref07TableOpen cVeneerDescTableClose cVeneerVeneerref07TableClose cVeneerref07Same cVeneerDescTableSet cVeneerVeneerref07TableSet cVeneerDescTableGet cVeneerVeneerref07TableGet cVeneerDescTableAll cVeneerVeneerref07TableAll cVeneerlaw07Ints cVeneerDescTableFull) σ H k = veneerlaw07DescDoesC4S cal φ N cVeneerlaw07Awake cDescNew cVeneerref07Own cVeneerDescTableOpen cVeneerVeneerref07TableOpen cVeneerDescTableClose cVeneerVeneerref07TableClose cVeneerref07Same cVeneerDescTableSet cVeneerVeneerref07TableSet cVeneerDescTableGet cVeneerVeneerref07TableGet cVeneerDescTableAll cVeneerVeneerref07TableAll cVeneerlaw07Ints cVeneerDescTableFull gN (lk σ 0) (lk σ 3) (lk σ 4) (lk σ 5) (lk σ 17) (lk σ 171) (lk σ 172) H := by
  have hk : k = (kN (fun σ H => gN (lk σ 0) (lk σ 3) (lk σ 4) (lk σ 5) H) k) := (kN_mk hgN rfl)
  intro σ H
  rw [hk]
  show lxK cal φ N (veneerlaw07DescDoesC3 cVeneerlaw07Awake cDescNew cVeneerref07Own cVeneerDescTableOpen cVeneerVeneerref07TableOpen cVeneerDescTableClose cVeneerVeneerref07TableClose cVeneerref07Same cVeneerDescTableSet cVeneerVeneerref07TableSet cVeneerDescTableGet cVeneerVeneerref07TableGet cVeneerDescTableAll cVeneerVeneerref07TableAll cVeneerlaw07Ints cVeneerDescTableFull) σ H (blockK 5 (kN (fun σ H => gN (lk σ 0) (lk σ 3) (lk σ 4) (lk σ 5) H) k)) = _
  exact veneerlaw07DescDoesC3Eq cal φ N cVeneerlaw07Awake cDescNew cVeneerref07Own cVeneerDescTableOpen cVeneerVeneerref07TableOpen cVeneerDescTableClose cVeneerVeneerref07TableClose cVeneerref07Same cVeneerDescTableSet cVeneerVeneerref07TableSet cVeneerDescTableGet cVeneerVeneerref07TableGet cVeneerDescTableAll cVeneerVeneerref07TableAll cVeneerlaw07Ints cVeneerDescTableFull (k := (blockK 5 (kN (fun σ H => gN (lk σ 0) (lk σ 3) (lk σ 4) (lk σ 5) H) k))) (fun v0 v3 v4 v5 H => gN v0 v3 v4 v5 H) (fun _ _ => rfl) N σ H
def veneerlaw07DescDoesC5S (cal : FuncId → Bool) (φ : Oracle) (N : Nat) (cVeneerlaw07Awake cDescNew cVeneerref07Own cVeneerDescTableOpen cVeneerVeneerref07TableOpen cVeneerDescTableClose cVeneerVeneerref07TableClose cVeneerref07Same cVeneerDescTableSet cVeneerVeneerref07TableSet cVeneerDescTableGet cVeneerVeneerref07TableGet cVeneerDescTableAll cVeneerVeneerref07TableAll cVeneerlaw07Ints cVeneerDescTableFull : FuncId) (gN : IV → IV → IV → IV → Heap → Option (IV × Heap)) (v0 v3 v4 v5 v17 : IV) (H : Heap) : Option (IV × Heap) :=
    ob (loff v17 4) fun t1 =>
    ob (lload1 H t1) fun t2 =>
    ob (llen H .slice t2) fun t3 =>
    veneerlaw07DescDoesC4S cal φ N cVeneerlaw07Awake cDescNew cVeneerref07Own cVeneerDescTableOpen cVeneerVeneerref07TableOpen cVeneerDescTableClose cVeneerVeneerref07TableClose cVeneerref07Same cVeneerDescTableSet cVeneerVeneerref07TableSet cVeneerDescTableGet cVeneerVeneerref07TableGet cVeneerDescTableAll cVeneerVeneerref07TableAll cVeneerlaw07Ints cVeneerDescTableFull (fun v0 v3 v4 v5 H => gN v0 v3 v4 v5 H) v0 v3 v4 v5 v17 t3 (.int .i64 0) H
theorem veneerlaw07DescDoesC5Eq (cal : FuncId → Bool) (φ : Oracle) (N : Nat) (cVeneerlaw07Awake cDescNew cVeneerref07Own cVeneerDescTableOpen cVeneerVeneerref07TableOpen cVeneerDescTableClose cVeneerVeneerref07TableClose cVeneerref07Same cVeneerDescTableSet cVeneerVeneerref07TableSet cVeneerDescTableGet cVeneerVeneerref07TableGet cVeneerDescTableAll cVeneerVeneerref07TableAll cVeneerlaw07Ints cVeneerDescTableFull : FuncId) {k : KT (IV × Heap)} (gN : IV → IV → IV → IV → Heap → Option (IV × Heap)) (hgN : ∀ σ H, k .normal σ H = gN (lk σ 0) (lk σ 3) (lk σ 4) (lk σ 5) H) : ∀ (σ : Sg) (H : Heap), lxK cal φ N (veneerlaw07DescDoesC5 cVeneerlaw07Awake cDescNew cVeneerref07Own cVeneerDescTableOpen cVeneerVeneerref07TableOpen cVeneerDescTableClose cVeneerVeneerref07TableClose cVeneerref07Same cVeneerDescTableSet cVeneerVeneerref07TableSet cVeneerDescTableGet cVeneerVeneerref07TableGet cVeneerDescTableAll cVeneerVeneerref07TableAll cVeneerlaw07Ints cVeneerDescTableFull) σ H k = veneerlaw07DescDoesC5S cal φ N cVeneerlaw07Awake cDescNew cVeneerref07Own cVeneerDescTableOpen cVeneerVeneerref07TableOpen cVeneerDescTableClose cVeneerVeneerref07TableClose cVeneerref07Same cVeneerDescTableSet cVeneerVeneerref07TableSet cVeneerDescTableGet cVeneerVeneerref07TableGet cVeneerDescTableAll cVeneerVeneerref07TableAll cVeneerlaw07Ints cVeneerDescTableFull gN (lk σ 0) (lk σ 3) (lk σ 4) (lk σ 5) (lk σ 17) H := by
  have hk : k = (kN (fun σ H => gN (lk σ 0) (lk σ 3) (lk σ 4) (lk σ 5) H) k) := (kN_mk hgN rfl)
  intro σ H
  rw [hk]
  show lxK cal φ N (.reg [
    ⟨(some 169), (.off (.t 17) 4), none⟩,
    ⟨(some 170), (.ld1 (.t 169)), none⟩,
    ⟨(some 171), (.len .slice (.t 170)), none⟩,
    ⟨(some 172), (.mv (.k (.int .i64 0))), none⟩]) σ H (seqK (lxK cal φ N (veneerlaw07DescDoesC4 cVeneerlaw07Awake cDescNew cVeneerref07Own cVeneerDescTableOpen cVeneerVeneerref07TableOpen cVeneerDescTableClose cVeneerVeneerref07TableClose cVeneerref07Same cVeneerDescTableSet cVeneerVeneerref07TableSet cVeneerDescTableGet cVeneerVeneerref07TableGet cVeneerDescTableAll cVeneerVeneerref07TableAll cVeneerlaw07Ints cVeneerDescTableFull)) (kN (fun σ H => gN (lk σ 0) (lk σ 3) (lk σ 4) (lk σ 5) H) k)) = _
  rw [seqK_mk (g := fun σ H => veneerlaw07DescDoesC4S cal φ N cVeneerlaw07Awake cDescNew cVeneerref07Own cVeneerDescTableOpen cVeneerVeneerref07TableOpen cVeneerDescTableClose cVeneerVeneerref07TableClose cVeneerref07Same cVeneerDescTableSet cVeneerVeneerref07TableSet cVeneerDescTableGet cVeneerVeneerref07TableGet cVeneerDescTableAll cVeneerVeneerref07TableAll cVeneerlaw07Ints cVeneerDescTableFull (fun v0 v3 v4 v5 H => gN v0 v3 v4 v5 H) (lk σ 0) (lk σ 3) (lk σ 4) (lk σ 5) (lk σ 17) (lk σ 171) (lk σ 172) H) (veneerlaw07DescDoesC4Eq cal φ N cVeneerlaw07Awake cDescNew cVeneerref07Own cVeneerDescTableOpen cVeneerVeneerref07TableOpen cVeneerDescTableClose cVeneerVeneerref07TableClose cVeneerref07Same cVeneerDescTableSet cVeneerVeneerref07TableSet cVeneerDescTableGet cVeneerVeneerref07TableGet cVeneerDescTableAll cVeneerVeneerref07TableAll cVeneerlaw07Ints cVeneerDescTableFull (k := (kN (fun σ H => gN (lk σ 0) (lk σ 3) (lk σ 4) (lk σ 5) H) k)) (fun v0 v3 v4 v5 H => gN v0 v3 v4 v5 H) (fun _ _ => rfl))]
  kernel_rfl
def veneerlaw07DescDoesC6S (cal : FuncId → Bool) (φ : Oracle) (N : Nat) (cVeneerlaw07Awake cDescNew cVeneerref07Own cVeneerDescTableOpen cVeneerVeneerref07TableOpen cVeneerDescTableClose cVeneerVeneerref07TableClose cVeneerref07Same cVeneerDescTableSet cVeneerVeneerref07TableSet cVeneerDescTableGet cVeneerVeneerref07TableGet cVeneerDescTableAll cVeneerVeneerref07TableAll cVeneerlaw07Ints cVeneerDescTableFull : FuncId) (gN : IV → IV → IV → IV → Heap → Option (IV × Heap)) (v0 v3 v4 v5 v17 v18 v19 v20 : IV) (H : Heap) : Option (IV × Heap) :=
    ob (lloadn H 6 v17) fun t1 =>
    ob (lloadn H 6 v19) fun t2 =>
    ob (φ cVeneerref07Same [t1, t2] H) fun r3 =>
    ob (iun .not r3.1) fun t4 =>
    ob (gq (isB t4 false) (some v18)) fun t5 =>
    ob (gq (isB t4 false) (some v20)) fun t6 =>
    ob (gq (isB t4 false) (lbin .neq t5 t6)) fun t7 =>
    ob (lpick t4 (.bool true) t7) fun t8 =>
    ob (gq (isB t8 false) (some v3)) fun t9 =>
    ob (ge (isB t8 false) r3.2 (φ cVeneerDescTableAll [t9] r3.2)) fun r10 =>
    ob (gq (isB t8 false) (some v4)) fun t11 =>
    ob (ge (isB t8 false) r10.2 (φ cVeneerVeneerref07TableAll [t11] r10.2)) fun r12 =>
    ob (ge (isB t8 false) r12.2 (φ cVeneerlaw07Ints [r10.1, r12.1] r12.2)) fun r13 =>
    ob (gq (isB t8 false) (iun .not r13.1)) fun t14 =>
    ob (lpick t8 (.bool true) t14) fun t15 =>
    ob (gq (isB t15 false) (some v3)) fun t16 =>
    ob (ge (isB t15 false) r13.2 (φ cVeneerDescTableFull [t16] r13.2)) fun r17 =>
    ob (gq (isB t15 false) (some v4)) fun t18 =>
    ob (ge (isB t15 false) r17.2 (φ cVeneerVeneerref07TableAll [t18] r17.2)) fun r19 =>
    ob (gq (isB t15 false) (llen r19.2 .slice r19.1)) fun t20 =>
    ob (gq (isB t15 false) (lbin .eql t20 (.int .i64 32))) fun t21 =>
    ob (gq (isB t15 false) (leqv true (leq .bool r17.1 t21))) fun t22 =>
    ob (lpick t15 (.bool true) t22) fun t23 =>
    cnd t23
    (some ((.bool false), r19.2))
    (veneerlaw07DescDoesC5S cal φ N cVeneerlaw07Awake cDescNew cVeneerref07Own cVeneerDescTableOpen cVeneerVeneerref07TableOpen cVeneerDescTableClose cVeneerVeneerref07TableClose cVeneerref07Same cVeneerDescTableSet cVeneerVeneerref07TableSet cVeneerDescTableGet cVeneerVeneerref07TableGet cVeneerDescTableAll cVeneerVeneerref07TableAll cVeneerlaw07Ints cVeneerDescTableFull (fun v0 v3 v4 v5 H => gN v0 v3 v4 v5 H) v0 v3 v4 v5 v17 r19.2)
theorem veneerlaw07DescDoesC6Eq (cal : FuncId → Bool) (φ : Oracle) (N : Nat) (cVeneerlaw07Awake cDescNew cVeneerref07Own cVeneerDescTableOpen cVeneerVeneerref07TableOpen cVeneerDescTableClose cVeneerVeneerref07TableClose cVeneerref07Same cVeneerDescTableSet cVeneerVeneerref07TableSet cVeneerDescTableGet cVeneerVeneerref07TableGet cVeneerDescTableAll cVeneerVeneerref07TableAll cVeneerlaw07Ints cVeneerDescTableFull : FuncId) {k : KT (IV × Heap)} (gN : IV → IV → IV → IV → Heap → Option (IV × Heap)) (hgN : ∀ σ H, k .normal σ H = gN (lk σ 0) (lk σ 3) (lk σ 4) (lk σ 5) H) (hR : ∀ σ H, k .ret σ H = resK [(.tmp 2)] [] σ H) : ∀ (σ : Sg) (H : Heap), lxK cal φ N (veneerlaw07DescDoesC6 cVeneerlaw07Awake cDescNew cVeneerref07Own cVeneerDescTableOpen cVeneerVeneerref07TableOpen cVeneerDescTableClose cVeneerVeneerref07TableClose cVeneerref07Same cVeneerDescTableSet cVeneerVeneerref07TableSet cVeneerDescTableGet cVeneerVeneerref07TableGet cVeneerDescTableAll cVeneerVeneerref07TableAll cVeneerlaw07Ints cVeneerDescTableFull) σ H k = veneerlaw07DescDoesC6S cal φ N cVeneerlaw07Awake cDescNew cVeneerref07Own cVeneerDescTableOpen cVeneerVeneerref07TableOpen cVeneerDescTableClose cVeneerVeneerref07TableClose cVeneerref07Same cVeneerDescTableSet cVeneerVeneerref07TableSet cVeneerDescTableGet cVeneerVeneerref07TableGet cVeneerDescTableAll cVeneerVeneerref07TableAll cVeneerlaw07Ints cVeneerDescTableFull gN (lk σ 0) (lk σ 3) (lk σ 4) (lk σ 5) (lk σ 17) (lk σ 18) (lk σ 19) (lk σ 20) H := by
  have hk : k = (kN (fun σ H => gN (lk σ 0) (lk σ 3) (lk σ 4) (lk σ 5) H) (kR (resK [(.tmp 2)] []) k)) := (kN_mk hgN (kR_mk hR rfl))
  intro σ H
  rw [hk]
  show lxK cal φ N (.seq (.reg [
    ⟨(some 143), (.ldn 6 (.t 17)), none⟩,
    ⟨(some 144), (.ldn 6 (.t 19)), none⟩,
    ⟨(some 145), (.callF cVeneerref07Same [(.t 143), (.t 144)]), none⟩,
    ⟨(some 146), (.un .not (.t 145)), none⟩,
    ⟨(some 147), (.mv (.t 146)), none⟩,
    ⟨(some 148), (.mv (.t 18)), (some (147, false))⟩,
    ⟨(some 149), (.mv (.t 20)), (some (147, false))⟩,
    ⟨(some 150), (.bin .neq (.t 148) (.t 149)), (some (147, false))⟩,
    ⟨(some 151), (.pick (.t 147) (.k (.bool true)) (.t 150)), none⟩,
    ⟨(some 152), (.mv (.t 151)), none⟩,
    ⟨(some 153), (.mv (.t 3)), (some (152, false))⟩,
    ⟨(some 154), (.callF cVeneerDescTableAll [(.t 153)]), (some (152, false))⟩,
    ⟨(some 155), (.mv (.t 4)), (some (152, false))⟩,
    ⟨(some 156), (.callF cVeneerVeneerref07TableAll [(.t 155)]), (some (152, false))⟩,
    ⟨(some 157), (.callF cVeneerlaw07Ints [(.t 154), (.t 156)]), (some (152, false))⟩,
    ⟨(some 158), (.un .not (.t 157)), (some (152, false))⟩,
    ⟨(some 159), (.pick (.t 152) (.k (.bool true)) (.t 158)), none⟩,
    ⟨(some 160), (.mv (.t 159)), none⟩,
    ⟨(some 161), (.mv (.t 3)), (some (160, false))⟩,
    ⟨(some 162), (.callF cVeneerDescTableFull [(.t 161)]), (some (160, false))⟩,
    ⟨(some 163), (.mv (.t 4)), (some (160, false))⟩,
    ⟨(some 164), (.callF cVeneerVeneerref07TableAll [(.t 163)]), (some (160, false))⟩,
    ⟨(some 165), (.len .slice (.t 164)), (some (160, false))⟩,
    ⟨(some 166), (.bin .eql (.t 165) (.k (.int .i64 32))), (some (160, false))⟩,
    ⟨(some 167), (.eqv true .bool (.t 162) (.t 166)), (some (160, false))⟩,
    ⟨(some 168), (.pick (.t 160) (.k (.bool true)) (.t 167)), none⟩])
  (.cond (.t 168) (.seq (.reg [
    ⟨(some 2), (.mv (.k (.bool false))), none⟩])
  .ret)
  .skip)) σ H (seqK (lxK cal φ N (veneerlaw07DescDoesC5 cVeneerlaw07Awake cDescNew cVeneerref07Own cVeneerDescTableOpen cVeneerVeneerref07TableOpen cVeneerDescTableClose cVeneerVeneerref07TableClose cVeneerref07Same cVeneerDescTableSet cVeneerVeneerref07TableSet cVeneerDescTableGet cVeneerVeneerref07TableGet cVeneerDescTableAll cVeneerVeneerref07TableAll cVeneerlaw07Ints cVeneerDescTableFull)) (kN (fun σ H => gN (lk σ 0) (lk σ 3) (lk σ 4) (lk σ 5) H) (kR (resK [(.tmp 2)] []) k))) = _
  rw [seqK_mk (g := fun σ H => veneerlaw07DescDoesC5S cal φ N cVeneerlaw07Awake cDescNew cVeneerref07Own cVeneerDescTableOpen cVeneerVeneerref07TableOpen cVeneerDescTableClose cVeneerVeneerref07TableClose cVeneerref07Same cVeneerDescTableSet cVeneerVeneerref07TableSet cVeneerDescTableGet cVeneerVeneerref07TableGet cVeneerDescTableAll cVeneerVeneerref07TableAll cVeneerlaw07Ints cVeneerDescTableFull (fun v0 v3 v4 v5 H => gN v0 v3 v4 v5 H) (lk σ 0) (lk σ 3) (lk σ 4) (lk σ 5) (lk σ 17) H) (veneerlaw07DescDoesC5Eq cal φ N cVeneerlaw07Awake cDescNew cVeneerref07Own cVeneerDescTableOpen cVeneerVeneerref07TableOpen cVeneerDescTableClose cVeneerVeneerref07TableClose cVeneerref07Same cVeneerDescTableSet cVeneerVeneerref07TableSet cVeneerDescTableGet cVeneerVeneerref07TableGet cVeneerDescTableAll cVeneerVeneerref07TableAll cVeneerlaw07Ints cVeneerDescTableFull (k := (kN (fun σ H => gN (lk σ 0) (lk σ 3) (lk σ 4) (lk σ 5) H) (kR (resK [(.tmp 2)] []) k))) (fun v0 v3 v4 v5 H => gN v0 v3 v4 v5 H) (fun _ _ => rfl))]
  kernel_rfl
def veneerlaw07DescDoesC7S (cal : FuncId → Bool) (φ : Oracle) (N : Nat) (cVeneerlaw07Awake cDescNew cVeneerref07Own cVeneerDescTableOpen cVeneerVeneerref07TableOpen cVeneerDescTableClose cVeneerVeneerref07TableClose cVeneerref07Same cVeneerDescTableSet cVeneerVeneerref07TableSet cVeneerDescTableGet cVeneerVeneerref07TableGet cVeneerDescTableAll cVeneerVeneerref07TableAll cVeneerlaw07Ints cVeneerDescTableFull : FuncId) (gN : IV → IV → IV → IV → Heap → Option (IV × Heap)) (v0 v3 v4 v5 v6 v17 v18 : IV) (H : Heap) : Option (IV × Heap) :=
    ob (loff v6 1) fun t1 =>
    ob (lload1 H t1) fun t2 =>
    ob (φ cVeneerVeneerref07TableGet [v4, t2] H) fun r3 =>
    ob (iextract r3.1 0) fun t4 =>
    ob (iextract r3.1 1) fun t5 =>
    ob (lzbox r3.2 (.agg [(.int .i64 0), (.int .i64 0), (.int .i64 0), (.bool false), .nilSlice, (.int .i64 0)])) fun r6 =>
    ob (lstV r6.2 6 r6.1 t4) fun r7 =>
    veneerlaw07DescDoesC6S cal φ N cVeneerlaw07Awake cDescNew cVeneerref07Own cVeneerDescTableOpen cVeneerVeneerref07TableOpen cVeneerDescTableClose cVeneerVeneerref07TableClose cVeneerref07Same cVeneerDescTableSet cVeneerVeneerref07TableSet cVeneerDescTableGet cVeneerVeneerref07TableGet cVeneerDescTableAll cVeneerVeneerref07TableAll cVeneerlaw07Ints cVeneerDescTableFull (fun v0 v3 v4 v5 H => gN v0 v3 v4 v5 H) v0 v3 v4 v5 v17 v18 r6.1 t5 r7.2
theorem veneerlaw07DescDoesC7Eq (cal : FuncId → Bool) (φ : Oracle) (N : Nat) (cVeneerlaw07Awake cDescNew cVeneerref07Own cVeneerDescTableOpen cVeneerVeneerref07TableOpen cVeneerDescTableClose cVeneerVeneerref07TableClose cVeneerref07Same cVeneerDescTableSet cVeneerVeneerref07TableSet cVeneerDescTableGet cVeneerVeneerref07TableGet cVeneerDescTableAll cVeneerVeneerref07TableAll cVeneerlaw07Ints cVeneerDescTableFull : FuncId) {k : KT (IV × Heap)} (gN : IV → IV → IV → IV → Heap → Option (IV × Heap)) (hgN : ∀ σ H, k .normal σ H = gN (lk σ 0) (lk σ 3) (lk σ 4) (lk σ 5) H) (hR : ∀ σ H, k .ret σ H = resK [(.tmp 2)] [] σ H) : ∀ (σ : Sg) (H : Heap), lxK cal φ N (veneerlaw07DescDoesC7 cVeneerlaw07Awake cDescNew cVeneerref07Own cVeneerDescTableOpen cVeneerVeneerref07TableOpen cVeneerDescTableClose cVeneerVeneerref07TableClose cVeneerref07Same cVeneerDescTableSet cVeneerVeneerref07TableSet cVeneerDescTableGet cVeneerVeneerref07TableGet cVeneerDescTableAll cVeneerVeneerref07TableAll cVeneerlaw07Ints cVeneerDescTableFull) σ H k = veneerlaw07DescDoesC7S cal φ N cVeneerlaw07Awake cDescNew cVeneerref07Own cVeneerDescTableOpen cVeneerVeneerref07TableOpen cVeneerDescTableClose cVeneerVeneerref07TableClose cVeneerref07Same cVeneerDescTableSet cVeneerVeneerref07TableSet cVeneerDescTableGet cVeneerVeneerref07TableGet cVeneerDescTableAll cVeneerVeneerref07TableAll cVeneerlaw07Ints cVeneerDescTableFull gN (lk σ 0) (lk σ 3) (lk σ 4) (lk σ 5) (lk σ 6) (lk σ 17) (lk σ 18) H := by
  have hk : k = (kN (fun σ H => gN (lk σ 0) (lk σ 3) (lk σ 4) (lk σ 5) H) (kR (resK [(.tmp 2)] []) k)) := (kN_mk hgN (kR_mk hR rfl))
  intro σ H
  rw [hk]
  show lxK cal φ N (.reg [
    ⟨(some 137), (.mv (.t 4)), none⟩,
    ⟨(some 138), (.off (.t 6) 1), none⟩,
    ⟨(some 139), (.ld1 (.t 138)), none⟩,
    ⟨(some 140), (.callF cVeneerVeneerref07TableGet [(.t 137), (.t 139)]), none⟩,
    ⟨(some 136), (.mv (.t 140)), none⟩,
    ⟨(some 141), (.ext (.t 136) 0), none⟩,
    ⟨(some 142), (.ext (.t 136) 1), none⟩,
    ⟨(some 19), (.zbox (.agg [(.int .i64 0), (.int .i64 0), (.int .i64 0), (.bool false), .nilSlice, (.int .i64 0)])), none⟩,
    ⟨none, (.st 6 (.t 19) (.t 141)), none⟩,
    ⟨(some 20), (.mv (.t 142)), none⟩]) σ H (seqK (lxK cal φ N (veneerlaw07DescDoesC6 cVeneerlaw07Awake cDescNew cVeneerref07Own cVeneerDescTableOpen cVeneerVeneerref07TableOpen cVeneerDescTableClose cVeneerVeneerref07TableClose cVeneerref07Same cVeneerDescTableSet cVeneerVeneerref07TableSet cVeneerDescTableGet cVeneerVeneerref07TableGet cVeneerDescTableAll cVeneerVeneerref07TableAll cVeneerlaw07Ints cVeneerDescTableFull)) (kN (fun σ H => gN (lk σ 0) (lk σ 3) (lk σ 4) (lk σ 5) H) (kR (resK [(.tmp 2)] []) k))) = _
  rw [seqK_mk (g := fun σ H => veneerlaw07DescDoesC6S cal φ N cVeneerlaw07Awake cDescNew cVeneerref07Own cVeneerDescTableOpen cVeneerVeneerref07TableOpen cVeneerDescTableClose cVeneerVeneerref07TableClose cVeneerref07Same cVeneerDescTableSet cVeneerVeneerref07TableSet cVeneerDescTableGet cVeneerVeneerref07TableGet cVeneerDescTableAll cVeneerVeneerref07TableAll cVeneerlaw07Ints cVeneerDescTableFull (fun v0 v3 v4 v5 H => gN v0 v3 v4 v5 H) (lk σ 0) (lk σ 3) (lk σ 4) (lk σ 5) (lk σ 17) (lk σ 18) (lk σ 19) (lk σ 20) H) (veneerlaw07DescDoesC6Eq cal φ N cVeneerlaw07Awake cDescNew cVeneerref07Own cVeneerDescTableOpen cVeneerVeneerref07TableOpen cVeneerDescTableClose cVeneerVeneerref07TableClose cVeneerref07Same cVeneerDescTableSet cVeneerVeneerref07TableSet cVeneerDescTableGet cVeneerVeneerref07TableGet cVeneerDescTableAll cVeneerVeneerref07TableAll cVeneerlaw07Ints cVeneerDescTableFull (k := (kN (fun σ H => gN (lk σ 0) (lk σ 3) (lk σ 4) (lk σ 5) H) (kR (resK [(.tmp 2)] []) k))) (fun v0 v3 v4 v5 H => gN v0 v3 v4 v5 H) (fun _ _ => rfl) (fun _ _ => rfl))]
  kernel_rfl
def veneerlaw07DescDoesC8S (cal : FuncId → Bool) (φ : Oracle) (N : Nat) (cVeneerlaw07Awake cDescNew cVeneerref07Own cVeneerDescTableOpen cVeneerVeneerref07TableOpen cVeneerDescTableClose cVeneerVeneerref07TableClose cVeneerref07Same cVeneerDescTableSet cVeneerVeneerref07TableSet cVeneerDescTableGet cVeneerVeneerref07TableGet cVeneerDescTableAll cVeneerVeneerref07TableAll cVeneerlaw07Ints cVeneerDescTableFull : FuncId) (gN : IV → IV → IV → IV → Heap → Option (IV × Heap)) (v0 v3 v4 v5 v6 : IV) (H : Heap) : Option (IV × Heap) :=
    ob (loff v6 1) fun t1 =>
    ob (lload1 H t1) fun t2 =>
    ob (φ cVeneerDescTableGet [v3, t2] H) fun r3 =>
    ob (iextract r3.1 0) fun t4 =>
    ob (iextract r3.1 1) fun t5 =>
    ob (lzbox r3.2 (.agg [(.int .i64 0), (.int .i64 0), (.int .i64 0), (.bool false), .nilSlice, (.int .i64 0)])) fun r6 =>
    ob (lstV r6.2 6 r6.1 t4) fun r7 =>
    veneerlaw07DescDoesC7S cal φ N cVeneerlaw07Awake cDescNew cVeneerref07Own cVeneerDescTableOpen cVeneerVeneerref07TableOpen cVeneerDescTableClose cVeneerVeneerref07TableClose cVeneerref07Same cVeneerDescTableSet cVeneerVeneerref07TableSet cVeneerDescTableGet cVeneerVeneerref07TableGet cVeneerDescTableAll cVeneerVeneerref07TableAll cVeneerlaw07Ints cVeneerDescTableFull (fun v0 v3 v4 v5 H => gN v0 v3 v4 v5 H) v0 v3 v4 v5 v6 r6.1 t5 r7.2
theorem veneerlaw07DescDoesC8Eq (cal : FuncId → Bool) (φ : Oracle) (N : Nat) (cVeneerlaw07Awake cDescNew cVeneerref07Own cVeneerDescTableOpen cVeneerVeneerref07TableOpen cVeneerDescTableClose cVeneerVeneerref07TableClose cVeneerref07Same cVeneerDescTableSet cVeneerVeneerref07TableSet cVeneerDescTableGet cVeneerVeneerref07TableGet cVeneerDescTableAll cVeneerVeneerref07TableAll cVeneerlaw07Ints cVeneerDescTableFull : FuncId) {k : KT (IV × Heap)} (gN : IV → IV → IV → IV → Heap → Option (IV × Heap)) (hgN : ∀ σ H, k .normal σ H = gN (lk σ 0) (lk σ 3) (lk σ 4) (lk σ 5) H) (hR : ∀ σ H, k .ret σ H = resK [(.tmp 2)] [] σ H) : ∀ (σ : Sg) (H : Heap), lxK cal φ N (veneerlaw07DescDoesC8 cVeneerlaw07Awake cDescNew cVeneerref07Own cVeneerDescTableOpen cVeneerVeneerref07TableOpen cVeneerDescTableClose cVeneerVeneerref07TableClose cVeneerref07Same cVeneerDescTableSet cVeneerVeneerref07TableSet cVeneerDescTableGet cVeneerVeneerref07TableGet cVeneerDescTableAll cVeneerVeneerref07TableAll cVeneerlaw07Ints cVeneerDescTableFull) σ H k = veneerlaw07DescDoesC8S cal φ N cVeneerlaw07Awake cDescNew cVeneerref07Own cVeneerDescTableOpen cVeneerVeneerref07TableOpen cVeneerDescTableClose cVeneerVeneerref07TableClose cVeneerref07Same cVeneerDescTableSet cVeneerVeneerref07TableSet cVeneerDescTableGet cVeneerVeneerref07TableGet cVeneerDescTableAll cVeneerVeneerref07TableAll cVeneerlaw07Ints cVeneerDescTableFull gN (lk σ 0) (lk σ 3) (lk σ 4) (lk σ 5) (lk σ 6) H := by
  have hk : k = (kN (fun σ H => gN (lk σ 0) (lk σ 3) (lk σ 4) (lk σ 5) H) (kR (resK [(.tmp 2)] []) k)) := (kN_mk hgN (kR_mk hR rfl))
  intro σ H
  rw [hk]
  show lxK cal φ N (.reg [
    ⟨(some 130), (.mv (.t 3)), none⟩,
    ⟨(some 131), (.off (.t 6) 1), none⟩,
    ⟨(some 132), (.ld1 (.t 131)), none⟩,
    ⟨(some 133), (.callF cVeneerDescTableGet [(.t 130), (.t 132)]), none⟩,
    ⟨(some 129), (.mv (.t 133)), none⟩,
    ⟨(some 134), (.ext (.t 129) 0), none⟩,
    ⟨(some 135), (.ext (.t 129) 1), none⟩,
    ⟨(some 17), (.zbox (.agg [(.int .i64 0), (.int .i64 0), (.int .i64 0), (.bool false), .nilSlice, (.int .i64 0)])), none⟩,
    ⟨none, (.st 6 (.t 17) (.t 134)), none⟩,
    ⟨(some 18), (.mv (.t 135)), none⟩]) σ H (seqK (lxK cal φ N (veneerlaw07DescDoesC7 cVeneerlaw07Awake cDescNew cVeneerref07Own cVeneerDescTableOpen cVeneerVeneerref07TableOpen cVeneerDescTableClose cVeneerVeneerref07TableClose cVeneerref07Same cVeneerDescTableSet cVeneerVeneerref07TableSet cVeneerDescTableGet cVeneerVeneerref07TableGet cVeneerDescTableAll cVeneerVeneerref07TableAll cVeneerlaw07Ints cVeneerDescTableFull)) (kN (fun σ H => gN (lk σ 0) (lk σ 3) (lk σ 4) (lk σ 5) H) (kR (resK [(.tmp 2)] []) k))) = _
  rw [seqK_mk (g := fun σ H => veneerlaw07DescDoesC7S cal φ N cVeneerlaw07Awake cDescNew cVeneerref07Own cVeneerDescTableOpen cVeneerVeneerref07TableOpen cVeneerDescTableClose cVeneerVeneerref07TableClose cVeneerref07Same cVeneerDescTableSet cVeneerVeneerref07TableSet cVeneerDescTableGet cVeneerVeneerref07TableGet cVeneerDescTableAll cVeneerVeneerref07TableAll cVeneerlaw07Ints cVeneerDescTableFull (fun v0 v3 v4 v5 H => gN v0 v3 v4 v5 H) (lk σ 0) (lk σ 3) (lk σ 4) (lk σ 5) (lk σ 6) (lk σ 17) (lk σ 18) H) (veneerlaw07DescDoesC7Eq cal φ N cVeneerlaw07Awake cDescNew cVeneerref07Own cVeneerDescTableOpen cVeneerVeneerref07TableOpen cVeneerDescTableClose cVeneerVeneerref07TableClose cVeneerref07Same cVeneerDescTableSet cVeneerVeneerref07TableSet cVeneerDescTableGet cVeneerVeneerref07TableGet cVeneerDescTableAll cVeneerVeneerref07TableAll cVeneerlaw07Ints cVeneerDescTableFull (k := (kN (fun σ H => gN (lk σ 0) (lk σ 3) (lk σ 4) (lk σ 5) H) (kR (resK [(.tmp 2)] []) k))) (fun v0 v3 v4 v5 H => gN v0 v3 v4 v5 H) (fun _ _ => rfl) (fun _ _ => rfl))]
  kernel_rfl
def veneerlaw07DescDoesC0S (cal : FuncId → Bool) (φ : Oracle) (N : Nat) (cVeneerlaw07Awake cDescNew cVeneerref07Own cVeneerDescTableOpen cVeneerVeneerref07TableOpen cVeneerDescTableClose cVeneerVeneerref07TableClose cVeneerref07Same cVeneerDescTableSet cVeneerVeneerref07TableSet cVeneerDescTableGet cVeneerVeneerref07TableGet cVeneerDescTableAll cVeneerVeneerref07TableAll cVeneerlaw07Ints cVeneerDescTableFull : FuncId) (gE3 : IV → IV → IV → IV → IV → Heap → Option (IV × Heap)) : Nat → IV → IV → IV → IV → IV → IV → IV → IV → Heap → Option (IV × Heap)
  | 0, _, _, _, _, _, _, _, _, _ => none
  | n + 1, v0, v3, v4, v5, v6, v7, v120, v121, H =>
    ob (lbin .lss v121 v120) fun t1 =>
    cnd t1
    (ob (loff v7 4) fun t2 =>
    ob (lload1 H t2) fun t3 =>
    ob (lix 1 t3 v121) fun t4 =>
    ob (lstV H 1 t4 (.str [120])) fun r5 =>
    ob (lbin .add v121 (.int .i64 1)) fun t6 =>
    veneerlaw07DescDoesC0S cal φ N cVeneerlaw07Awake cDescNew cVeneerref07Own cVeneerDescTableOpen cVeneerVeneerref07TableOpen cVeneerDescTableClose cVeneerVeneerref07TableClose cVeneerref07Same cVeneerDescTableSet cVeneerVeneerref07TableSet cVeneerDescTableGet cVeneerVeneerref07TableGet cVeneerDescTableAll cVeneerVeneerref07TableAll cVeneerlaw07Ints cVeneerDescTableFull gE3 n v0 v3 v4 v5 v6 v7 v120 t6 r5.2)
    (gE3 v0 v3 v4 v5 v6 H)
theorem veneerlaw07DescDoesC0Eq (cal : FuncId → Bool) (φ : Oracle) (N : Nat) (cVeneerlaw07Awake cDescNew cVeneerref07Own cVeneerDescTableOpen cVeneerVeneerref07TableOpen cVeneerDescTableClose cVeneerVeneerref07TableClose cVeneerref07Same cVeneerDescTableSet cVeneerVeneerref07TableSet cVeneerDescTableGet cVeneerVeneerref07TableGet cVeneerDescTableAll cVeneerVeneerref07TableAll cVeneerlaw07Ints cVeneerDescTableFull : FuncId) {k : KT (IV × Heap)} (gE3 : IV → IV → IV → IV → IV → Heap → Option (IV × Heap)) (hgE3 : ∀ σ H, k (.exit 3) σ H = gE3 (lk σ 0) (lk σ 3) (lk σ 4) (lk σ 5) (lk σ 6) H) : ∀ (n : Nat) (σ : Sg) (H : Heap), itK (lxK cal φ N (.seq (.reg [
    ⟨(some 122), (.bin .lss (.t 121) (.t 120)), none⟩])
  (.seq (.cond (.t 122) .skip
  (.exit 3))
  (.seq (.block 4 (.seq (.reg [
    ⟨(some 123), (.mv (.t 121)), none⟩,
    ⟨(some 16), (.mv (.t 123)), none⟩])
  (.reg [
    ⟨(some 124), (.off (.t 7) 4), none⟩,
    ⟨(some 125), (.ld1 (.t 124)), none⟩,
    ⟨(some 126), (.mv (.t 16)), none⟩,
    ⟨(some 127), (.ix 1 (.t 125) (.t 126)), none⟩,
    ⟨none, (.st 1 (.t 127) (.k (.str [120]))), none⟩])))
  (.reg [
    ⟨(some 128), (.bin .add (.t 121) (.k (.int .i64 1))), none⟩,
    ⟨(some 121), (.mv (.t 128)), none⟩]))))) n σ H k = veneerlaw07DescDoesC0S cal φ N cVeneerlaw07Awake cDescNew cVeneerref07Own cVeneerDescTableOpen cVeneerVeneerref07TableOpen cVeneerDescTableClose cVeneerVeneerref07TableClose cVeneerref07Same cVeneerDescTableSet cVeneerVeneerref07TableSet cVeneerDescTableGet cVeneerVeneerref07TableGet cVeneerDescTableAll cVeneerVeneerref07TableAll cVeneerlaw07Ints cVeneerDescTableFull gE3 n (lk σ 0) (lk σ 3) (lk σ 4) (lk σ 5) (lk σ 6) (lk σ 7) (lk σ 120) (lk σ 121) H := by
  have hk : k = (kE 3 (fun σ H => gE3 (lk σ 0) (lk σ 3) (lk σ 4) (lk σ 5) (lk σ 6) H) k) := (kE_mk hgE3 rfl)
  intro n
  induction n with
  | zero => intro σ H; rfl
  | succ n ih =>
    intro σ H
    rw [itK_succ, seqK_mk (g := fun σ H => veneerlaw07DescDoesC0S cal φ N cVeneerlaw07Awake cDescNew cVeneerref07Own cVeneerDescTableOpen cVeneerVeneerref07TableOpen cVeneerDescTableClose cVeneerVeneerref07TableClose cVeneerref07Same cVeneerDescTableSet cVeneerVeneerref07TableSet cVeneerDescTableGet cVeneerVeneerref07TableGet cVeneerDescTableAll cVeneerVeneerref07TableAll cVeneerlaw07Ints cVeneerDescTableFull gE3 n (lk σ 0) (lk σ 3) (lk σ 4) (lk σ 5) (lk σ 6) (lk σ 7) (lk σ 120) (lk σ 121) H) ih, hk]
    kernel_rfl
def veneerlaw07DescDoesC1S (cal : FuncId → Bool) (φ : Oracle) (N : Nat) (cVeneerlaw07Awake cDescNew cVeneerref07Own cVeneerDescTableOpen cVeneerVeneerref07TableOpen cVeneerDescTableClose cVeneerVeneerref07TableClose cVeneerref07Same cVeneerDescTableSet cVeneerVeneerref07TableSet cVeneerDescTableGet cVeneerVeneerref07TableGet cVeneerDescTableAll cVeneerVeneerref07TableAll cVeneerlaw07Ints cVeneerDescTableFull : FuncId) (gN : IV → IV → IV → IV → IV → Heap → Option (IV × Heap)) (v0 v3 v4 v5 v6 v7 v120 v121 : IV) (H : Heap) : Option (IV × Heap) :=
    veneerlaw07DescDoesC0S cal φ N cVeneerlaw07Awake cDescNew cVeneerref07Own cVeneerDescTableOpen cVeneerVeneerref07TableOpen cVeneerDescTableClose cVeneerVeneerref07TableClose cVeneerref07Same cVeneerDescTableSet cVeneerVeneerref07TableSet cVeneerDescTableGet cVeneerVeneerref07TableGet cVeneerDescTableAll cVeneerVeneerref07TableAll cVeneerlaw07Ints cVeneerDescTableFull (fun v0 v3 v4 v5 v6 H => gN v0 v3 v4 v5 v6 H) N v0 v3 v4 v5 v6 v7 v120 v121 H
theorem veneerlaw07DescDoesC1Eq (cal : FuncId → Bool) (φ : Oracle) (N : Nat) (cVeneerlaw07Awake cDescNew cVeneerref07Own cVeneerDescTableOpen cVeneerVeneerref07TableOpen cVeneerDescTableClose cVeneerVeneerref07TableClose cVeneerref07Same cVeneerDescTableSet cVeneerVeneerref07TableSet cVeneerDescTableGet cVeneerVeneerref07TableGet cVeneerDescTableAll cVeneerVeneerref07TableAll cVeneerlaw07Ints cVeneerDescTableFull : FuncId) {k : KT (IV × Heap)} (gN : IV → IV → IV → IV → IV → Heap → Option (IV × Heap)) (hgN : ∀ σ H, k .normal σ H = gN (lk σ 0) (lk σ 3) (lk σ 4) (lk σ 5) (lk σ 6) H) : ∀ (σ : Sg) (H : Heap), lxK cal φ N (veneerlaw07DescDoesC1 cVeneerlaw07Awake cDescNew cVeneerref07Own cVeneerDescTableOpen cVeneerVeneerref07TableOpen cVeneerDescTableClose cVeneerVeneerref07TableClose cVeneerref07Same cVeneerDescTableSet cVeneerVeneerref07TableSet cVeneerDescTableGet cVeneerVeneerref07TableGet cVeneerDescTableAll cVeneerVeneerref07TableAll cVeneerlaw07Ints cVeneerDescTableFull) σ H k = veneerlaw07DescDoesC1S cal φ N cVeneerlaw07Awake cDescNew cVeneerref07Own cVeneerDescTableOpen cVeneerVeneerref07TableOpen cVeneerDescTableClose cVeneerVeneerref07TableClose cVeneerref07Same cVeneerDescTableSet cVeneerVeneerref07TableSet cVeneerDescTableGet cVeneerVeneerref07TableGet cVeneerDescTableAll cVeneerVeneerref07TableAll cVeneerlaw07Ints cVeneerDescTableFull gN (lk σ 0) (lk σ 3) (lk σ 4) (lk σ 5) (lk σ 6) (lk σ 7) (lk σ 120) (lk σ 121) H := by
  have hk : k = (kN (fun σ H => gN (lk σ 0) (lk σ 3) (lk σ 4) (lk σ 5) (lk σ 6) H) k) := (kN_mk hgN rfl)
  intro σ H
  rw [hk]
  show lxK cal φ N (veneerlaw07DescDoesC0 cVeneerlaw07Awake cDescNew cVeneerref07Own cVeneerDescTableOpen cVeneerVeneerref07TableOpen cVeneerDescTableClose cVeneerVeneerref07TableClose cVeneerref07Same cVeneerDescTableSet cVeneerVeneerref07TableSet cVeneerDescTableGet cVeneerVeneerref07TableGet cVeneerDescTableAll cVeneerVeneerref07TableAll cVeneerlaw07Ints cVeneerDescTableFull) σ H (blockK 3 (kN (fun σ H => gN (lk σ 0) (lk σ 3) (lk σ 4) (lk σ 5) (lk σ 6) H) k)) = _
  exact veneerlaw07DescDoesC0Eq cal φ N cVeneerlaw07Awake cDescNew cVeneerref07Own cVeneerDescTableOpen cVeneerVeneerref07TableOpen cVeneerDescTableClose cVeneerVeneerref07TableClose cVeneerref07Same cVeneerDescTableSet cVeneerVeneerref07TableSet cVeneerDescTableGet cVeneerVeneerref07TableGet cVeneerDescTableAll cVeneerVeneerref07TableAll cVeneerlaw07Ints cVeneerDescTableFull (k := (blockK 3 (kN (fun σ H => gN (lk σ 0) (lk σ 3) (lk σ 4) (lk σ 5) (lk σ 6) H) k))) (fun v0 v3 v4 v5 v6 H => gN v0 v3 v4 v5 v6 H) (fun _ _ => rfl) N σ H
def veneerlaw07DescDoesC2S (cal : FuncId → Bool) (φ : Oracle) (N : Nat) (cVeneerlaw07Awake cDescNew cVeneerref07Own cVeneerDescTableOpen cVeneerVeneerref07TableOpen cVeneerDescTableClose cVeneerVeneerref07TableClose cVeneerref07Same cVeneerDescTableSet cVeneerVeneerref07TableSet cVeneerDescTableGet cVeneerVeneerref07TableGet cVeneerDescTableAll cVeneerVeneerref07TableAll cVeneerlaw07Ints cVeneerDescTableFull : FuncId) (gN : IV → IV → IV → IV → IV → Heap → Option (IV × Heap)) (v0 v3 v4 v5 v6 v7 : IV) (H : Heap) : Option (IV × Heap) :=
    ob (loff v7 4) fun t1 =>
    ob (lload1 H t1) fun t2 =>
    ob (llen H .slice t2) fun t3 =>
    veneerlaw07DescDoesC1S cal φ N cVeneerlaw07Awake cDescNew cVeneerref07Own cVeneerDescTableOpen cVeneerVeneerref07TableOpen cVeneerDescTableClose cVeneerVeneerref07TableClose cVeneerref07Same cVeneerDescTableSet cVeneerVeneerref07TableSet cVeneerDescTableGet cVeneerVeneerref07TableGet cVeneerDescTableAll cVeneerVeneerref07TableAll cVeneerlaw07Ints cVeneerDescTableFull (fun v0 v3 v4 v5 v6 H => gN v0 v3 v4 v5 v6 H) v0 v3 v4 v5 v6 v7 t3 (.int .i64 0) H
theorem veneerlaw07DescDoesC2Eq (cal : FuncId → Bool) (φ : Oracle) (N : Nat) (cVeneerlaw07Awake cDescNew cVeneerref07Own cVeneerDescTableOpen cVeneerVeneerref07TableOpen cVeneerDescTableClose cVeneerVeneerref07TableClose cVeneerref07Same cVeneerDescTableSet cVeneerVeneerref07TableSet cVeneerDescTableGet cVeneerVeneerref07TableGet cVeneerDescTableAll cVeneerVeneerref07TableAll cVeneerlaw07Ints cVeneerDescTableFull : FuncId) {k : KT (IV × Heap)} (gN : IV → IV → IV → IV → IV → Heap → Option (IV × Heap)) (hgN : ∀ σ H, k .normal σ H = gN (lk σ 0) (lk σ 3) (lk σ 4) (lk σ 5) (lk σ 6) H) : ∀ (σ : Sg) (H : Heap), lxK cal φ N (veneerlaw07DescDoesC2 cVeneerlaw07Awake cDescNew cVeneerref07Own cVeneerDescTableOpen cVeneerVeneerref07TableOpen cVeneerDescTableClose cVeneerVeneerref07TableClose cVeneerref07Same cVeneerDescTableSet cVeneerVeneerref07TableSet cVeneerDescTableGet cVeneerVeneerref07TableGet cVeneerDescTableAll cVeneerVeneerref07TableAll cVeneerlaw07Ints cVeneerDescTableFull) σ H k = veneerlaw07DescDoesC2S cal φ N cVeneerlaw07Awake cDescNew cVeneerref07Own cVeneerDescTableOpen cVeneerVeneerref07TableOpen cVeneerDescTableClose cVeneerVeneerref07TableClose cVeneerref07Same cVeneerDescTableSet cVeneerVeneerref07TableSet cVeneerDescTableGet cVeneerVeneerref07TableGet cVeneerDescTableAll cVeneerVeneerref07TableAll cVeneerlaw07Ints cVeneerDescTableFull gN (lk σ 0) (lk σ 3) (lk σ 4) (lk σ 5) (lk σ 6) (lk σ 7) H := by
  have hk : k = (kN (fun σ H => gN (lk σ 0) (lk σ 3) (lk σ 4) (lk σ 5) (lk σ 6) H) k) := (kN_mk hgN rfl)
  intro σ H
  rw [hk]
  show lxK cal φ N (.reg [
    ⟨(some 118), (.off (.t 7) 4), none⟩,
    ⟨(some 119), (.ld1 (.t 118)), none⟩,
    ⟨(some 120), (.len .slice (.t 119)), none⟩,
    ⟨(some 121), (.mv (.k (.int .i64 0))), none⟩]) σ H (seqK (lxK cal φ N (veneerlaw07DescDoesC1 cVeneerlaw07Awake cDescNew cVeneerref07Own cVeneerDescTableOpen cVeneerVeneerref07TableOpen cVeneerDescTableClose cVeneerVeneerref07TableClose cVeneerref07Same cVeneerDescTableSet cVeneerVeneerref07TableSet cVeneerDescTableGet cVeneerVeneerref07TableGet cVeneerDescTableAll cVeneerVeneerref07TableAll cVeneerlaw07Ints cVeneerDescTableFull)) (kN (fun σ H => gN (lk σ 0) (lk σ 3) (lk σ 4) (lk σ 5) (lk σ 6) H) k)) = _
  rw [seqK_mk (g := fun σ H => veneerlaw07DescDoesC1S cal φ N cVeneerlaw07Awake cDescNew cVeneerref07Own cVeneerDescTableOpen cVeneerVeneerref07TableOpen cVeneerDescTableClose cVeneerVeneerref07TableClose cVeneerref07Same cVeneerDescTableSet cVeneerVeneerref07TableSet cVeneerDescTableGet cVeneerVeneerref07TableGet cVeneerDescTableAll cVeneerVeneerref07TableAll cVeneerlaw07Ints cVeneerDescTableFull (fun v0 v3 v4 v5 v6 H => gN v0 v3 v4 v5 v6 H) (lk σ 0) (lk σ 3) (lk σ 4) (lk σ 5) (lk σ 6) (lk σ 7) (lk σ 120) (lk σ 121) H) (veneerlaw07DescDoesC1Eq cal φ N cVeneerlaw07Awake cDescNew cVeneerref07Own cVeneerDescTableOpen cVeneerVeneerref07TableOpen cVeneerDescTableClose cVeneerVeneerref07TableClose cVeneerref07Same cVeneerDescTableSet cVeneerVeneerref07TableSet cVeneerDescTableGet cVeneerVeneerref07TableGet cVeneerDescTableAll cVeneerVeneerref07TableAll cVeneerlaw07Ints cVeneerDescTableFull (k := (kN (fun σ H => gN (lk σ 0) (lk σ 3) (lk σ 4) (lk σ 5) (lk σ 6) H) k)) (fun v0 v3 v4 v5 v6 H => gN v0 v3 v4 v5 v6 H) (fun _ _ => rfl))]
  kernel_rfl
def veneerlaw07DescDoesC9S (cal : FuncId → Bool) (φ : Oracle) (N : Nat) (cVeneerlaw07Awake cDescNew cVeneerref07Own cVeneerDescTableOpen cVeneerVeneerref07TableOpen cVeneerDescTableClose cVeneerVeneerref07TableClose cVeneerref07Same cVeneerDescTableSet cVeneerVeneerref07TableSet cVeneerDescTableGet cVeneerVeneerref07TableGet cVeneerDescTableAll cVeneerVeneerref07TableAll cVeneerlaw07Ints cVeneerDescTableFull : FuncId) (gN : IV → IV → IV → IV → Heap → Option (IV × Heap)) (v0 v3 v4 v5 v6 v7 : IV) (H : Heap) : Option (IV × Heap) :=
    veneerlaw07DescDoesC2S cal φ N cVeneerlaw07Awake cDescNew cVeneerref07Own cVeneerDescTableOpen cVeneerVeneerref07TableOpen cVeneerDescTableClose cVeneerVeneerref07TableClose cVeneerref07Same cVeneerDescTableSet cVeneerVeneerref07TableSet cVeneerDescTableGet cVeneerVeneerref07TableGet cVeneerDescTableAll cVeneerVeneerref07TableAll cVeneerlaw07Ints cVeneerDescTableFull (fun v0 v3 v4 v5 v6 H => veneerlaw07DescDoesC8S cal φ N cVeneerlaw07Awake cDescNew cVeneerref07Own cVeneerDescTableOpen cVeneerVeneerref07TableOpen cVeneerDescTableClose cVeneerVeneerref07TableClose cVeneerref07Same cVeneerDescTableSet cVeneerVeneerref07TableSet cVeneerDescTableGet cVeneerVeneerref07TableGet cVeneerDescTableAll cVeneerVeneerref07TableAll cVeneerlaw07Ints cVeneerDescTableFull (fun v0 v3 v4 v5 H => gN v0 v3 v4 v5 H) v0 v3 v4 v5 v6 H) v0 v3 v4 v5 v6 v7 H
theorem veneerlaw07DescDoesC9Eq (cal : FuncId → Bool) (φ : Oracle) (N : Nat) (cVeneerlaw07Awake cDescNew cVeneerref07Own cVeneerDescTableOpen cVeneerVeneerref07TableOpen cVeneerDescTableClose cVeneerVeneerref07TableClose cVeneerref07Same cVeneerDescTableSet cVeneerVeneerref07TableSet cVeneerDescTableGet cVeneerVeneerref07TableGet cVeneerDescTableAll cVeneerVeneerref07TableAll cVeneerlaw07Ints cVeneerDescTableFull : FuncId) {k : KT (IV × Heap)} (gN : IV → IV → IV → IV → Heap → Option (IV × Heap)) (hgN : ∀ σ H, k .normal σ H = gN (lk σ 0) (lk σ 3) (lk σ 4) (lk σ 5) H) (hR : ∀ σ H, k .ret σ H = resK [(.tmp 2)] [] σ H) : ∀ (σ : Sg) (H : Heap), lxK cal φ N (veneerlaw07DescDoesC9 cVeneerlaw07Awake cDescNew cVeneerref07Own cVeneerDescTableOpen cVeneerVeneerref07TableOpen cVeneerDescTableClose cVeneerVeneerref07TableClose cVeneerref07Same cVeneerDescTableSet cVeneerVeneerref07TableSet cVeneerDescTableGet cVeneerVeneerref07TableGet cVeneerDescTableAll cVeneerVeneerref07TableAll cVeneerlaw07Ints cVeneerDescTableFull) σ H k = veneerlaw07DescDoesC9S cal φ N cVeneerlaw07Awake cDescNew cVeneerref07Own cVeneerDescTableOpen cVeneerVeneerref07TableOpen cVeneerDescTableClose cVeneerVeneerref07TableClose cVeneerref07Same cVeneerDescTableSet cVeneerVeneerref07TableSet cVeneerDescTableGet cVeneerVeneerref07TableGet cVeneerDescTableAll cVeneerVeneerref07TableAll cVeneerlaw07Ints cVeneerDescTableFull gN (lk σ 0) (lk σ 3) (lk σ 4) (lk σ 5) (lk σ 6) (lk σ 7) H := by
  have hk : k = (kN (fun σ H => gN (lk σ 0) (lk σ 3) (lk σ 4) (lk σ 5) H) (kR (resK [(.tmp 2)] []) k)) := (kN_mk hgN (kR_mk hR rfl))
  intro σ H
  rw [hk]
  show lxK cal φ N (veneerlaw07DescDoesC2 cVeneerlaw07Awake cDescNew cVeneerref07Own cVeneerDescTableOpen cVeneerVeneerref07TableOpen cVeneerDescTableClose cVeneerVeneerref07TableClose cVeneerref07Same cVeneerDescTableSet cVeneerVeneerref07TableSet cVeneerDescTableGet cVeneerVeneerref07TableGet cVeneerDescTableAll cVeneerVeneerref07TableAll cVeneerlaw07Ints cVeneerDescTableFull) σ H (seqK (lxK cal φ N (veneerlaw07DescDoesC8 cVeneerlaw07Awake cDescNew cVeneerref07Own cVeneerDescTableOpen cVeneerVeneerref07TableOpen cVeneerDescTableClose cVeneerVeneerref07TableClose cVeneerref07Same cVeneerDescTableSet cVeneerVeneerref07TableSet cVeneerDescTableGet cVeneerVeneerref07TableGet cVeneerDescTableAll cVeneerVeneerref07TableAll cVeneerlaw07Ints cVeneerDescTableFull)) (kN (fun σ H => gN (lk σ 0) (lk σ 3) (lk σ 4) (lk σ 5) H) (kR (resK [(.tmp 2)] []) k))) = _
  rw [seqK_mk (g := fun σ H => veneerlaw07DescDoesC8S cal φ N cVeneerlaw07Awake cDescNew cVeneerref07Own cVeneerDescTableOpen cVeneerVeneerref07TableOpen cVeneerDescTableClose cVeneerVeneerref07TableClose cVeneerref07Same cVeneerDescTableSet cVeneerVeneerref07TableSet cVeneerDescTableGet cVeneerVeneerref07TableGet cVeneerDescTableAll cVeneerVeneerref07TableAll cVeneerlaw07Ints cVeneerDescTableFull (fun v0 v3 v4 v5 H => gN v0 v3 v4 v5 H) (lk σ 0) (lk σ 3) (lk σ 4) (lk σ 5) (lk σ 6) H) (veneerlaw07DescDoesC8Eq cal φ N cVeneerlaw07Awake cDescNew cVeneerref07Own cVeneerDescTableOpen cVeneerVeneerref07TableOpen cVeneerDescTableClose cVeneerVeneerref07TableClose cVeneerref07Same cVeneerDescTableSet cVeneerVeneerref07TableSet cVeneerDescTableGet cVeneerVeneerref07TableGet cVeneerDescTableAll cVeneerVeneerref07TableAll cVeneerlaw07Ints cVeneerDescTableFull (k := (kN (fun σ H => gN (lk σ 0) (lk σ 3) (lk σ 4) (lk σ 5) H) (kR (resK [(.tmp 2)] []) k))) (fun v0 v3 v4 v5 H => gN v0 v3 v4 v5 H) (fun _ _ => rfl) (fun _ _ => rfl))]
  exact veneerlaw07DescDoesC2Eq cal φ N cVeneerlaw07Awake cDescNew cVeneerref07Own cVeneerDescTableOpen cVeneerVeneerref07TableOpen cVeneerDescTableClose cVeneerVeneerref07TableClose cVeneerref07Same cVeneerDescTableSet cVeneerVeneerref07TableSet cVeneerDescTableGet cVeneerVeneerref07TableGet cVeneerDescTableAll cVeneerVeneerref07TableAll cVeneerlaw07Ints cVeneerDescTableFull (k := (kN (fun σ H => veneerlaw07DescDoesC8S cal φ N cVeneerlaw07Awake cDescNew cVeneerref07Own cVeneerDescTableOpen cVeneerVeneerref07TableOpen cVeneerDescTableClose cVeneerVeneerref07TableClose cVeneerref07Same cVeneerDescTableSet cVeneerVeneerref07TableSet cVeneerDescTableGet cVeneerVeneerref07TableGet cVeneerDescTableAll cVeneerVeneerref07TableAll cVeneerlaw07Ints cVeneerDescTableFull (fun v0 v3 v4 v5 H => gN v0 v3 v4 v5 H) (lk σ 0) (lk σ 3) (lk σ 4) (lk σ 5) (lk σ 6) H) (kN (fun σ H => gN (lk σ 0) (lk σ 3) (lk σ 4) (lk σ 5) H) (kR (resK [(.tmp 2)] []) k)))) (fun v0 v3 v4 v5 v6 H => veneerlaw07DescDoesC8S cal φ N cVeneerlaw07Awake cDescNew cVeneerref07Own cVeneerDescTableOpen cVeneerVeneerref07TableOpen cVeneerDescTableClose cVeneerVeneerref07TableClose cVeneerref07Same cVeneerDescTableSet cVeneerVeneerref07TableSet cVeneerDescTableGet cVeneerVeneerref07TableGet cVeneerDescTableAll cVeneerVeneerref07TableAll cVeneerlaw07Ints cVeneerDescTableFull (fun v0 v3 v4 v5 H => gN v0 v3 v4 v5 H) v0 v3 v4 v5 v6 H) (fun _ _ => rfl) σ H
def veneerlaw07DescDoesC10S (cal : FuncId → Bool) (φ : Oracle) (N : Nat) (cVeneerlaw07Awake cDescNew cVeneerref07Own cVeneerDescTableOpen cVeneerVeneerref07TableOpen cVeneerDescTableClose cVeneerVeneerref07TableClose cVeneerref07Same cVeneerDescTableSet cVeneerVeneerref07TableSet cVeneerDescTableGet cVeneerVeneerref07TableGet cVeneerDescTableAll cVeneerVeneerref07TableAll cVeneerlaw07Ints cVeneerDescTableFull : FuncId) (gN : IV → IV → IV → IV → Heap → Option (IV × Heap)) (v0 v3 v4 v5 v6 v7 : IV) (H : Heap) : Option (IV × Heap) :=
    ob (loff v6 0) fun t1 =>
    ob (lload1 H t1) fun t2 =>
    jn (fun (H72 : Heap) =>
    veneerlaw07DescDoesC9S cal φ N cVeneerlaw07Awake cDescNew cVeneerref07Own cVeneerDescTableOpen cVeneerVeneerref07TableOpen cVeneerDescTableClose cVeneerVeneerref07TableClose cVeneerref07Same cVeneerDescTableSet cVeneerVeneerref07TableSet cVeneerDescTableGet cVeneerVeneerref07TableGet cVeneerDescTableAll cVeneerVeneerref07TableAll cVeneerlaw07Ints cVeneerDescTableFull (fun v0 v3 v4 v5 H => gN v0 v3 v4 v5 H) v0 v3 v4 v5 v6 v7 H72) fun J3 =>
    ob (lbin .eql t2 (.int .i64 0)) fun t7 =>
    cnd t7
    (ob (lloadn H 6 v7) fun t8 =>
    ob (φ cVeneerDescTableOpen [v3, t8] H) fun r9 =>
    ob (iextract r9.1 0) fun t10 =>
    ob (iextract r9.1 1) fun t11 =>
    ob (loff v6 2) fun t12 =>
    ob (lloadn r9.2 6 t12) fun t13 =>
    ob (φ cVeneerVeneerref07TableOpen [v4, t13] r9.2) fun r14 =>
    ob (iextract r14.1 0) fun t15 =>
    ob (iextract r14.1 1) fun t16 =>
    ob (lbin .neq t10 t15) fun t17 =>
    ob (gq (isB t17 false) (some t11)) fun t18 =>
    ob (gq (isB t17 false) (some t16)) fun t19 =>
    ob (gq (isB t17 false) (lbin .neq t18 t19)) fun t20 =>
    ob (lpick t17 (.bool true) t20) fun t21 =>
    cnd t21
    (some ((.bool false), r14.2))
    (J3 r14.2))
    (ob (lbin .eql t2 (.int .i64 1)) fun t22 =>
    cnd t22
    (ob (loff v6 1) fun t23 =>
    ob (lload1 H t23) fun t24 =>
    ob (φ cVeneerDescTableClose [v3, t24] H) fun r25 =>
    ob (iextract r25.1 0) fun t26 =>
    ob (iextract r25.1 1) fun t27 =>
    ob (lzbox r25.2 (.agg [(.int .i64 0), (.int .i64 0), (.int .i64 0), (.bool false), .nilSlice, (.int .i64 0)])) fun r28 =>
    ob (lstV r28.2 6 r28.1 t26) fun r29 =>
    ob (loff v6 1) fun t30 =>
    ob (lload1 r29.2 t30) fun t31 =>
    ob (φ cVeneerVeneerref07TableClose [v4, t31] r29.2) fun r32 =>
    ob (iextract r32.1 0) fun t33 =>
    ob (iextract r32.1 1) fun t34 =>
    ob (lzbox r32.2 (.agg [(.int .i64 0), (.int .i64 0), (.int .i64 0), (.bool false), .nilSlice, (.int .i64 0)])) fun r35 =>
    ob (lstV r35.2 6 r35.1 t33) fun r36 =>
    ob (lloadn r36.2 6 r28.1) fun t37 =>
    ob (lloadn r36.2 6 r35.1) fun t38 =>
    ob (φ cVeneerref07Same [t37, t38] r36.2) fun r39 =>
    ob (iun .not r39.1) fun t40 =>
    ob (gq (isB t40 false) (some t27)) fun t41 =>
    ob (gq (isB t40 false) (some t34)) fun t42 =>
    ob (gq (isB t40 false) (lbin .neq t41 t42)) fun t43 =>
    ob (lpick t40 (.bool true) t43) fun t44 =>
    cnd t44
    (some ((.bool false), r39.2))
    (J3 r39.2))
    (ob (lbin .eql t2 (.int .i64 2)) fun t45 =>
    cnd t45
    (ob (loff v6 1) fun t46 =>
    ob (lload1 H t46) fun t47 =>
    ob (lloadn H 6 v7) fun t48 =>
    ob (φ cVeneerDescTableSet [v3, t47, t48] H) fun r49 =>
    ob (loff v6 1) fun t50 =>
    ob (lload1 r49.2 t50) fun t51 =>
    ob (loff v6 2) fun t52 =>
    ob (lloadn r49.2 6 t52) fun t53 =>
    ob (φ cVeneerVeneerref07TableSet [v4, t51, t53] r49.2) fun r54 =>
    ob (lbin .neq r49.1 r54.1) fun t55 =>
    ckd ((!(true) || ((!(false)) && ivo (lload1 H t50) t51 && ivo (lload1 r49.2 t50) t51)) && ((!(true) || ((!(false)) && ivo (lloadn H 6 t52) t53 && ivo (lloadn r49.2 6 t52) t53)) && true)) <|
    cnd t55
    (some ((.bool false), r54.2))
    (J3 r54.2))
    (J3 H)))
theorem veneerlaw07DescDoesC10Eq (cal : FuncId → Bool) (φ : Oracle) (N : Nat) (cVeneerlaw07Awake cDescNew cVeneerref07Own cVeneerDescTableOpen cVeneerVeneerref07TableOpen cVeneerDescTableClose cVeneerVeneerref07TableClose cVeneerref07Same cVeneerDescTableSet cVeneerVeneerref07TableSet cVeneerDescTableGet cVeneerVeneerref07TableGet cVeneerDescTableAll cVeneerVeneerref07TableAll cVeneerlaw07Ints cVeneerDescTableFull : FuncId) {k : KT (IV × Heap)} (gN : IV → IV → IV → IV → Heap → Option (IV × Heap)) (hgN : ∀ σ H, k .normal σ H = gN (lk σ 0) (lk σ 3) (lk σ 4) (lk σ 5) H) (hR : ∀ σ H, k .ret σ H = resK [(.tmp 2)] [] σ H) : ∀ (σ : Sg) (H : Heap), lxK cal φ N (veneerlaw07DescDoesC10 cVeneerlaw07Awake cDescNew cVeneerref07Own cVeneerDescTableOpen cVeneerVeneerref07TableOpen cVeneerDescTableClose cVeneerVeneerref07TableClose cVeneerref07Same cVeneerDescTableSet cVeneerVeneerref07TableSet cVeneerDescTableGet cVeneerVeneerref07TableGet cVeneerDescTableAll cVeneerVeneerref07TableAll cVeneerlaw07Ints cVeneerDescTableFull) σ H k = veneerlaw07DescDoesC10S cal φ N cVeneerlaw07Awake cDescNew cVeneerref07Own cVeneerDescTableOpen cVeneerVeneerref07TableOpen cVeneerDescTableClose cVeneerVeneerref07TableClose cVeneerref07Same cVeneerDescTableSet cVeneerVeneerref07TableSet cVeneerDescTableGet cVeneerVeneerref07TableGet cVeneerDescTableAll cVeneerVeneerref07TableAll cVeneerlaw07Ints cVeneerDescTableFull gN (lk σ 0) (lk σ 3) (lk σ 4) (lk σ 5) (lk σ 6) (lk σ 7) H := by
  have hk : k = (kN (fun σ H => gN (lk σ 0) (lk σ 3) (lk σ 4) (lk σ 5) H) (kR (resK [(.tmp 2)] []) k)) := (kN_mk hgN (kR_mk hR rfl))
  intro σ H
  rw [hk]
  show lxK cal φ N (.seq (.reg [
    ⟨(some 54), (.off (.t 6) 0), none⟩,
    ⟨(some 55), (.ld1 (.t 54)), none⟩])
  (.block 2 (.seq (.reg [
    ⟨(some 57), (.bin .eql (.t 55) (.k (.int .i64 0))), none⟩,
    ⟨(some 56), (.mv (.t 57)), none⟩])
  (.cond (.t 56) (.seq (.reg [
    ⟨(some 59), (.mv (.t 3)), none⟩,
    ⟨(some 60), (.ldn 6 (.t 7)), none⟩,
    ⟨(some 61), (.callF cVeneerDescTableOpen [(.t 59), (.t 60)]), none⟩,
    ⟨(some 58), (.mv (.t 61)), none⟩,
    ⟨(some 62), (.ext (.t 58) 0), none⟩,
    ⟨(some 63), (.ext (.t 58) 1), none⟩,
    ⟨(some 8), (.mv (.t 62)), none⟩,
    ⟨(some 9), (.mv (.t 63)), none⟩])
  (.seq (.reg [
    ⟨(some 65), (.mv (.t 4)), none⟩,
    ⟨(some 66), (.off (.t 6) 2), none⟩,
    ⟨(some 67), (.ldn 6 (.t 66)), none⟩,
    ⟨(some 68), (.callF cVeneerVeneerref07TableOpen [(.t 65), (.t 67)]), none⟩,
    ⟨(some 64), (.mv (.t 68)), none⟩,
    ⟨(some 69), (.ext (.t 64) 0), none⟩,
    ⟨(some 70), (.ext (.t 64) 1), none⟩,
    ⟨(some 10), (.mv (.t 69)), none⟩,
    ⟨(some 11), (.mv (.t 70)), none⟩])
  (.seq (.reg [
    ⟨(some 71), (.mv (.t 8)), none⟩,
    ⟨(some 72), (.mv (.t 10)), none⟩,
    ⟨(some 73), (.bin .neq (.t 71) (.t 72)), none⟩,
    ⟨(some 74), (.mv (.t 73)), none⟩,
    ⟨(some 75), (.mv (.t 9)), (some (74, false))⟩,
    ⟨(some 76), (.mv (.t 11)), (some (74, false))⟩,
    ⟨(some 77), (.bin .neq (.t 75) (.t 76)), (some (74, false))⟩,
    ⟨(some 78), (.pick (.t 74) (.k (.bool true)) (.t 77)), none⟩])
  (.cond (.t 78) (.seq (.reg [
    ⟨(some 2), (.mv (.k (.bool false))), none⟩])
  .ret)
  .skip))))
  (.seq (.reg [
    ⟨(some 80), (.bin .eql (.t 55) (.k (.int .i64 1))), none⟩,
    ⟨(some 79), (.mv (.t 80)), none⟩])
  (.cond (.t 79) (.seq (.reg [
    ⟨(some 82), (.mv (.t 3)), none⟩,
    ⟨(some 83), (.off (.t 6) 1), none⟩,
    ⟨(some 84), (.ld1 (.t 83)), none⟩,
    ⟨(some 85), (.callF cVeneerDescTableClose [(.t 82), (.t 84)]), none⟩,
    ⟨(some 81), (.mv (.t 85)), none⟩,
    ⟨(some 86), (.ext (.t 81) 0), none⟩,
    ⟨(some 87), (.ext (.t 81) 1), none⟩,
    ⟨(some 12), (.zbox (.agg [(.int .i64 0), (.int .i64 0), (.int .i64 0), (.bool false), .nilSlice, (.int .i64 0)])), none⟩,
    ⟨none, (.st 6 (.t 12) (.t 86)), none⟩,
    ⟨(some 13), (.mv (.t 87)), none⟩])
  (.seq (.reg [
    ⟨(some 89), (.mv (.t 4)), none⟩,
    ⟨(some 90), (.off (.t 6) 1), none⟩,
    ⟨(some 91), (.ld1 (.t 90)), none⟩,
    ⟨(some 92), (.callF cVeneerVeneerref07TableClose [(.t 89), (.t 91)]), none⟩,
    ⟨(some 88), (.mv (.t 92)), none⟩,
    ⟨(some 93), (.ext (.t 88) 0), none⟩,
    ⟨(some 94), (.ext (.t 88) 1), none⟩,
    ⟨(some 14), (.zbox (.agg [(.int .i64 0), (.int .i64 0), (.int .i64 0), (.bool false), .nilSlice, (.int .i64 0)])), none⟩,
    ⟨none, (.st 6 (.t 14) (.t 93)), none⟩,
    ⟨(some 15), (.mv (.t 94)), none⟩])
  (.seq (.reg [
    ⟨(some 95), (.ldn 6 (.t 12)), none⟩,
    ⟨(some 96), (.ldn 6 (.t 14)), none⟩,
    ⟨(some 97), (.callF cVeneerref07Same [(.t 95), (.t 96)]), none⟩,
    ⟨(some 98), (.un .not (.t 97)), none⟩,
    ⟨(some 99), (.mv (.t 98)), none⟩,
    ⟨(some 100), (.mv (.t 13)), (some (99, false))⟩,
    ⟨(some 101), (.mv (.t 15)), (some (99, false))⟩,
    ⟨(some 102), (.bin .neq (.t 100) (.t 101)), (some (99, false))⟩,
    ⟨(some 103), (.pick (.t 99) (.k (.bool true)) (.t 102)), none⟩])
  (.cond (.t 103) (.seq (.reg [
    ⟨(some 2), (.mv (.k (.bool false))), none⟩])
  .ret)
  .skip))))
  (.seq (.reg [
    ⟨(some 105), (.bin .eql (.t 55) (.k (.int .i64 2))), none⟩,
    ⟨(some 104), (.mv (.t 105)), none⟩])
  (.cond (.t 104) (.seq (.drw [
    ⟨(some 106), (.mv (.t 3)), none⟩,
    ⟨(some 107), (.off (.t 6) 1), none⟩,
    ⟨(some 108), (.ld1 (.t 107)), none⟩,
    ⟨(some 109), (.ldn 6 (.t 7)), none⟩,
    ⟨(some 110), (.callF cVeneerDescTableSet [(.t 106), (.t 108), (.t 109)]), none⟩,
    ⟨(some 111), (.mv (.t 4)), none⟩,
    ⟨(some 112), (.off (.t 6) 1), none⟩,
    ⟨(some 113), (.ld1 (.t 112)), none⟩,
    ⟨(some 114), (.off (.t 6) 2), none⟩,
    ⟨(some 115), (.ldn 6 (.t 114)), none⟩,
    ⟨(some 116), (.callF cVeneerVeneerref07TableSet [(.t 111), (.t 113), (.t 115)]), none⟩,
    ⟨(some 117), (.bin .neq (.t 110) (.t 116)), none⟩] [(7, 4), (9, 4)])
  (.cond (.t 117) (.seq (.reg [
    ⟨(some 2), (.mv (.k (.bool false))), none⟩])
  .ret)
  .skip))
  .skip)))))))) σ H (seqK (lxK cal φ N (veneerlaw07DescDoesC9 cVeneerlaw07Awake cDescNew cVeneerref07Own cVeneerDescTableOpen cVeneerVeneerref07TableOpen cVeneerDescTableClose cVeneerVeneerref07TableClose cVeneerref07Same cVeneerDescTableSet cVeneerVeneerref07TableSet cVeneerDescTableGet cVeneerVeneerref07TableGet cVeneerDescTableAll cVeneerVeneerref07TableAll cVeneerlaw07Ints cVeneerDescTableFull)) (kN (fun σ H => gN (lk σ 0) (lk σ 3) (lk σ 4) (lk σ 5) H) (kR (resK [(.tmp 2)] []) k))) = _
  rw [seqK_mk (g := fun σ H => veneerlaw07DescDoesC9S cal φ N cVeneerlaw07Awake cDescNew cVeneerref07Own cVeneerDescTableOpen cVeneerVeneerref07TableOpen cVeneerDescTableClose cVeneerVeneerref07TableClose cVeneerref07Same cVeneerDescTableSet cVeneerVeneerref07TableSet cVeneerDescTableGet cVeneerVeneerref07TableGet cVeneerDescTableAll cVeneerVeneerref07TableAll cVeneerlaw07Ints cVeneerDescTableFull (fun v0 v3 v4 v5 H => gN v0 v3 v4 v5 H) (lk σ 0) (lk σ 3) (lk σ 4) (lk σ 5) (lk σ 6) (lk σ 7) H) (veneerlaw07DescDoesC9Eq cal φ N cVeneerlaw07Awake cDescNew cVeneerref07Own cVeneerDescTableOpen cVeneerVeneerref07TableOpen cVeneerDescTableClose cVeneerVeneerref07TableClose cVeneerref07Same cVeneerDescTableSet cVeneerVeneerref07TableSet cVeneerDescTableGet cVeneerVeneerref07TableGet cVeneerDescTableAll cVeneerVeneerref07TableAll cVeneerlaw07Ints cVeneerDescTableFull (k := (kN (fun σ H => gN (lk σ 0) (lk σ 3) (lk σ 4) (lk σ 5) H) (kR (resK [(.tmp 2)] []) k))) (fun v0 v3 v4 v5 H => gN v0 v3 v4 v5 H) (fun _ _ => rfl) (fun _ _ => rfl))]
  kernel_rfl
def veneerlaw07DescDoesC11S (cal : FuncId → Bool) (φ : Oracle) (N : Nat) (cVeneerlaw07Awake cDescNew cVeneerref07Own cVeneerDescTableOpen cVeneerVeneerref07TableOpen cVeneerDescTableClose cVeneerVeneerref07TableClose cVeneerref07Same cVeneerDescTableSet cVeneerVeneerref07TableSet cVeneerDescTableGet cVeneerVeneerref07TableGet cVeneerDescTableAll cVeneerVeneerref07TableAll cVeneerlaw07Ints cVeneerDescTableFull : FuncId) (gN : IV → IV → IV → IV → Heap → Option (IV × Heap)) (v0 v3 v4 v5 v6 : IV) (H : Heap) : Option (IV × Heap) :=
    ob (loff v6 2) fun t1 =>
    ob (lloadn H 6 t1) fun t2 =>
    ob (φ cVeneerref07Own [t2] H) fun r3 =>
    ob (lzbox r3.2 (.agg [(.int .i64 0), (.int .i64 0), (.int .i64 0), (.bool false), .nilSlice, (.int .i64 0)])) fun r4 =>
    ob (lstV r4.2 6 r4.1 r3.1) fun r5 =>
    veneerlaw07DescDoesC10S cal φ N cVeneerlaw07Awake cDescNew cVeneerref07Own cVeneerDescTableOpen cVeneerVeneerref07TableOpen cVeneerDescTableClose cVeneerVeneerref07TableClose cVeneerref07Same cVeneerDescTableSet cVeneerVeneerref07TableSet cVeneerDescTableGet cVeneerVeneerref07TableGet cVeneerDescTableAll cVeneerVeneerref07TableAll cVeneerlaw07Ints cVeneerDescTableFull (fun v0 v3 v4 v5 H => gN v0 v3 v4 v5 H) v0 v3 v4 v5 v6 r4.1 r5.2
theorem veneerlaw07DescDoesC11Eq (cal : FuncId → Bool) (φ : Oracle) (N : Nat) (cVeneerlaw07Awake cDescNew cVeneerref07Own cVeneerDescTableOpen cVeneerVeneerref07TableOpen cVeneerDescTableClose cVeneerVeneerref07TableClose cVeneerref07Same cVeneerDescTableSet cVeneerVeneerref07TableSet cVeneerDescTableGet cVeneerVeneerref07TableGet cVeneerDescTableAll cVeneerVeneerref07TableAll cVeneerlaw07Ints cVeneerDescTableFull : FuncId) {k : KT (IV × Heap)} (gN : IV → IV → IV → IV → Heap → Option (IV × Heap)) (hgN : ∀ σ H, k .normal σ H = gN (lk σ 0) (lk σ 3) (lk σ 4) (lk σ 5) H) (hR : ∀ σ H, k .ret σ H = resK [(.tmp 2)] [] σ H) : ∀ (σ : Sg) (H : Heap), lxK cal φ N (veneerlaw07DescDoesC11 cVeneerlaw07Awake cDescNew cVeneerref07Own cVeneerDescTableOpen cVeneerVeneerref07TableOpen cVeneerDescTableClose cVeneerVeneerref07TableClose cVeneerref07Same cVeneerDescTableSet cVeneerVeneerref07TableSet cVeneerDescTableGet cVeneerVeneerref07TableGet cVeneerDescTableAll cVeneerVeneerref07TableAll cVeneerlaw07Ints cVeneerDescTableFull) σ H k = veneerlaw07DescDoesC11S cal φ N cVeneerlaw07Awake cDescNew cVeneerref07Own cVeneerDescTableOpen cVeneerVeneerref07TableOpen cVeneerDescTableClose cVeneerVeneerref07TableClose cVeneerref07Same cVeneerDescTableSet cVeneerVeneerref07TableSet cVeneerDescTableGet cVeneerVeneerref07TableGet cVeneerDescTableAll cVeneerVeneerref07TableAll cVeneerlaw07Ints cVeneerDescTableFull gN (lk σ 0) (lk σ 3) (lk σ 4) (lk σ 5) (lk σ 6) H := by
  have hk : k = (kN (fun σ H => gN (lk σ 0) (lk σ 3) (lk σ 4) (lk σ 5) H) (kR (resK [(.tmp 2)] []) k)) := (kN_mk hgN (kR_mk hR rfl))
  intro σ H
  rw [hk]
  show lxK cal φ N (.reg [
    ⟨(some 51), (.off (.t 6) 2), none⟩,
    ⟨(some 52), (.ldn 6 (.t 51)), none⟩,
    ⟨(some 53), (.callF cVeneerref07Own [(.t 52)]), none⟩,
    ⟨(some 7), (.zbox (.agg [(.int .i64 0), (.int .i64 0), (.int .i64 0), (.bool false), .nilSlice, (.int .i64 0)])), none⟩,
    ⟨none, (.st 6 (.t 7) (.t 53)), none⟩]) σ H (seqK (lxK cal φ N (veneerlaw07DescDoesC10 cVeneerlaw07Awake cDescNew cVeneerref07Own cVeneerDescTableOpen cVeneerVeneerref07TableOpen cVeneerDescTableClose cVeneerVeneerref07TableClose cVeneerref07Same cVeneerDescTableSet cVeneerVeneerref07TableSet cVeneerDescTableGet cVeneerVeneerref07TableGet cVeneerDescTableAll cVeneerVeneerref07TableAll cVeneerlaw07Ints cVeneerDescTableFull)) (kN (fun σ H => gN (lk σ 0) (lk σ 3) (lk σ 4) (lk σ 5) H) (kR (resK [(.tmp 2)] []) k))) = _
  rw [seqK_mk (g := fun σ H => veneerlaw07DescDoesC10S cal φ N cVeneerlaw07Awake cDescNew cVeneerref07Own cVeneerDescTableOpen cVeneerVeneerref07TableOpen cVeneerDescTableClose cVeneerVeneerref07TableClose cVeneerref07Same cVeneerDescTableSet cVeneerVeneerref07TableSet cVeneerDescTableGet cVeneerVeneerref07TableGet cVeneerDescTableAll cVeneerVeneerref07TableAll cVeneerlaw07Ints cVeneerDescTableFull (fun v0 v3 v4 v5 H => gN v0 v3 v4 v5 H) (lk σ 0) (lk σ 3) (lk σ 4) (lk σ 5) (lk σ 6) (lk σ 7) H) (veneerlaw07DescDoesC10Eq cal φ N cVeneerlaw07Awake cDescNew cVeneerref07Own cVeneerDescTableOpen cVeneerVeneerref07TableOpen cVeneerDescTableClose cVeneerVeneerref07TableClose cVeneerref07Same cVeneerDescTableSet cVeneerVeneerref07TableSet cVeneerDescTableGet cVeneerVeneerref07TableGet cVeneerDescTableAll cVeneerVeneerref07TableAll cVeneerlaw07Ints cVeneerDescTableFull (k := (kN (fun σ H => gN (lk σ 0) (lk σ 3) (lk σ 4) (lk σ 5) H) (kR (resK [(.tmp 2)] []) k))) (fun v0 v3 v4 v5 H => gN v0 v3 v4 v5 H) (fun _ _ => rfl) (fun _ _ => rfl))]
  kernel_rfl
def veneerlaw07DescDoesC12S (cal : FuncId → Bool) (φ : Oracle) (N : Nat) (cVeneerlaw07Awake cDescNew cVeneerref07Own cVeneerDescTableOpen cVeneerVeneerref07TableOpen cVeneerDescTableClose cVeneerVeneerref07TableClose cVeneerref07Same cVeneerDescTableSet cVeneerVeneerref07TableSet cVeneerDescTableGet cVeneerVeneerref07TableGet cVeneerDescTableAll cVeneerVeneerref07TableAll cVeneerlaw07Ints cVeneerDescTableFull : FuncId) (gN : IV → IV → IV → IV → Heap → Option (IV × Heap)) (v0 v3 v4 v5 v6 : IV) (H : Heap) : Option (IV × Heap) :=
    ob (loff v6 2) fun t1 =>
    ob (loff t1 4) fun t2 =>
    ob (lload1 H t2) fun t3 =>
    ob (llen H .slice t3) fun t4 =>
    ob (lbin .gtr t4 (.int .i64 100)) fun t5 =>
    cnd t5
    (some ((.bool true), H))
    (veneerlaw07DescDoesC11S cal φ N cVeneerlaw07Awake cDescNew cVeneerref07Own cVeneerDescTableOpen cVeneerVeneerref07TableOpen cVeneerDescTableClose cVeneerVeneerref07TableClose cVeneerref07Same cVeneerDescTableSet cVeneerVeneerref07TableSet cVeneerDescTableGet cVeneerVeneerref07TableGet cVeneerDescTableAll cVeneerVeneerref07TableAll cVeneerlaw07Ints cVeneerDescTableFull (fun v0 v3 v4 v5 H => gN v0 v3 v4 v5 H) v0 v3 v4 v5 v6 H)
theorem veneerlaw07DescDoesC12Eq (cal : FuncId → Bool) (φ : Oracle) (N : Nat) (cVeneerlaw07Awake cDescNew cVeneerref07Own cVeneerDescTableOpen cVeneerVeneerref07TableOpen cVeneerDescTableClose cVeneerVeneerref07TableClose cVeneerref07Same cVeneerDescTableSet cVeneerVeneerref07TableSet cVeneerDescTableGet cVeneerVeneerref07TableGet cVeneerDescTableAll cVeneerVeneerref07TableAll cVeneerlaw07Ints cVeneerDescTableFull : FuncId) {k : KT (IV × Heap)} (gN : IV → IV → IV → IV → Heap → Option (IV × Heap)) (hgN : ∀ σ H, k .normal σ H = gN (lk σ 0) (lk σ 3) (lk σ 4) (lk σ 5) H) (hR : ∀ σ H, k .ret σ H = resK [(.tmp 2)] [] σ H) : ∀ (σ : Sg) (H : Heap), lxK cal φ N (veneerlaw07DescDoesC12 cVeneerlaw07Awake cDescNew cVeneerref07Own cVeneerDescTableOpen cVeneerVeneerref07TableOpen cVeneerDescTableClose cVeneerVeneerref07TableClose cVeneerref07Same cVeneerDescTableSet cVeneerVeneerref07TableSet cVeneerDescTableGet cVeneerVeneerref07TableGet cVeneerDescTableAll cVeneerVeneerref07TableAll cVeneerlaw07Ints cVeneerDescTableFull) σ H k = veneerlaw07DescDoesC12S cal φ N cVeneerlaw07Awake cDescNew cVeneerref07Own cVeneerDescTableOpen cVeneerVeneerref07TableOpen cVeneerDescTableClose cVeneerVeneerref07TableClose cVeneerref07Same cVeneerDescTableSet cVeneerVeneerref07TableSet cVeneerDescTableGet cVeneerVeneerref07TableGet cVeneerDescTableAll cVeneerVeneerref07TableAll cVeneerlaw07Ints cVeneerDescTableFull gN (lk σ 0) (lk σ 3) (lk σ 4) (lk σ 5) (lk σ 6) H := by
  have hk : k = (kN (fun σ H => gN (lk σ 0) (lk σ 3) (lk σ 4) (lk σ 5) H) (kR (resK [(.tmp 2)] []) k)) := (kN_mk hgN (kR_mk hR rfl))
  intro σ H
  rw [hk]
  show lxK cal φ N (.seq (.reg [
    ⟨(some 46), (.off (.t 6) 2), none⟩,
    ⟨(some 47), (.off (.t 46) 4), none⟩,
    ⟨(some 48), (.ld1 (.t 47)), none⟩,
    ⟨(some 49), (.len .slice (.t 48)), none⟩,
    ⟨(some 50), (.bin .gtr (.t 49) (.k (.int .i64 100))), none⟩])
  (.cond (.t 50) (.seq (.reg [
    ⟨(some 2), (.mv (.k (.bool true))), none⟩])
  .ret)
  .skip)) σ H (seqK (lxK cal φ N (veneerlaw07DescDoesC11 cVeneerlaw07Awake cDescNew cVeneerref07Own cVeneerDescTableOpen cVeneerVeneerref07TableOpen cVeneerDescTableClose cVeneerVeneerref07TableClose cVeneerref07Same cVeneerDescTableSet cVeneerVeneerref07TableSet cVeneerDescTableGet cVeneerVeneerref07TableGet cVeneerDescTableAll cVeneerVeneerref07TableAll cVeneerlaw07Ints cVeneerDescTableFull)) (kN (fun σ H => gN (lk σ 0) (lk σ 3) (lk σ 4) (lk σ 5) H) (kR (resK [(.tmp 2)] []) k))) = _
  rw [seqK_mk (g := fun σ H => veneerlaw07DescDoesC11S cal φ N cVeneerlaw07Awake cDescNew cVeneerref07Own cVeneerDescTableOpen cVeneerVeneerref07TableOpen cVeneerDescTableClose cVeneerVeneerref07TableClose cVeneerref07Same cVeneerDescTableSet cVeneerVeneerref07TableSet cVeneerDescTableGet cVeneerVeneerref07TableGet cVeneerDescTableAll cVeneerVeneerref07TableAll cVeneerlaw07Ints cVeneerDescTableFull (fun v0 v3 v4 v5 H => gN v0 v3 v4 v5 H) (lk σ 0) (lk σ 3) (lk σ 4) (lk σ 5) (lk σ 6) H) (veneerlaw07DescDoesC11Eq cal φ N cVeneerlaw07Awake cDescNew cVeneerref07Own cVeneerDescTableOpen cVeneerVeneerref07TableOpen cVeneerDescTableClose cVeneerVeneerref07TableClose cVeneerref07Same cVeneerDescTableSet cVeneerVeneerref07TableSet cVeneerDescTableGet cVeneerVeneerref07TableGet cVeneerDescTableAll cVeneerVeneerref07TableAll cVeneerlaw07Ints cVeneerDescTableFull (k := (kN (fun σ H => gN (lk σ 0) (lk σ 3) (lk σ 4) (lk σ 5) H) (kR (resK [(.tmp 2)] []) k))) (fun v0 v3 v4 v5 H => gN v0 v3 v4 v5 H) (fun _ _ => rfl) (fun _ _ => rfl))]
  kernel_rfl
def veneerlaw07DescDoesC13S (cal : FuncId → Bool) (φ : Oracle) (N : Nat) (cVeneerlaw07Awake cDescNew cVeneerref07Own cVeneerDescTableOpen cVeneerVeneerref07TableOpen cVeneerDescTableClose cVeneerVeneerref07TableClose cVeneerref07Same cVeneerDescTableSet cVeneerVeneerref07TableSet cVeneerDescTableGet cVeneerVeneerref07TableGet cVeneerDescTableAll cVeneerVeneerref07TableAll cVeneerlaw07Ints cVeneerDescTableFull : FuncId) (gN : IV → IV → IV → IV → Heap → Option (IV × Heap)) (v0 v3 v4 v5 : IV) (H : Heap) : Option (IV × Heap) :=
    ob (lix 8 v0 v5) fun t1 =>
    ob (lloadn H 8 t1) fun t2 =>
    ob (lzbox H (.agg [(.int .i64 0), (.int .i64 0), (.int .i64 0), (.int .i64 0), (.int .i64 0), (.bool false), .nilSlice, (.int .i64 0)])) fun r3 =>
    ob (lstV r3.2 8 r3.1 t2) fun r4 =>
    veneerlaw07DescDoesC12S cal φ N cVeneerlaw07Awake cDescNew cVeneerref07Own cVeneerDescTableOpen cVeneerVeneerref07TableOpen cVeneerDescTableClose cVeneerVeneerref07TableClose cVeneerref07Same cVeneerDescTableSet cVeneerVeneerref07TableSet cVeneerDescTableGet cVeneerVeneerref07TableGet cVeneerDescTableAll cVeneerVeneerref07TableAll cVeneerlaw07Ints cVeneerDescTableFull (fun v0 v3 v4 v5 H => gN v0 v3 v4 v5 H) v0 v3 v4 v5 r3.1 r4.2
theorem veneerlaw07DescDoesC13Eq (cal : FuncId → Bool) (φ : Oracle) (N : Nat) (cVeneerlaw07Awake cDescNew cVeneerref07Own cVeneerDescTableOpen cVeneerVeneerref07TableOpen cVeneerDescTableClose cVeneerVeneerref07TableClose cVeneerref07Same cVeneerDescTableSet cVeneerVeneerref07TableSet cVeneerDescTableGet cVeneerVeneerref07TableGet cVeneerDescTableAll cVeneerVeneerref07TableAll cVeneerlaw07Ints cVeneerDescTableFull : FuncId) {k : KT (IV × Heap)} (gN : IV → IV → IV → IV → Heap → Option (IV × Heap)) (hgN : ∀ σ H, k .normal σ H = gN (lk σ 0) (lk σ 3) (lk σ 4) (lk σ 5) H) (hR : ∀ σ H, k .ret σ H = resK [(.tmp 2)] [] σ H) : ∀ (σ : Sg) (H : Heap), lxK cal φ N (veneerlaw07DescDoesC13 cVeneerlaw07Awake cDescNew cVeneerref07Own cVeneerDescTableOpen cVeneerVeneerref07TableOpen cVeneerDescTableClose cVeneerVeneerref07TableClose cVeneerref07Same cVeneerDescTableSet cVeneerVeneerref07TableSet cVeneerDescTableGet cVeneerVeneerref07TableGet cVeneerDescTableAll cVeneerVeneerref07TableAll cVeneerlaw07Ints cVeneerDescTableFull) σ H k = veneerlaw07DescDoesC13S cal φ N cVeneerlaw07Awake cDescNew cVeneerref07Own cVeneerDescTableOpen cVeneerVeneerref07TableOpen cVeneerDescTableClose cVeneerVeneerref07TableClose cVeneerref07Same cVeneerDescTableSet cVeneerVeneerref07TableSet cVeneerDescTableGet cVeneerVeneerref07TableGet cVeneerDescTableAll cVeneerVeneerref07TableAll cVeneerlaw07Ints cVeneerDescTableFull gN (lk σ 0) (lk σ 3) (lk σ 4) (lk σ 5) H := by
  have hk : k = (kN (fun σ H => gN (lk σ 0) (lk σ 3) (lk σ 4) (lk σ 5) H) (kR (resK [(.tmp 2)] []) k)) := (kN_mk hgN (kR_mk hR rfl))
  intro σ H
  rw [hk]
  show lxK cal φ N (.reg [
    ⟨(some 42), (.mv (.t 0)), none⟩,
    ⟨(some 43), (.mv (.t 5)), none⟩,
    ⟨(some 44), (.ix 8 (.t 42) (.t 43)), none⟩,
    ⟨(some 45), (.ldn 8 (.t 44)), none⟩,
    ⟨(some 6), (.zbox (.agg [(.int .i64 0), (.int .i64 0), (.int .i64 0), (.int .i64 0), (.int .i64 0), (.bool false), .nilSlice, (.int .i64 0)])), none⟩,
    ⟨none, (.st 8 (.t 6) (.t 45)), none⟩]) σ H (seqK (lxK cal φ N (veneerlaw07DescDoesC12 cVeneerlaw07Awake cDescNew cVeneerref07Own cVeneerDescTableOpen cVeneerVeneerref07TableOpen cVeneerDescTableClose cVeneerVeneerref07TableClose cVeneerref07Same cVeneerDescTableSet cVeneerVeneerref07TableSet cVeneerDescTableGet cVeneerVeneerref07TableGet cVeneerDescTableAll cVeneerVeneerref07TableAll cVeneerlaw07Ints cVeneerDescTableFull)) (kN (fun σ H => gN (lk σ 0) (lk σ 3) (lk σ 4) (lk σ 5) H) (kR (resK [(.tmp 2)] []) k))) = _
  rw [seqK_mk (g := fun σ H => veneerlaw07DescDoesC12S cal φ N cVeneerlaw07Awake cDescNew cVeneerref07Own cVeneerDescTableOpen cVeneerVeneerref07TableOpen cVeneerDescTableClose cVeneerVeneerref07TableClose cVeneerref07Same cVeneerDescTableSet cVeneerVeneerref07TableSet cVeneerDescTableGet cVeneerVeneerref07TableGet cVeneerDescTableAll cVeneerVeneerref07TableAll cVeneerlaw07Ints cVeneerDescTableFull (fun v0 v3 v4 v5 H => gN v0 v3 v4 v5 H) (lk σ 0) (lk σ 3) (lk σ 4) (lk σ 5) (lk σ 6) H) (veneerlaw07DescDoesC12Eq cal φ N cVeneerlaw07Awake cDescNew cVeneerref07Own cVeneerDescTableOpen cVeneerVeneerref07TableOpen cVeneerDescTableClose cVeneerVeneerref07TableClose cVeneerref07Same cVeneerDescTableSet cVeneerVeneerref07TableSet cVeneerDescTableGet cVeneerVeneerref07TableGet cVeneerDescTableAll cVeneerVeneerref07TableAll cVeneerlaw07Ints cVeneerDescTableFull (k := (kN (fun σ H => gN (lk σ 0) (lk σ 3) (lk σ 4) (lk σ 5) H) (kR (resK [(.tmp 2)] []) k))) (fun v0 v3 v4 v5 H => gN v0 v3 v4 v5 H) (fun _ _ => rfl) (fun _ _ => rfl))]
  kernel_rfl
def veneerlaw07DescDoesC14S (cal : FuncId → Bool) (φ : Oracle) (N : Nat) (cVeneerlaw07Awake cDescNew cVeneerref07Own cVeneerDescTableOpen cVeneerVeneerref07TableOpen cVeneerDescTableClose cVeneerVeneerref07TableClose cVeneerref07Same cVeneerDescTableSet cVeneerVeneerref07TableSet cVeneerDescTableGet cVeneerVeneerref07TableGet cVeneerDescTableAll cVeneerVeneerref07TableAll cVeneerlaw07Ints cVeneerDescTableFull : FuncId) (gN : IV → IV → IV → IV → Heap → Option (IV × Heap)) (v0 v3 v4 v5 : IV) (H : Heap) : Option (IV × Heap) :=
    veneerlaw07DescDoesC13S cal φ N cVeneerlaw07Awake cDescNew cVeneerref07Own cVeneerDescTableOpen cVeneerVeneerref07TableOpen cVeneerDescTableClose cVeneerVeneerref07TableClose cVeneerref07Same cVeneerDescTableSet cVeneerVeneerref07TableSet cVeneerDescTableGet cVeneerVeneerref07TableGet cVeneerDescTableAll cVeneerVeneerref07TableAll cVeneerlaw07Ints cVeneerDescTableFull (fun v0 v3 v4 v5 H => gN v0 v3 v4 v5 H) v0 v3 v4 v5 H
theorem veneerlaw07DescDoesC14Eq (cal : FuncId → Bool) (φ : Oracle) (N : Nat) (cVeneerlaw07Awake cDescNew cVeneerref07Own cVeneerDescTableOpen cVeneerVeneerref07TableOpen cVeneerDescTableClose cVeneerVeneerref07TableClose cVeneerref07Same cVeneerDescTableSet cVeneerVeneerref07TableSet cVeneerDescTableGet cVeneerVeneerref07TableGet cVeneerDescTableAll cVeneerVeneerref07TableAll cVeneerlaw07Ints cVeneerDescTableFull : FuncId) {k : KT (IV × Heap)} (gN : IV → IV → IV → IV → Heap → Option (IV × Heap)) (hgN : ∀ σ H, k .normal σ H = gN (lk σ 0) (lk σ 3) (lk σ 4) (lk σ 5) H) (hR : ∀ σ H, k .ret σ H = resK [(.tmp 2)] [] σ H) : ∀ (σ : Sg) (H : Heap), lxK cal φ N (veneerlaw07DescDoesC14 cVeneerlaw07Awake cDescNew cVeneerref07Own cVeneerDescTableOpen cVeneerVeneerref07TableOpen cVeneerDescTableClose cVeneerVeneerref07TableClose cVeneerref07Same cVeneerDescTableSet cVeneerVeneerref07TableSet cVeneerDescTableGet cVeneerVeneerref07TableGet cVeneerDescTableAll cVeneerVeneerref07TableAll cVeneerlaw07Ints cVeneerDescTableFull) σ H k = veneerlaw07DescDoesC14S cal φ N cVeneerlaw07Awake cDescNew cVeneerref07Own cVeneerDescTableOpen cVeneerVeneerref07TableOpen cVeneerDescTableClose cVeneerVeneerref07TableClose cVeneerref07Same cVeneerDescTableSet cVeneerVeneerref07TableSet cVeneerDescTableGet cVeneerVeneerref07TableGet cVeneerDescTableAll cVeneerVeneerref07TableAll cVeneerlaw07Ints cVeneerDescTableFull gN (lk σ 0) (lk σ 3) (lk σ 4) (lk σ 5) H := by
  have hk : k = (kN (fun σ H => gN (lk σ 0) (lk σ 3) (lk σ 4) (lk σ 5) H) (kR (resK [(.tmp 2)] []) k)) := (kN_mk hgN (kR_mk hR rfl))
  intro σ H
  rw [hk]
  show lxK cal φ N (veneerlaw07DescDoesC13 cVeneerlaw07Awake cDescNew cVeneerref07Own cVeneerDescTableOpen cVeneerVeneerref07TableOpen cVeneerDescTableClose cVeneerVeneerref07TableClose cVeneerref07Same cVeneerDescTableSet cVeneerVeneerref07TableSet cVeneerDescTableGet cVeneerVeneerref07TableGet cVeneerDescTableAll cVeneerVeneerref07TableAll cVeneerlaw07Ints cVeneerDescTableFull) σ H (blockK 1 (kN (fun σ H => gN (lk σ 0) (lk σ 3) (lk σ 4) (lk σ 5) H) (kR (resK [(.tmp 2)] []) k))) = _
  exact veneerlaw07DescDoesC13Eq cal φ N cVeneerlaw07Awake cDescNew cVeneerref07Own cVeneerDescTableOpen cVeneerVeneerref07TableOpen cVeneerDescTableClose cVeneerVeneerref07TableClose cVeneerref07Same cVeneerDescTableSet cVeneerVeneerref07TableSet cVeneerDescTableGet cVeneerVeneerref07TableGet cVeneerDescTableAll cVeneerVeneerref07TableAll cVeneerlaw07Ints cVeneerDescTableFull (k := (blockK 1 (kN (fun σ H => gN (lk σ 0) (lk σ 3) (lk σ 4) (lk σ 5) H) (kR (resK [(.tmp 2)] []) k)))) (fun v0 v3 v4 v5 H => gN v0 v3 v4 v5 H) (fun _ _ => rfl) (fun _ _ => rfl) σ H
def veneerlaw07DescDoesC15S (cal : FuncId → Bool) (φ : Oracle) (N : Nat) (cVeneerlaw07Awake cDescNew cVeneerref07Own cVeneerDescTableOpen cVeneerVeneerref07TableOpen cVeneerDescTableClose cVeneerVeneerref07TableClose cVeneerref07Same cVeneerDescTableSet cVeneerVeneerref07TableSet cVeneerDescTableGet cVeneerVeneerref07TableGet cVeneerDescTableAll cVeneerVeneerref07TableAll cVeneerlaw07Ints cVeneerDescTableFull : FuncId) (gN : IV → IV → IV → IV → Heap → Option (IV × Heap)) (v0 v3 v4 v5 : IV) (H : Heap) : Option (IV × Heap) :=
    veneerlaw07DescDoesC14S cal φ N cVeneerlaw07Awake cDescNew cVeneerref07Own cVeneerDescTableOpen cVeneerVeneerref07TableOpen cVeneerDescTableClose cVeneerVeneerref07TableClose cVeneerref07Same cVeneerDescTableSet cVeneerVeneerref07TableSet cVeneerDescTableGet cVeneerVeneerref07TableGet cVeneerDescTableAll cVeneerVeneerref07TableAll cVeneerlaw07Ints cVeneerDescTableFull (fun v0 v3 v4 v5 H => ob (lbin .add v5 (.int .i64 1)) fun t1 =>
    gN v0 v3 v4 t1 H) v0 v3 v4 v5 H
theorem veneerlaw07DescDoesC15Eq (cal : FuncId → Bool) (φ : Oracle) (N : Nat) (cVeneerlaw07Awake cDescNew cVeneerref07Own cVeneerDescTableOpen cVeneerVeneerref07TableOpen cVeneerDescTableClose cVeneerVeneerref07TableClose cVeneerref07Same cVeneerDescTableSet cVeneerVeneerref07TableSet cVeneerDescTableGet cVeneerVeneerref07TableGet cVeneerDescTableAll cVeneerVeneerref07TableAll cVeneerlaw07Ints cVeneerDescTableFull : FuncId) {k : KT (IV × Heap)} (gN : IV → IV → IV → IV → Heap → Option (IV × Heap)) (hgN : ∀ σ H, k .normal σ H = gN (lk σ 0) (lk σ 3) (lk σ 4) (lk σ 5) H) (hR : ∀ σ H, k .ret σ H = resK [(.tmp 2)] [] σ H) : ∀ (σ : Sg) (H : Heap), lxK cal φ N (veneerlaw07DescDoesC15 cVeneerlaw07Awake cDescNew cVeneerref07Own cVeneerDescTableOpen cVeneerVeneerref07TableOpen cVeneerDescTableClose cVeneerVeneerref07TableClose cVeneerref07Same cVeneerDescTableSet cVeneerVeneerref07TableSet cVeneerDescTableGet cVeneerVeneerref07TableGet cVeneerDescTableAll cVeneerVeneerref07TableAll cVeneerlaw07Ints cVeneerDescTableFull) σ H k = veneerlaw07DescDoesC15S cal φ N cVeneerlaw07Awake cDescNew cVeneerref07Own cVeneerDescTableOpen cVeneerVeneerref07TableOpen cVeneerDescTableClose cVeneerVeneerref07TableClose cVeneerref07Same cVeneerDescTableSet cVeneerVeneerref07TableSet cVeneerDescTableGet cVeneerVeneerref07TableGet cVeneerDescTableAll cVeneerVeneerref07TableAll cVeneerlaw07Ints cVeneerDescTableFull gN (lk σ 0) (lk σ 3) (lk σ 4) (lk σ 5) H := by
  have hk : k = (kN (fun σ H => gN (lk σ 0) (lk σ 3) (lk σ 4) (lk σ 5) H) (kR (resK [(.tmp 2)] []) k)) := (kN_mk hgN (kR_mk hR rfl))
  intro σ H
  rw [hk]
  show lxK cal φ N (veneerlaw07DescDoesC14 cVeneerlaw07Awake cDescNew cVeneerref07Own cVeneerDescTableOpen cVeneerVeneerref07TableOpen cVeneerDescTableClose cVeneerVeneerref07TableClose cVeneerref07Same cVeneerDescTableSet cVeneerVeneerref07TableSet cVeneerDescTableGet cVeneerVeneerref07TableGet cVeneerDescTableAll cVeneerVeneerref07TableAll cVeneerlaw07Ints cVeneerDescTableFull) σ H (seqK (lxK cal φ N (.reg [
    ⟨(some 40), (.mv (.t 5)), none⟩,
    ⟨(some 41), (.bin .add (.t 40) (.k (.int .i64 1))), none⟩,
    ⟨(some 5), (.mv (.t 41)), none⟩])) (kN (fun σ H => gN (lk σ 0) (lk σ 3) (lk σ 4) (lk σ 5) H) (kR (resK [(.tmp 2)] []) k))) = _
  exact veneerlaw07DescDoesC14Eq cal φ N cVeneerlaw07Awake cDescNew cVeneerref07Own cVeneerDescTableOpen cVeneerVeneerref07TableOpen cVeneerDescTableClose cVeneerVeneerref07TableClose cVeneerref07Same cVeneerDescTableSet cVeneerVeneerref07TableSet cVeneerDescTableGet cVeneerVeneerref07TableGet cVeneerDescTableAll cVeneerVeneerref07TableAll cVeneerlaw07Ints cVeneerDescTableFull (k := (seqK (lxK cal φ N (.reg [
    ⟨(some 40), (.mv (.t 5)), none⟩,
    ⟨(some 41), (.bin .add (.t 40) (.k (.int .i64 1))), none⟩,
    ⟨(some 5), (.mv (.t 41)), none⟩])) (kN (fun σ H => gN (lk σ 0) (lk σ 3) (lk σ 4) (lk σ 5) H) (kR (resK [(.tmp 2)] []) k)))) (fun v0 v3 v4 v5 H => ob (lbin .add v5 (.int .i64 1)) fun t1 =>
gN v0 v3 v4 t1 H) (fun _ _ => rfl) (fun _ _ => rfl) σ H
def veneerlaw07DescDoesC16S (cal : FuncId → Bool) (φ : Oracle) (N : Nat) (cVeneerlaw07Awake cDescNew cVeneerref07Own cVeneerDescTableOpen cVeneerVeneerref07TableOpen cVeneerDescTableClose cVeneerVeneerref07TableClose cVeneerref07Same cVeneerDescTableSet cVeneerVeneerref07TableSet cVeneerDescTableGet cVeneerVeneerref07TableGet cVeneerDescTableAll cVeneerVeneerref07TableAll cVeneerlaw07Ints cVeneerDescTableFull : FuncId) (gE0 : IV → IV → Heap → Option (IV × Heap)) (gN : IV → IV → IV → IV → Heap → Option (IV × Heap)) (v0 v3 v4 v5 : IV) (H : Heap) : Option (IV × Heap) :=
    ob (llen H .slice v0) fun t1 =>
    ob (lbin .lss v5 t1) fun t2 =>
    ob (gq (isB t2 true) (some v5)) fun t3 =>
    ob (gq (isB t2 true) (lbin .lss t3 (.int .i64 120))) fun t4 =>
    ob (lpick t2 t4 (.bool false)) fun t5 =>
    cnd t5
    (veneerlaw07DescDoesC15S cal φ N cVeneerlaw07Awake cDescNew cVeneerref07Own cVeneerDescTableOpen cVeneerVeneerref07TableOpen cVeneerDescTableClose cVeneerVeneerref07TableClose cVeneerref07Same cVeneerDescTableSet cVeneerVeneerref07TableSet cVeneerDescTableGet cVeneerVeneerref07TableGet cVeneerDescTableAll cVeneerVeneerref07TableAll cVeneerlaw07Ints cVeneerDescTableFull (fun v0 v3 v4 v5 H => gN v0 v3 v4 v5 H) v0 v3 v4 v5 H)
    (gE0 v3 v4 H)
theorem veneerlaw07DescDoesC16Eq (cal : FuncId → Bool) (φ : Oracle) (N : Nat) (cVeneerlaw07Awake cDescNew cVeneerref07Own cVeneerDescTableOpen cVeneerVeneerref07TableOpen cVeneerDescTableClose cVeneerVeneerref07TableClose cVeneerref07Same cVeneerDescTableSet cVeneerVeneerref07TableSet cVeneerDescTableGet cVeneerVeneerref07TableGet cVeneerDescTableAll cVeneerVeneerref07TableAll cVeneerlaw07Ints cVeneerDescTableFull : FuncId) {k : KT (IV × Heap)} (gE0 : IV → IV → Heap → Option (IV × Heap)) (gN : IV → IV → IV → IV → Heap → Option (IV × Heap)) (hgE0 : ∀ σ H, k (.exit 0) σ H = gE0 (lk σ 3) (lk σ 4) H) (hgN : ∀ σ H, k .normal σ H = gN (lk σ 0) (lk σ 3) (lk σ 4) (lk σ 5) H) (hR : ∀ σ H, k .ret σ H = resK [(.tmp 2)] [] σ H) : ∀ (σ : Sg) (H : Heap), lxK cal φ N (veneerlaw07DescDoesC16 cVeneerlaw07Awake cDescNew cVeneerref07Own cVeneerDescTableOpen cVeneerVeneerref07TableOpen cVeneerDescTableClose cVeneerVeneerref07TableClose cVeneerref07Same cVeneerDescTableSet cVeneerVeneerref07TableSet cVeneerDescTableGet cVeneerVeneerref07TableGet cVeneerDescTableAll cVeneerVeneerref07TableAll cVeneerlaw07Ints cVeneerDescTableFull) σ H k = veneerlaw07DescDoesC16S cal φ N cVeneerlaw07Awake cDescNew cVeneerref07Own cVeneerDescTableOpen cVeneerVeneerref07TableOpen cVeneerDescTableClose cVeneerVeneerref07TableClose cVeneerref07Same cVeneerDescTableSet cVeneerVeneerref07TableSet cVeneerDescTableGet cVeneerVeneerref07TableGet cVeneerDescTableAll cVeneerVeneerref07TableAll cVeneerlaw07Ints cVeneerDescTableFull gE0 gN (lk σ 0) (lk σ 3) (lk σ 4) (lk σ 5) H := by
  have hk : k = (kN (fun σ H => gN (lk σ 0) (lk σ 3) (lk σ 4) (lk σ 5) H) (kE 0 (fun σ H => gE0 (lk σ 3) (lk σ 4) H) (kR (resK [(.tmp 2)] []) k))) := (kN_mk hgN (kE_mk hgE0 (kR_mk hR rfl)))
  intro σ H
  rw [hk]
  show lxK cal φ N (.seq (.reg [
    ⟨(some 32), (.mv (.t 5)), none⟩,
    ⟨(some 33), (.mv (.t 0)), none⟩,
    ⟨(some 34), (.len .slice (.t 33)), none⟩,
    ⟨(some 35), (.bin .lss (.t 32) (.t 34)), none⟩,
    ⟨(some 36), (.mv (.t 35)), none⟩,
    ⟨(some 37), (.mv (.t 5)), (some (36, true))⟩,
    ⟨(some 38), (.bin .lss (.t 37) (.k (.int .i64 120))), (some (36, true))⟩,
    ⟨(some 39), (.pick (.t 36) (.t 38) (.k (.bool false))), none⟩])
  (.cond (.t 39) .skip
  (.exit 0))) σ H (seqK (lxK cal φ N (veneerlaw07DescDoesC15 cVeneerlaw07Awake cDescNew cVeneerref07Own cVeneerDescTableOpen cVeneerVeneerref07TableOpen cVeneerDescTableClose cVeneerVeneerref07TableClose cVeneerref07Same cVeneerDescTableSet cVeneerVeneerref07TableSet cVeneerDescTableGet cVeneerVeneerref07TableGet cVeneerDescTableAll cVeneerVeneerref07TableAll cVeneerlaw07Ints cVeneerDescTableFull)) (kN (fun σ H => gN (lk σ 0) (lk σ 3) (lk σ 4) (lk σ 5) H) (kE 0 (fun σ H => gE0 (lk σ 3) (lk σ 4) H) (kR (resK [(.tmp 2)] []) k)))) = _
  rw [seqK_mk (g := fun σ H => veneerlaw07DescDoesC15S cal φ N cVeneerlaw07Awake cDescNew cVeneerref07Own cVeneerDescTableOpen cVeneerVeneerref07TableOpen cVeneerDescTableClose cVeneerVeneerref07TableClose cVeneerref07Same cVeneerDescTableSet cVeneerVeneerref07TableSet cVeneerDescTableGet cVeneerVeneerref07TableGet cVeneerDescTableAll cVeneerVeneerref07TableAll cVeneerlaw07Ints cVeneerDescTableFull (fun v0 v3 v4 v5 H => gN v0 v3 v4 v5 H) (lk σ 0) (lk σ 3) (lk σ 4) (lk σ 5) H) (veneerlaw07DescDoesC15Eq cal φ N cVeneerlaw07Awake cDescNew cVeneerref07Own cVeneerDescTableOpen cVeneerVeneerref07TableOpen cVeneerDescTableClose cVeneerVeneerref07TableClose cVeneerref07Same cVeneerDescTableSet cVeneerVeneerref07TableSet cVeneerDescTableGet cVeneerVeneerref07TableGet cVeneerDescTableAll cVeneerVeneerref07TableAll cVeneerlaw07Ints cVeneerDescTableFull (k := (kN (fun σ H => gN (lk σ 0) (lk σ 3) (lk σ 4) (lk σ 5) H) (kE 0 (fun σ H => gE0 (lk σ 3) (lk σ 4) H) (kR (resK [(.tmp 2)] []) k)))) (fun v0 v3 v4 v5 H => gN v0 v3 v4 v5 H) (fun _ _ => rfl) (fun _ _ => rfl))]
  kernel_rfl
def veneerlaw07DescDoesC17S (cal : FuncId → Bool) (φ : Oracle) (N : Nat) (cVeneerlaw07Awake cDescNew cVeneerref07Own cVeneerDescTableOpen cVeneerVeneerref07TableOpen cVeneerDescTableClose cVeneerVeneerref07TableClose cVeneerref07Same cVeneerDescTableSet cVeneerVeneerref07TableSet cVeneerDescTableGet cVeneerVeneerref07TableGet cVeneerDescTableAll cVeneerVeneerref07TableAll cVeneerlaw07Ints cVeneerDescTableFull : FuncId) (gE0 : IV → IV → Heap → Option (IV × Heap)) : Nat → IV → IV → IV → IV → Heap → Option (IV × Heap)
  | 0, _, _, _, _, _ => none
  | n + 1, v0, v3, v4, v5, H =>
    veneerlaw07DescDoesC16S cal φ N cVeneerlaw07Awake cDescNew cVeneerref07Own cVeneerDescTableOpen cVeneerVeneerref07TableOpen cVeneerDescTableClose cVeneerVeneerref07TableClose cVeneerref07Same cVeneerDescTableSet cVeneerVeneerref07TableSet cVeneerDescTableGet cVeneerVeneerref07TableGet cVeneerDescTableAll cVeneerVeneerref07TableAll cVeneerlaw07Ints cVeneerDescTableFull (fun v3 v4 H => gE0 v3 v4 H) (fun v0 v3 v4 v5 H => veneerlaw07DescDoesC17S cal φ N cVeneerlaw07Awake cDescNew cVeneerref07Own cVeneerDescTableOpen cVeneerVeneerref07TableOpen cVeneerDescTableClose cVeneerVeneerref07TableClose cVeneerref07Same cVeneerDescTableSet cVeneerVeneerref07TableSet cVeneerDescTableGet cVeneerVeneerref07TableGet cVeneerDescTableAll cVeneerVeneerref07TableAll cVeneerlaw07Ints cVeneerDescTableFull gE0 n v0 v3 v4 v5 H) v0 v3 v4 v5 H
theorem veneerlaw07DescDoesC17Eq (cal : FuncId → Bool) (φ : Oracle) (N : Nat) (cVeneerlaw07Awake cDescNew cVeneerref07Own cVeneerDescTableOpen cVeneerVeneerref07TableOpen cVeneerDescTableClose cVeneerVeneerref07TableClose cVeneerref07Same cVeneerDescTableSet cVeneerVeneerref07TableSet cVeneerDescTableGet cVeneerVeneerref07TableGet cVeneerDescTableAll cVeneerVeneerref07TableAll cVeneerlaw07Ints cVeneerDescTableFull : FuncId) {k : KT (IV × Heap)} (gE0 : IV → IV → Heap → Option (IV × Heap)) (hgE0 : ∀ σ H, k (.exit 0) σ H = gE0 (lk σ 3) (lk σ 4) H) (hR : ∀ σ H, k .ret σ H = resK [(.tmp 2)] [] σ H) : ∀ (n : Nat) (σ : Sg) (H : Heap), itK (lxK cal φ N (veneerlaw07DescDoesC16 cVeneerlaw07Awake cDescNew cVeneerref07Own cVeneerDescTableOpen cVeneerVeneerref07TableOpen cVeneerDescTableClose cVeneerVeneerref07TableClose cVeneerref07Same cVeneerDescTableSet cVeneerVeneerref07TableSet cVeneerDescTableGet cVeneerVeneerref07TableGet cVeneerDescTableAll cVeneerVeneerref07TableAll cVeneerlaw07Ints cVeneerDescTableFull)) n σ H k = veneerlaw07DescDoesC17S cal φ N cVeneerlaw07Awake cDescNew cVeneerref07Own cVeneerDescTableOpen cVeneerVeneerref07TableOpen cVeneerDescTableClose cVeneerVeneerref07TableClose cVeneerref07Same cVeneerDescTableSet cVeneerVeneerref07TableSet cVeneerDescTableGet cVeneerVeneerref07TableGet cVeneerDescTableAll cVeneerVeneerref07TableAll cVeneerlaw07Ints cVeneerDescTableFull gE0 n (lk σ 0) (lk σ 3) (lk σ 4) (lk σ 5) H := by
  have hk : k = (kE 0 (fun σ H => gE0 (lk σ 3) (lk σ 4) H) (kR (resK [(.tmp 2)] []) k)) := (kE_mk hgE0 (kR_mk hR rfl))
  intro n
  induction n with
  | zero => intro σ H; rfl
  | succ n ih =>
    intro σ H
    rw [itK_succ, seqK_mk (g := fun σ H => veneerlaw07DescDoesC17S cal φ N cVeneerlaw07Awake cDescNew cVeneerref07Own cVeneerDescTableOpen cVeneerVeneerref07TableOpen cVeneerDescTableClose cVeneerVeneerref07TableClose cVeneerref07Same cVeneerDescTableSet cVeneerVeneerref07TableSet cVeneerDescTableGet cVeneerVeneerref07TableGet cVeneerDescTableAll cVeneerVeneerref07TableAll cVeneerlaw07Ints cVeneerDescTableFull gE0 n (lk σ 0) (lk σ 3) (lk σ 4) (lk σ 5) H) ih, hk]
    exact veneerlaw07DescDoesC16Eq cal φ N cVeneerlaw07Awake cDescNew cVeneerref07Own cVeneerDescTableOpen cVeneerVeneerref07TableOpen cVeneerDescTableClose cVeneerVeneerref07TableClose cVeneerref07Same cVeneerDescTableSet cVeneerVeneerref07TableSet cVeneerDescTableGet cVeneerVeneerref07TableGet cVeneerDescTableAll cVeneerVeneerref07TableAll cVeneerlaw07Ints cVeneerDescTableFull (k := (kN (fun σ H => veneerlaw07DescDoesC17S cal φ N cVeneerlaw07Awake cDescNew cVeneerref07Own cVeneerDescTableOpen cVeneerVeneerref07TableOpen cVeneerDescTableClose cVeneerVeneerref07TableClose cVeneerref07Same cVeneerDescTableSet cVeneerVeneerref07TableSet cVeneerDescTableGet cVeneerVeneerref07TableGet cVeneerDescTableAll cVeneerVeneerref07TableAll cVeneerlaw07Ints cVeneerDescTableFull gE0 n (lk σ 0) (lk σ 3) (lk σ 4) (lk σ 5) H) (kE 0 (fun σ H => gE0 (lk σ 3) (lk σ 4) H) (kR (resK [(.tmp 2)] []) k)))) (fun v3 v4 H => gE0 v3 v4 H) (fun v0 v3 v4 v5 H => veneerlaw07DescDoesC17S cal φ N cVeneerlaw07Awake cDescNew cVeneerref07Own cVeneerDescTableOpen cVeneerVeneerref07TableOpen cVeneerDescTableClose cVeneerVeneerref07TableClose cVeneerref07Same cVeneerDescTableSet cVeneerVeneerref07TableSet cVeneerDescTableGet cVeneerVeneerref07TableGet cVeneerDescTableAll cVeneerVeneerref07TableAll cVeneerlaw07Ints cVeneerDescTableFull gE0 n v0 v3 v4 v5 H) (fun _ _ => rfl) (fun _ _ => rfl) (fun _ _ => rfl) σ H
def veneerlaw07DescDoesC18S (cal : FuncId → Bool) (φ : Oracle) (N : Nat) (cVeneerlaw07Awake cDescNew cVeneerref07Own cVeneerDescTableOpen cVeneerVeneerref07TableOpen cVeneerDescTableClose cVeneerVeneerref07TableClose cVeneerref07Same cVeneerDescTableSet cVeneerVeneerref07TableSet cVeneerDescTableGet cVeneerVeneerref07TableGet cVeneerDescTableAll cVeneerVeneerref07TableAll cVeneerlaw07Ints cVeneerDescTableFull : FuncId) (gN : IV → IV → Heap → Option (IV × Heap)) (v0 v3 v4 v5 : IV) (H : Heap) : Option (IV × Heap) :=
    veneerlaw07DescDoesC17S cal φ N cVeneerlaw07Awake cDescNew cVeneerref07Own cVeneerDescTableOpen cVeneerVeneerref07TableOpen cVeneerDescTableClose cVeneerVeneerref07TableClose cVeneerref07Same cVeneerDescTableSet cVeneerVeneerref07TableSet cVeneerDescTableGet cVeneerVeneerref07TableGet cVeneerDescTableAll cVeneerVeneerref07TableAll cVeneerlaw07Ints cVeneerDescTableFull (fun v3 v4 H => gN v3 v4 H) N v0 v3 v4 v5 H
theorem veneerlaw07DescDoesC18Eq (cal : FuncId → Bool) (φ : Oracle) (N : Nat) (cVeneerlaw07Awake cDescNew cVeneerref07Own cVeneerDescTableOpen cVeneerVeneerref07TableOpen cVeneerDescTableClose cVeneerVeneerref07TableClose cVeneerref07Same cVeneerDescTableSet cVeneerVeneerref07TableSet cVeneerDescTableGet cVeneerVeneerref07TableGet cVeneerDescTableAll cVeneerVeneerref07TableAll cVeneerlaw07Ints cVeneerDescTableFull : FuncId) {k : KT (IV × Heap)} (gN : IV → IV → Heap → Option (IV × Heap)) (hgN : ∀ σ H, k .normal σ H = gN (lk σ 3) (lk σ 4) H) (hR : ∀ σ H, k .ret σ H = resK [(.tmp 2)] [] σ H) : ∀ (σ : Sg) (H : Heap), lxK cal φ N (veneerlaw07DescDoesC18 cVeneerlaw07Awake cDescNew cVeneerref07Own cVeneerDescTableOpen cVeneerVeneerref07TableOpen cVeneerDescTableClose cVeneerVeneerref07TableClose cVeneerref07Same cVeneerDescTableSet cVeneerVeneerref07TableSet cVeneerDescTableGet cVeneerVeneerref07TableGet cVeneerDescTableAll cVeneerVeneerref07TableAll cVeneerlaw07Ints cVeneerDescTableFull) σ H k = veneerlaw07DescDoesC18S cal φ N cVeneerlaw07Awake cDescNew cVeneerref07Own cVeneerDescTableOpen cVeneerVeneerref07TableOpen cVeneerDescTableClose cVeneerVeneerref07TableClose cVeneerref07Same cVeneerDescTableSet cVeneerVeneerref07TableSet cVeneerDescTableGet cVeneerVeneerref07TableGet cVeneerDescTableAll cVeneerVeneerref07TableAll cVeneerlaw07Ints cVeneerDescTableFull gN (lk σ 0) (lk σ 3) (lk σ 4) (lk σ 5) H := by
  have hk : k = (kN (fun σ H => gN (lk σ 3) (lk σ 4) H) (kR (resK [(.tmp 2)] []) k)) := (kN_mk hgN (kR_mk hR rfl))
  intro σ H
  rw [hk]
  show lxK cal φ N (veneerlaw07DescDoesC17 cVeneerlaw07Awake cDescNew cVeneerref07Own cVeneerDescTableOpen cVeneerVeneerref07TableOpen cVeneerDescTableClose cVeneerVeneerref07TableClose cVeneerref07Same cVeneerDescTableSet cVeneerVeneerref07TableSet cVeneerDescTableGet cVeneerVeneerref07TableGet cVeneerDescTableAll cVeneerVeneerref07TableAll cVeneerlaw07Ints cVeneerDescTableFull) σ H (blockK 0 (kN (fun σ H => gN (lk σ 3) (lk σ 4) H) (kR (resK [(.tmp 2)] []) k))) = _
  exact veneerlaw07DescDoesC17Eq cal φ N cVeneerlaw07Awake cDescNew cVeneerref07Own cVeneerDescTableOpen cVeneerVeneerref07TableOpen cVeneerDescTableClose cVeneerVeneerref07TableClose cVeneerref07Same cVeneerDescTableSet cVeneerVeneerref07TableSet cVeneerDescTableGet cVeneerVeneerref07TableGet cVeneerDescTableAll cVeneerVeneerref07TableAll cVeneerlaw07Ints cVeneerDescTableFull (k := (blockK 0 (kN (fun σ H => gN (lk σ 3) (lk σ 4) H) (kR (resK [(.tmp 2)] []) k)))) (fun v3 v4 H => gN v3 v4 H) (fun _ _ => rfl) (fun _ _ => rfl) N σ H
def veneerlaw07DescDoesC19S (cal : FuncId → Bool) (φ : Oracle) (N : Nat) (cVeneerlaw07Awake cDescNew cVeneerref07Own cVeneerDescTableOpen cVeneerVeneerref07TableOpen cVeneerDescTableClose cVeneerVeneerref07TableClose cVeneerref07Same cVeneerDescTableSet cVeneerVeneerref07TableSet cVeneerDescTableGet cVeneerVeneerref07TableGet cVeneerDescTableAll cVeneerVeneerref07TableAll cVeneerlaw07Ints cVeneerDescTableFull : FuncId) (gN : IV → IV → Heap → Option (IV × Heap)) (v0 v3 v4 : IV) (H : Heap) : Option (IV × Heap) :=
    veneerlaw07DescDoesC18S cal φ N cVeneerlaw07Awake cDescNew cVeneerref07Own cVeneerDescTableOpen cVeneerVeneerref07TableOpen cVeneerDescTableClose cVeneerVeneerref07TableClose cVeneerref07Same cVeneerDescTableSet cVeneerVeneerref07TableSet cVeneerDescTableGet cVeneerVeneerref07TableGet cVeneerDescTableAll cVeneerVeneerref07TableAll cVeneerlaw07Ints cVeneerDescTableFull (fun v3 v4 H => gN v3 v4 H) v0 v3 v4 (.int .i64 0) H
theorem veneerlaw07DescDoesC19Eq (cal : FuncId → Bool) (φ : Oracle) (N : Nat) (cVeneerlaw07Awake cDescNew cVeneerref07Own cVeneerDescTableOpen cVeneerVeneerref07TableOpen cVeneerDescTableClose cVeneerVeneerref07TableClose cVeneerref07Same cVeneerDescTableSet cVeneerVeneerref07TableSet cVeneerDescTableGet cVeneerVeneerref07TableGet cVeneerDescTableAll cVeneerVeneerref07TableAll cVeneerlaw07Ints cVeneerDescTableFull : FuncId) {k : KT (IV × Heap)} (gN : IV → IV → Heap → Option (IV × Heap)) (hgN : ∀ σ H, k .normal σ H = gN (lk σ 3) (lk σ 4) H) (hR : ∀ σ H, k .ret σ H = resK [(.tmp 2)] [] σ H) : ∀ (σ : Sg) (H : Heap), lxK cal φ N (veneerlaw07DescDoesC19 cVeneerlaw07Awake cDescNew cVeneerref07Own cVeneerDescTableOpen cVeneerVeneerref07TableOpen cVeneerDescTableClose cVeneerVeneerref07TableClose cVeneerref07Same cVeneerDescTableSet cVeneerVeneerref07TableSet cVeneerDescTableGet cVeneerVeneerref07TableGet cVeneerDescTableAll cVeneerVeneerref07TableAll cVeneerlaw07Ints cVeneerDescTableFull) σ H k = veneerlaw07DescDoesC19S cal φ N cVeneerlaw07Awake cDescNew cVeneerref07Own cVeneerDescTableOpen cVeneerVeneerref07TableOpen cVeneerDescTableClose cVeneerVeneerref07TableClose cVeneerref07Same cVeneerDescTableSet cVeneerVeneerref07TableSet cVeneerDescTableGet cVeneerVeneerref07TableGet cVeneerDescTableAll cVeneerVeneerref07TableAll cVeneerlaw07Ints cVeneerDescTableFull gN (lk σ 0) (lk σ 3) (lk σ 4) H := by
  have hk : k = (kN (fun σ H => gN (lk σ 3) (lk σ 4) H) (kR (resK [(.tmp 2)] []) k)) := (kN_mk hgN (kR_mk hR rfl))
  intro σ H
  rw [hk]
  show lxK cal φ N (.reg [
    ⟨(some 5), (.mv (.k (.int .i64 0))), none⟩]) σ H (seqK (lxK cal φ N (veneerlaw07DescDoesC18 cVeneerlaw07Awake cDescNew cVeneerref07Own cVeneerDescTableOpen cVeneerVeneerref07TableOpen cVeneerDescTableClose cVeneerVeneerref07TableClose cVeneerref07Same cVeneerDescTableSet cVeneerVeneerref07TableSet cVeneerDescTableGet cVeneerVeneerref07TableGet cVeneerDescTableAll cVeneerVeneerref07TableAll cVeneerlaw07Ints cVeneerDescTableFull)) (kN (fun σ H => gN (lk σ 3) (lk σ 4) H) (kR (resK [(.tmp 2)] []) k))) = _
  rw [seqK_mk (g := fun σ H => veneerlaw07DescDoesC18S cal φ N cVeneerlaw07Awake cDescNew cVeneerref07Own cVeneerDescTableOpen cVeneerVeneerref07TableOpen cVeneerDescTableClose cVeneerVeneerref07TableClose cVeneerref07Same cVeneerDescTableSet cVeneerVeneerref07TableSet cVeneerDescTableGet cVeneerVeneerref07TableGet cVeneerDescTableAll cVeneerVeneerref07TableAll cVeneerlaw07Ints cVeneerDescTableFull (fun v3 v4 H => gN v3 v4 H) (lk σ 0) (lk σ 3) (lk σ 4) (lk σ 5) H) (veneerlaw07DescDoesC18Eq cal φ N cVeneerlaw07Awake cDescNew cVeneerref07Own cVeneerDescTableOpen cVeneerVeneerref07TableOpen cVeneerDescTableClose cVeneerVeneerref07TableClose cVeneerref07Same cVeneerDescTableSet cVeneerVeneerref07TableSet cVeneerDescTableGet cVeneerVeneerref07TableGet cVeneerDescTableAll cVeneerVeneerref07TableAll cVeneerlaw07Ints cVeneerDescTableFull (k := (kN (fun σ H => gN (lk σ 3) (lk σ 4) H) (kR (resK [(.tmp 2)] []) k))) (fun v3 v4 H => gN v3 v4 H) (fun _ _ => rfl) (fun _ _ => rfl))]
  kernel_rfl
def veneerlaw07DescDoesC24S (cal : FuncId → Bool) (φ : Oracle) (N : Nat) (cVeneerlaw07Awake cDescNew cVeneerref07Own cVeneerDescTableOpen cVeneerVeneerref07TableOpen cVeneerDescTableClose cVeneerVeneerref07TableClose cVeneerref07Same cVeneerDescTableSet cVeneerVeneerref07TableSet cVeneerDescTableGet cVeneerVeneerref07TableGet cVeneerDescTableAll cVeneerVeneerref07TableAll cVeneerlaw07Ints cVeneerDescTableFull : FuncId) (v0 v3 v4 : IV) (H : Heap) : Option (IV × Heap) :=
    veneerlaw07DescDoesC19S cal φ N cVeneerlaw07Awake cDescNew cVeneerref07Own cVeneerDescTableOpen cVeneerVeneerref07TableOpen cVeneerDescTableClose cVeneerVeneerref07TableClose cVeneerref07Same cVeneerDescTableSet cVeneerVeneerref07TableSet cVeneerDescTableGet cVeneerVeneerref07TableGet cVeneerDescTableAll cVeneerVeneerref07TableAll cVeneerlaw07Ints cVeneerDescTableFull (fun v3 v4 H => veneerlaw07DescDoesC23S cal φ N cVeneerlaw07Awake cDescNew cVeneerref07Own cVeneerDescTableOpen cVeneerVeneerref07TableOpen cVeneerDescTableClose cVeneerVeneerref07TableClose cVeneerref07Same cVeneerDescTableSet cVeneerVeneerref07TableSet cVeneerDescTableGet cVeneerVeneerref07TableGet cVeneerDescTableAll cVeneerVeneerref07TableAll cVeneerlaw07Ints cVeneerDescTableFull v3 v4 H) v0 v3 v4 H
theorem veneerlaw07DescDoesC24Eq (cal : FuncId → Bool) (φ : Oracle) (N : Nat) (cVeneerlaw07Awake cDescNew cVeneerref07Own cVeneerDescTableOpen cVeneerVeneerref07TableOpen cVeneerDescTableClose cVeneerVeneerref07TableClose cVeneerref07Same cVeneerDescTableSet cVeneerVeneerref07TableSet cVeneerDescTableGet cVeneerVeneerref07TableGet cVeneerDescTableAll cVeneerVeneerref07TableAll cVeneerlaw07Ints cVeneerDescTableFull : FuncId) {k : KT (IV × Heap)} (hR : ∀ σ H, k .ret σ H = resK [(.tmp 2)] [] σ H) : ∀ (σ : Sg) (H : Heap), lxK cal φ N (veneerlaw07DescDoesC24 cVeneerlaw07Awake cDescNew cVeneerref07Own cVeneerDescTableOpen cVeneerVeneerref07TableOpen cVeneerDescTableClose cVeneerVeneerref07TableClose cVeneerref07Same cVeneerDescTableSet cVeneerVeneerref07TableSet cVeneerDescTableGet cVeneerVeneerref07TableGet cVeneerDescTableAll cVeneerVeneerref07TableAll cVeneerlaw07Ints cVeneerDescTableFull) σ H k = veneerlaw07DescDoesC24S cal φ N cVeneerlaw07Awake cDescNew cVeneerref07Own cVeneerDescTableOpen cVeneerVeneerref07TableOpen cVeneerDescTableClose cVeneerVeneerref07TableClose cVeneerref07Same cVeneerDescTableSet cVeneerVeneerref07TableSet cVeneerDescTableGet cVeneerVeneerref07TableGet cVeneerDescTableAll cVeneerVeneerref07TableAll cVeneerlaw07Ints cVeneerDescTableFull (lk σ 0) (lk σ 3) (lk σ 4) H := by
  have hk : k = (kR (resK [(.tmp 2)] []) k) := (kR_mk hR rfl)
  intro σ H
  rw [hk]
  show lxK cal φ N (veneerlaw07DescDoesC19 cVeneerlaw07Awake cDescNew cVeneerref07Own cVeneerDescTableOpen cVeneerVeneerref07TableOpen cVeneerDescTableClose cVeneerVeneerref07TableClose cVeneerref07Same cVeneerDescTableSet cVeneerVeneerref07TableSet cVeneerDescTableGet cVeneerVeneerref07TableGet cVeneerDescTableAll cVeneerVeneerref07TableAll cVeneerlaw07Ints cVeneerDescTableFull) σ H (seqK (lxK cal φ N (veneerlaw07DescDoesC23 cVeneerlaw07Awake cDescNew cVeneerref07Own cVeneerDescTableOpen cVeneerVeneerref07TableOpen cVeneerDescTableClose cVeneerVeneerref07TableClose cVeneerref07Same cVeneerDescTableSet cVeneerVeneerref07TableSet cVeneerDescTableGet cVeneerVeneerref07TableGet cVeneerDescTableAll cVeneerVeneerref07TableAll cVeneerlaw07Ints cVeneerDescTableFull)) (kR (resK [(.tmp 2)] []) k)) = _
  rw [seqK_mk (g := fun σ H => veneerlaw07DescDoesC23S cal φ N cVeneerlaw07Awake cDescNew cVeneerref07Own cVeneerDescTableOpen cVeneerVeneerref07TableOpen cVeneerDescTableClose cVeneerVeneerref07TableClose cVeneerref07Same cVeneerDescTableSet cVeneerVeneerref07TableSet cVeneerDescTableGet cVeneerVeneerref07TableGet cVeneerDescTableAll cVeneerVeneerref07TableAll cVeneerlaw07Ints cVeneerDescTableFull (lk σ 3) (lk σ 4) H) (veneerlaw07DescDoesC23Eq cal φ N cVeneerlaw07Awake cDescNew cVeneerref07Own cVeneerDescTableOpen cVeneerVeneerref07TableOpen cVeneerDescTableClose cVeneerVeneerref07TableClose cVeneerref07Same cVeneerDescTableSet cVeneerVeneerref07TableSet cVeneerDescTableGet cVeneerVeneerref07TableGet cVeneerDescTableAll cVeneerVeneerref07TableAll cVeneerlaw07Ints cVeneerDescTableFull (k := (kR (resK [(.tmp 2)] []) k)) (fun _ _ => rfl))]
  exact veneerlaw07DescDoesC19Eq cal φ N cVeneerlaw07Awake cDescNew cVeneerref07Own cVeneerDescTableOpen cVeneerVeneerref07TableOpen cVeneerDescTableClose cVeneerVeneerref07TableClose cVeneerref07Same cVeneerDescTableSet cVeneerVeneerref07TableSet cVeneerDescTableGet cVeneerVeneerref07TableGet cVeneerDescTableAll cVeneerVeneerref07TableAll cVeneerlaw07Ints cVeneerDescTableFull (k := (kN (fun σ H => veneerlaw07DescDoesC23S cal φ N cVeneerlaw07Awake cDescNew cVeneerref07Own cVeneerDescTableOpen cVeneerVeneerref07TableOpen cVeneerDescTableClose cVeneerVeneerref07TableClose cVeneerref07Same cVeneerDescTableSet cVeneerVeneerref07TableSet cVeneerDescTableGet cVeneerVeneerref07TableGet cVeneerDescTableAll cVeneerVeneerref07TableAll cVeneerlaw07Ints cVeneerDescTableFull (lk σ 3) (lk σ 4) H) (kR (resK [(.tmp 2)] []) k))) (fun v3 v4 H => veneerlaw07DescDoesC23S cal φ N cVeneerlaw07Awake cDescNew cVeneerref07Own cVeneerDescTableOpen cVeneerVeneerref07TableOpen cVeneerDescTableClose cVeneerVeneerref07TableClose cVeneerref07Same cVeneerDescTableSet cVeneerVeneerref07TableSet cVeneerDescTableGet cVeneerVeneerref07TableGet cVeneerDescTableAll cVeneerVeneerref07TableAll cVeneerlaw07Ints cVeneerDescTableFull v3 v4 H) (fun _ _ => rfl) (fun _ _ => rfl) σ H
def veneerlaw07DescDoesC25S (cal : FuncId → Bool) (φ : Oracle) (N : Nat) (cVeneerlaw07Awake cDescNew cVeneerref07Own cVeneerDescTableOpen cVeneerVeneerref07TableOpen cVeneerDescTableClose cVeneerVeneerref07TableClose cVeneerref07Same cVeneerDescTableSet cVeneerVeneerref07TableSet cVeneerDescTableGet cVeneerVeneerref07TableGet cVeneerDescTableAll cVeneerVeneerref07TableAll cVeneerlaw07Ints cVeneerDescTableFull : FuncId) (v0 v3 : IV) (H : Heap) : Option (IV × Heap) :=
    ob (lbld [(.bool false), (.bool false), (.bool false), (.bool false), (.bool false), (.bool false), (.bool false), (.bool false), (.bool false), (.bool false), (.bool false), (.bool false), (.bool false), (.bool false), (.bool false), (.bool false), (.bool false), (.bool false), (.bool false), (.bool false), (.bool false), (.bool false), (.bool false), (.bool false), (.bool false), (.bool false), (.bool false), (.bool false), (.bool false), (.bool false), (.bool false), (.bool false), (.int .i64 0), (.int .i64 0), (.int .i64 0), (.bool false), .nilSlice, (.int .i64 0), (.int .i64 0), (.int .i64 0), (.int .i64 0), (.bool false), .nilSlice, (.int .i64 0), (.int .i64 0), (.int .i64 0), (.int .i64 0), (.bool false), .nilSlice, (.int .i64 0), (.int .i64 0), (.int .i64 0), (.int .i64 0), (.bool false), .nilSlice, (.int .i64 0), (.int .i64 0), (.int .i64 0), (.int .i64 0), (.bool false), .nilSlice, (.int .i64 0), (.int .i64 0), (.int .i64 0), (.int .i64 0), (.bool false), .nilSlice, (.int .i64 0), (.int .i64 0), (.int .i64 0), (.int .i64 0), (.bool false), .nilSlice, (.int .i64 0), (.int .i64 0), (.int .i64 0), (.int .i64 0), (.bool false), .nilSlice, (.int .i64 0), (.int .i64 0), (.int .i64 0), (.int .i64 0), (.bool false), .nilSlice, (.int .i64 0), (.int .i64 0), (.int .i64 0), (.int .i64 0), (.bool false), .nilSlice, (.int .i64 0), (.int .i64 0), (.int .i64 0), (.int .i64 0), (.bool false), .nilSlice, (.int .i64 0), (.int .i64 0), (.int .i64 0), (.int .i64 0), (.bool false), .nilSlice, (.int .i64 0), (.int .i64 0), (.int .i64 0), (.int .i64 0), (.bool false), .nilSlice, (.int .i64 0), (.int .i64 0), (.int .i64 0), (.int .i64 0), (.bool false), .nilSlice, (.int .i64 0), (.int .i64 0), (.int .i64 0), (.int .i64 0), (.bool false), .nilSlice, (.int .i64 0), (.int .i64 0), (.int .i64 0), (.int .i64 0), (.bool false), .nilSlice, (.int .i64 0), (.int .i64 0), (.int .i64 0), (.int .i64 0), (.bool false), .nilSlice, (.int .i64 0), (.int .i64 0), (.int .i64 0), (.int .i64 0), (.bool false), .nilSlice, (.int .i64 0), (.int .i64 0), (.int .i64 0), (.int .i64 0), (.bool false), .nilSlice, (.int .i64 0), (.int .i64 0), (.int .i64 0), (.int .i64 0), (.bool false), .nilSlice, (.int .i64 0), (.int .i64 0), (.int .i64 0), (.int .i64 0), (.bool false), .nilSlice, (.int .i64 0), (.int .i64 0), (.int .i64 0), (.int .i64 0), (.bool false), .nilSlice, (.int .i64 0), (.int .i64 0), (.int .i64 0), (.int .i64 0), (.bool false), .nilSlice, (.int .i64 0), (.int .i64 0), (.int .i64 0), (.int .i64 0), (.bool false), .nilSlice, (.int .i64 0), (.int .i64 0), (.int .i64 0), (.int .i64 0), (.bool false), .nilSlice, (.int .i64 0), (.int .i64 0), (.int .i64 0), (.int .i64 0), (.bool false), .nilSlice, (.int .i64 0), (.int .i64 0), (.int .i64 0), (.int .i64 0), (.bool false), .nilSlice, (.int .i64 0), (.int .i64 0), (.int .i64 0), (.int .i64 0), (.bool false), .nilSlice, (.int .i64 0), (.int .i64 0), (.int .i64 0), (.int .i64 0), (.bool false), .nilSlice, (.int .i64 0), (.int .i64 0), (.int .i64 0), (.int .i64 0), (.bool false), .nilSlice, (.int .i64 0), (.int .i64 0), (.int .i64 0), (.int .i64 0), (.bool false), .nilSlice, (.int .i64 0), (.int .i64 0), (.int .i64 0), (.int .i64 0), (.bool false), .nilSlice, (.int .i64 0)] []) fun t1 =>
    ob (lbox H t1) fun r2 =>
    veneerlaw07DescDoesC24S cal φ N cVeneerlaw07Awake cDescNew cVeneerref07Own cVeneerDescTableOpen cVeneerVeneerref07TableOpen cVeneerDescTableClose cVeneerVeneerref07TableClose cVeneerref07Same cVeneerDescTableSet cVeneerVeneerref07TableSet cVeneerDescTableGet cVeneerVeneerref07TableGet cVeneerDescTableAll cVeneerVeneerref07TableAll cVeneerlaw07Ints cVeneerDescTableFull v0 v3 r2.1 r2.2
theorem veneerlaw07DescDoesC25Eq (cal : FuncId → Bool) (φ : Oracle) (N : Nat) (cVeneerlaw07Awake cDescNew cVeneerref07Own cVeneerDescTableOpen cVeneerVeneerref07TableOpen cVeneerDescTableClose cVeneerVeneerref07TableClose cVeneerref07Same cVeneerDescTableSet cVeneerVeneerref07TableSet cVeneerDescTableGet cVeneerVeneerref07TableGet cVeneerDescTableAll cVeneerVeneerref07TableAll cVeneerlaw07Ints cVeneerDescTableFull : FuncId) {k : KT (IV × Heap)} (hR : ∀ σ H, k .ret σ H = resK [(.tmp 2)] [] σ H) : ∀ (σ : Sg) (H : Heap), lxK cal φ N (veneerlaw07DescDoesC25 cVeneerlaw07Awake cDescNew cVeneerref07Own cVeneerDescTableOpen cVeneerVeneerref07TableOpen cVeneerDescTableClose cVeneerVeneerref07TableClose cVeneerref07Same cVeneerDescTableSet cVeneerVeneerref07TableSet cVeneerDescTableGet cVeneerVeneerref07TableGet cVeneerDescTableAll cVeneerVeneerref07TableAll cVeneerlaw07Ints cVeneerDescTableFull) σ H k = veneerlaw07DescDoesC25S cal φ N cVeneerlaw07Awake cDescNew cVeneerref07Own cVeneerDescTableOpen cVeneerVeneerref07TableOpen cVeneerDescTableClose cVeneerVeneerref07TableClose cVeneerref07Same cVeneerDescTableSet cVeneerVeneerref07TableSet cVeneerDescTableGet cVeneerVeneerref07TableGet cVeneerDescTableAll cVeneerVeneerref07TableAll cVeneerlaw07Ints cVeneerDescTableFull (lk σ 0) (lk σ 3) H := by
  have hk : k = (kR (resK [(.tmp 2)] []) k) := (kR_mk hR rfl)
  intro σ H
  rw [hk]
  show lxK cal φ N (.reg [
    ⟨(some 30), (.bld [(.bool false), (.bool false), (.bool false), (.bool false), (.bool false), (.bool false), (.bool false), (.bool false), (.bool false), (.bool false), (.bool false), (.bool false), (.bool false), (.bool false), (.bool false), (.bool false), (.bool false), (.bool false), (.bool false), (.bool false), (.bool false), (.bool false), (.bool false), (.bool false), (.bool false), (.bool false), (.bool false), (.bool false), (.bool false), (.bool false), (.bool false), (.bool false), (.int .i64 0), (.int .i64 0), (.int .i64 0), (.bool false), .nilSlice, (.int .i64 0), (.int .i64 0), (.int .i64 0), (.int .i64 0), (.bool false), .nilSlice, (.int .i64 0), (.int .i64 0), (.int .i64 0), (.int .i64 0), (.bool false), .nilSlice, (.int .i64 0), (.int .i64 0), (.int .i64 0), (.int .i64 0), (.bool false), .nilSlice, (.int .i64 0), (.int .i64 0), (.int .i64 0), (.int .i64 0), (.bool false), .nilSlice, (.int .i64 0), (.int .i64 0), (.int .i64 0), (.int .i64 0), (.bool false), .nilSlice, (.int .i64 0), (.int .i64 0), (.int .i64 0), (.int .i64 0), (.bool false), .nilSlice, (.int .i64 0), (.int .i64 0), (.int .i64 0), (.int .i64 0), (.bool false), .nilSlice, (.int .i64 0), (.int .i64 0), (.int .i64 0), (.int .i64 0), (.bool false), .nilSlice, (.int .i64 0), (.int .i64 0), (.int .i64 0), (.int .i64 0), (.bool false), .nilSlice, (.int .i64 0), (.int .i64 0), (.int .i64 0), (.int .i64 0), (.bool false), .nilSlice, (.int .i64 0), (.int .i64 0), (.int .i64 0), (.int .i64 0), (.bool false), .nilSlice, (.int .i64 0), (.int .i64 0), (.int .i64 0), (.int .i64 0), (.bool false), .nilSlice, (.int .i64 0), (.int .i64 0), (.int .i64 0), (.int .i64 0), (.bool false), .nilSlice, (.int .i64 0), (.int .i64 0), (.int .i64 0), (.int .i64 0), (.bool false), .nilSlice, (.int .i64 0), (.int .i64 0), (.int .i64 0), (.int .i64 0), (.bool false), .nilSlice, (.int .i64 0), (.int .i64 0), (.int .i64 0), (.int .i64 0), (.bool false), .nilSlice, (.int .i64 0), (.int .i64 0), (.int .i64 0), (.int .i64 0), (.bool false), .nilSlice, (.int .i64 0), (.int .i64 0), (.int .i64 0), (.int .i64 0), (.bool false), .nilSlice, (.int .i64 0), (.int .i64 0), (.int .i64 0), (.int .i64 0), (.bool false), .nilSlice, (.int .i64 0), (.int .i64 0), (.int .i64 0), (.int .i64 0), (.bool false), .nilSlice, (.int .i64 0), (.int .i64 0), (.int .i64 0), (.int .i64 0), (.bool false), .nilSlice, (.int .i64 0), (.int .i64 0), (.int .i64 0), (.int .i64 0), (.bool false), .nilSlice, (.int .i64 0), (.int .i64 0), (.int .i64 0), (.int .i64 0), (.bool false), .nilSlice, (.int .i64 0), (.int .i64 0), (.int .i64 0), (.int .i64 0), (.bool false), .nilSlice, (.int .i64 0), (.int .i64 0), (.int .i64 0), (.int .i64 0), (.bool false), .nilSlice, (.int .i64 0), (.int .i64 0), (.int .i64 0), (.int .i64 0), (.bool false), .nilSlice, (.int .i64 0), (.int .i64 0), (.int .i64 0), (.int .i64 0), (.bool false), .nilSlice, (.int .i64 0), (.int .i64 0), (.int .i64 0), (.int .i64 0), (.bool false), .nilSlice, (.int .i64 0), (.int .i64 0), (.int .i64 0), (.int .i64 0), (.bool false), .nilSlice, (.int .i64 0), (.int .i64 0), (.int .i64 0), (.int .i64 0), (.bool false), .nilSlice, (.int .i64 0), (.int .i64 0), (.int .i64 0), (.int .i64 0), (.bool false), .nilSlice, (.int .i64 0)] []), none⟩,
    ⟨(some 31), (.box (.t 30)), none⟩,
    ⟨(some 4), (.mv (.t 31)), none⟩]) σ H (seqK (lxK cal φ N (veneerlaw07DescDoesC24 cVeneerlaw07Awake cDescNew cVeneerref07Own cVeneerDescTableOpen cVeneerVeneerref07TableOpen cVeneerDescTableClose cVeneerVeneerref07TableClose cVeneerref07Same cVeneerDescTableSet cVeneerVeneerref07TableSet cVeneerDescTableGet cVeneerVeneerref07TableGet cVeneerDescTableAll cVeneerVeneerref07TableAll cVeneerlaw07Ints cVeneerDescTableFull)) (kR (resK [(.tmp 2)] []) k)) = _
  rw [seqK_mk (g := fun σ H => veneerlaw07DescDoesC24S cal φ N cVeneerlaw07Awake cDescNew cVeneerref07Own cVeneerDescTableOpen cVeneerVeneerref07TableOpen cVeneerDescTableClose cVeneerVeneerref07TableClose cVeneerref07Same cVeneerDescTableSet cVeneerVeneerref07TableSet cVeneerDescTableGet cVeneerVeneerref07TableGet cVeneerDescTableAll cVeneerVeneerref07TableAll cVeneerlaw07Ints cVeneerDescTableFull (lk σ 0) (lk σ 3) (lk σ 4) H) (veneerlaw07DescDoesC24Eq cal φ N cVeneerlaw07Awake cDescNew cVeneerref07Own cVeneerDescTableOpen cVeneerVeneerref07TableOpen cVeneerDescTableClose cVeneerVeneerref07TableClose cVeneerref07Same cVeneerDescTableSet cVeneerVeneerref07TableSet cVeneerDescTableGet cVeneerVeneerref07TableGet cVeneerDescTableAll cVeneerVeneerref07TableAll cVeneerlaw07Ints cVeneerDescTableFull (k := (kR (resK [(.tmp 2)] []) k)) (fun _ _ => rfl))]
  kernel_rfl
def veneerlaw07DescDoesC26S (cal : FuncId → Bool) (φ : Oracle) (N : Nat) (cVeneerlaw07Awake cDescNew cVeneerref07Own cVeneerDescTableOpen cVeneerVeneerref07TableOpen cVeneerDescTableClose cVeneerVeneerref07TableClose cVeneerref07Same cVeneerDescTableSet cVeneerVeneerref07TableSet cVeneerDescTableGet cVeneerVeneerref07TableGet cVeneerDescTableAll cVeneerVeneerref07TableAll cVeneerlaw07Ints cVeneerDescTableFull : FuncId) (v0 : IV) (H : Heap) : Option (IV × Heap) :=
    ob (φ cDescNew [] H) fun r1 =>
    veneerlaw07DescDoesC25S cal φ N cVeneerlaw07Awake cDescNew cVeneerref07Own cVeneerDescTableOpen cVeneerVeneerref07TableOpen cVeneerDescTableClose cVeneerVeneerref07TableClose cVeneerref07Same cVeneerDescTableSet cVeneerVeneerref07TableSet cVeneerDescTableGet cVeneerVeneerref07TableGet cVeneerDescTableAll cVeneerVeneerref07TableAll cVeneerlaw07Ints cVeneerDescTableFull v0 r1.1 r1.2
theorem veneerlaw07DescDoesC26Eq (cal : FuncId → Bool) (φ : Oracle) (N : Nat) (cVeneerlaw07Awake cDescNew cVeneerref07Own cVeneerDescTableOpen cVeneerVeneerref07TableOpen cVeneerDescTableClose cVeneerVeneerref07TableClose cVeneerref07Same cVeneerDescTableSet cVeneerVeneerref07TableSet cVeneerDescTableGet cVeneerVeneerref07TableGet cVeneerDescTableAll cVeneerVeneerref07TableAll cVeneerlaw07Ints cVeneerDescTableFull : FuncId) {k : KT (IV × Heap)} (hR : ∀ σ H, k .ret σ H = resK [(.tmp 2)] [] σ H) : ∀ (σ : Sg) (H : Heap), lxK cal φ N (veneerlaw07DescDoesC26 cVeneerlaw07Awake cDescNew cVeneerref07Own cVeneerDescTableOpen cVeneerVeneerref07TableOpen cVeneerDescTableClose cVeneerVeneerref07TableClose cVeneerref07Same cVeneerDescTableSet cVeneerVeneerref07TableSet cVeneerDescTableGet cVeneerVeneerref07TableGet cVeneerDescTableAll cVeneerVeneerref07TableAll cVeneerlaw07Ints cVeneerDescTableFull) σ H k = veneerlaw07DescDoesC26S cal φ N cVeneerlaw07Awake cDescNew cVeneerref07Own cVeneerDescTableOpen cVeneerVeneerref07TableOpen cVeneerDescTableClose cVeneerVeneerref07TableClose cVeneerref07Same cVeneerDescTableSet cVeneerVeneerref07TableSet cVeneerDescTableGet cVeneerVeneerref07TableGet cVeneerDescTableAll cVeneerVeneerref07TableAll cVeneerlaw07Ints cVeneerDescTableFull (lk σ 0) H := by
  have hk : k = (kR (resK [(.tmp 2)] []) k) := (kR_mk hR rfl)
  intro σ H
  rw [hk]
  show lxK cal φ N (.reg [
    ⟨(some 29), (.callF cDescNew []), none⟩,
    ⟨(some 3), (.mv (.t 29)), none⟩]) σ H (seqK (lxK cal φ N (veneerlaw07DescDoesC25 cVeneerlaw07Awake cDescNew cVeneerref07Own cVeneerDescTableOpen cVeneerVeneerref07TableOpen cVeneerDescTableClose cVeneerVeneerref07TableClose cVeneerref07Same cVeneerDescTableSet cVeneerVeneerref07TableSet cVeneerDescTableGet cVeneerVeneerref07TableGet cVeneerDescTableAll cVeneerVeneerref07TableAll cVeneerlaw07Ints cVeneerDescTableFull)) (kR (resK [(.tmp 2)] []) k)) = _
  rw [seqK_mk (g := fun σ H => veneerlaw07DescDoesC25S cal φ N cVeneerlaw07Awake cDescNew cVeneerref07Own cVeneerDescTableOpen cVeneerVeneerref07TableOpen cVeneerDescTableClose cVeneerVeneerref07TableClose cVeneerref07Same cVeneerDescTableSet cVeneerVeneerref07TableSet cVeneerDescTableGet cVeneerVeneerref07TableGet cVeneerDescTableAll cVeneerVeneerref07TableAll cVeneerlaw07Ints cVeneerDescTableFull (lk σ 0) (lk σ 3) H) (veneerlaw07DescDoesC25Eq cal φ N cVeneerlaw07Awake cDescNew cVeneerref07Own cVeneerDescTableOpen cVeneerVeneerref07TableOpen cVeneerDescTableClose cVeneerVeneerref07TableClose cVeneerref07Same cVeneerDescTableSet cVeneerVeneerref07TableSet cVeneerDescTableGet cVeneerVeneerref07TableGet cVeneerDescTableAll cVeneerVeneerref07TableAll cVeneerlaw07Ints cVeneerDescTableFull (k := (kR (resK [(.tmp 2)] []) k)) (fun _ _ => rfl))]
  kernel_rfl
def veneerlaw07DescDoesC27S (cal : FuncId → Bool) (φ : Oracle) (N : Nat) (cVeneerlaw07Awake cDescNew cVeneerref07Own cVeneerDescTableOpen cVeneerVeneerref07TableOpen cVeneerDescTableClose cVeneerVeneerref07TableClose cVeneerref07Same cVeneerDescTableSet cVeneerVeneerref07TableSet cVeneerDescTableGet cVeneerVeneerref07TableGet cVeneerDescTableAll cVeneerVeneerref07TableAll cVeneerlaw07Ints cVeneerDescTableFull : FuncId) (v0 : IV) (H : Heap) : Option (IV × Heap) :=
    ob (φ cVeneerlaw07Awake [] H) fun r1 =>
    ob (iun .not r1.1) fun t2 =>
    cnd t2
    (some ((.bool false), r1.2))
    (veneerlaw07DescDoesC26S cal φ N cVeneerlaw07Awake cDescNew cVeneerref07Own cVeneerDescTableOpen cVeneerVeneerref07TableOpen cVeneerDescTableClose cVeneerVeneerref07TableClose cVeneerref07Same cVeneerDescTableSet cVeneerVeneerref07TableSet cVeneerDescTableGet cVeneerVeneerref07TableGet cVeneerDescTableAll cVeneerVeneerref07TableAll cVeneerlaw07Ints cVeneerDescTableFull v0 r1.2)
theorem veneerlaw07DescDoesC27Eq (cal : FuncId → Bool) (φ : Oracle) (N : Nat) (cVeneerlaw07Awake cDescNew cVeneerref07Own cVeneerDescTableOpen cVeneerVeneerref07TableOpen cVeneerDescTableClose cVeneerVeneerref07TableClose cVeneerref07Same cVeneerDescTableSet cVeneerVeneerref07TableSet cVeneerDescTableGet cVeneerVeneerref07TableGet cVeneerDescTableAll cVeneerVeneerref07TableAll cVeneerlaw07Ints cVeneerDescTableFull : FuncId) {k : KT (IV × Heap)} (hR : ∀ σ H, k .ret σ H = resK [(.tmp 2)] [] σ H) : ∀ (σ : Sg) (H : Heap), lxK cal φ N (veneerlaw07DescDoesC27 cVeneerlaw07Awake cDescNew cVeneerref07Own cVeneerDescTableOpen cVeneerVeneerref07TableOpen cVeneerDescTableClose cVeneerVeneerref07TableClose cVeneerref07Same cVeneerDescTableSet cVeneerVeneerref07TableSet cVeneerDescTableGet cVeneerVeneerref07TableGet cVeneerDescTableAll cVeneerVeneerref07TableAll cVeneerlaw07Ints cVeneerDescTableFull) σ H k = veneerlaw07DescDoesC27S cal φ N cVeneerlaw07Awake cDescNew cVeneerref07Own cVeneerDescTableOpen cVeneerVeneerref07TableOpen cVeneerDescTableClose cVeneerVeneerref07TableClose cVeneerref07Same cVeneerDescTableSet cVeneerVeneerref07TableSet cVeneerDescTableGet cVeneerVeneerref07TableGet cVeneerDescTableAll cVeneerVeneerref07TableAll cVeneerlaw07Ints cVeneerDescTableFull (lk σ 0) H := by
  have hk : k = (kR (resK [(.tmp 2)] []) k) := (kR_mk hR rfl)
  intro σ H
  rw [hk]
  show lxK cal φ N (.seq (.reg [
    ⟨(some 27), (.callF cVeneerlaw07Awake []), none⟩,
    ⟨(some 28), (.un .not (.t 27)), none⟩])
  (.cond (.t 28) (.seq (.reg [
    ⟨(some 2), (.mv (.k (.bool false))), none⟩])
  .ret)
  .skip)) σ H (seqK (lxK cal φ N (veneerlaw07DescDoesC26 cVeneerlaw07Awake cDescNew cVeneerref07Own cVeneerDescTableOpen cVeneerVeneerref07TableOpen cVeneerDescTableClose cVeneerVeneerref07TableClose cVeneerref07Same cVeneerDescTableSet cVeneerVeneerref07TableSet cVeneerDescTableGet cVeneerVeneerref07TableGet cVeneerDescTableAll cVeneerVeneerref07TableAll cVeneerlaw07Ints cVeneerDescTableFull)) (kR (resK [(.tmp 2)] []) k)) = _
  rw [seqK_mk (g := fun σ H => veneerlaw07DescDoesC26S cal φ N cVeneerlaw07Awake cDescNew cVeneerref07Own cVeneerDescTableOpen cVeneerVeneerref07TableOpen cVeneerDescTableClose cVeneerVeneerref07TableClose cVeneerref07Same cVeneerDescTableSet cVeneerVeneerref07TableSet cVeneerDescTableGet cVeneerVeneerref07TableGet cVeneerDescTableAll cVeneerVeneerref07TableAll cVeneerlaw07Ints cVeneerDescTableFull (lk σ 0) H) (veneerlaw07DescDoesC26Eq cal φ N cVeneerlaw07Awake cDescNew cVeneerref07Own cVeneerDescTableOpen cVeneerVeneerref07TableOpen cVeneerDescTableClose cVeneerVeneerref07TableClose cVeneerref07Same cVeneerDescTableSet cVeneerVeneerref07TableSet cVeneerDescTableGet cVeneerVeneerref07TableGet cVeneerDescTableAll cVeneerVeneerref07TableAll cVeneerlaw07Ints cVeneerDescTableFull (k := (kR (resK [(.tmp 2)] []) k)) (fun _ _ => rfl))]
  kernel_rfl
def veneerlaw07DescDoesC28S (cal : FuncId → Bool) (φ : Oracle) (N : Nat) (cVeneerlaw07Awake cDescNew cVeneerref07Own cVeneerDescTableOpen cVeneerVeneerref07TableOpen cVeneerDescTableClose cVeneerVeneerref07TableClose cVeneerref07Same cVeneerDescTableSet cVeneerVeneerref07TableSet cVeneerDescTableGet cVeneerVeneerref07TableGet cVeneerDescTableAll cVeneerVeneerref07TableAll cVeneerlaw07Ints cVeneerDescTableFull : FuncId) (v0 : IV) (H : Heap) : Option (IV × Heap) :=
    veneerlaw07DescDoesC27S cal φ N cVeneerlaw07Awake cDescNew cVeneerref07Own cVeneerDescTableOpen cVeneerVeneerref07TableOpen cVeneerDescTableClose cVeneerVeneerref07TableClose cVeneerref07Same cVeneerDescTableSet cVeneerVeneerref07TableSet cVeneerDescTableGet cVeneerVeneerref07TableGet cVeneerDescTableAll cVeneerVeneerref07TableAll cVeneerlaw07Ints cVeneerDescTableFull v0 H
theorem veneerlaw07DescDoesC28Eq (cal : FuncId → Bool) (φ : Oracle) (N : Nat) (cVeneerlaw07Awake cDescNew cVeneerref07Own cVeneerDescTableOpen cVeneerVeneerref07TableOpen cVeneerDescTableClose cVeneerVeneerref07TableClose cVeneerref07Same cVeneerDescTableSet cVeneerVeneerref07TableSet cVeneerDescTableGet cVeneerVeneerref07TableGet cVeneerDescTableAll cVeneerVeneerref07TableAll cVeneerlaw07Ints cVeneerDescTableFull : FuncId) {k : KT (IV × Heap)} (hR : ∀ σ H, k .ret σ H = resK [(.tmp 2)] [] σ H) : ∀ (σ : Sg) (H : Heap), lxK cal φ N (veneerlaw07DescDoesC28 cVeneerlaw07Awake cDescNew cVeneerref07Own cVeneerDescTableOpen cVeneerVeneerref07TableOpen cVeneerDescTableClose cVeneerVeneerref07TableClose cVeneerref07Same cVeneerDescTableSet cVeneerVeneerref07TableSet cVeneerDescTableGet cVeneerVeneerref07TableGet cVeneerDescTableAll cVeneerVeneerref07TableAll cVeneerlaw07Ints cVeneerDescTableFull) σ H k = veneerlaw07DescDoesC28S cal φ N cVeneerlaw07Awake cDescNew cVeneerref07Own cVeneerDescTableOpen cVeneerVeneerref07TableOpen cVeneerDescTableClose cVeneerVeneerref07TableClose cVeneerref07Same cVeneerDescTableSet cVeneerVeneerref07TableSet cVeneerDescTableGet cVeneerVeneerref07TableGet cVeneerDescTableAll cVeneerVeneerref07TableAll cVeneerlaw07Ints cVeneerDescTableFull (lk σ 0) H := by
  have hk : k = (kR (resK [(.tmp 2)] []) k) := (kR_mk hR rfl)
  intro σ H
  rw [hk]
  show lxK cal φ N (.reg [
    ⟨(some 2), (.mv (.k (.bool false))), none⟩]) σ H (seqK (lxK cal φ N (veneerlaw07DescDoesC27 cVeneerlaw07Awake cDescNew cVeneerref07Own cVeneerDescTableOpen cVeneerVeneerref07TableOpen cVeneerDescTableClose cVeneerVeneerref07TableClose cVeneerref07Same cVeneerDescTableSet cVeneerVeneerref07TableSet cVeneerDescTableGet cVeneerVeneerref07TableGet cVeneerDescTableAll cVeneerVeneerref07TableAll cVeneerlaw07Ints cVeneerDescTableFull)) (kR (resK [(.tmp 2)] []) k)) = _
  rw [seqK_mk (g := fun σ H => veneerlaw07DescDoesC27S cal φ N cVeneerlaw07Awake cDescNew cVeneerref07Own cVeneerDescTableOpen cVeneerVeneerref07TableOpen cVeneerDescTableClose cVeneerVeneerref07TableClose cVeneerref07Same cVeneerDescTableSet cVeneerVeneerref07TableSet cVeneerDescTableGet cVeneerVeneerref07TableGet cVeneerDescTableAll cVeneerVeneerref07TableAll cVeneerlaw07Ints cVeneerDescTableFull (lk σ 0) H) (veneerlaw07DescDoesC27Eq cal φ N cVeneerlaw07Awake cDescNew cVeneerref07Own cVeneerDescTableOpen cVeneerVeneerref07TableOpen cVeneerDescTableClose cVeneerVeneerref07TableClose cVeneerref07Same cVeneerDescTableSet cVeneerVeneerref07TableSet cVeneerDescTableGet cVeneerVeneerref07TableGet cVeneerDescTableAll cVeneerVeneerref07TableAll cVeneerlaw07Ints cVeneerDescTableFull (k := (kR (resK [(.tmp 2)] []) k)) (fun _ _ => rfl))]
  kernel_rfl
def veneerlaw07DescDoes (cVeneerlaw07Awake cDescNew cVeneerref07Own cVeneerDescTableOpen cVeneerVeneerref07TableOpen cVeneerDescTableClose cVeneerVeneerref07TableClose cVeneerref07Same cVeneerDescTableSet cVeneerVeneerref07TableSet cVeneerDescTableGet cVeneerVeneerref07TableGet cVeneerDescTableAll cVeneerVeneerref07TableAll cVeneerlaw07Ints cVeneerDescTableFull : FuncId) : LFun := ⟨(veneerlaw07DescDoesC28 cVeneerlaw07Awake cDescNew cVeneerref07Own cVeneerDescTableOpen cVeneerVeneerref07TableOpen cVeneerDescTableClose cVeneerVeneerref07TableClose cVeneerref07Same cVeneerDescTableSet cVeneerVeneerref07TableSet cVeneerDescTableGet cVeneerVeneerref07TableGet cVeneerDescTableAll cVeneerVeneerref07TableAll cVeneerlaw07Ints cVeneerDescTableFull), [(.tmp 2)], 205⟩
def veneerlaw07DescDoesS (cal : FuncId → Bool) (φ : Oracle) (N : Nat) (cVeneerlaw07Awake cDescNew cVeneerref07Own cVeneerDescTableOpen cVeneerVeneerref07TableOpen cVeneerDescTableClose cVeneerVeneerref07TableClose cVeneerref07Same cVeneerDescTableSet cVeneerVeneerref07TableSet cVeneerDescTableGet cVeneerVeneerref07TableGet cVeneerDescTableAll cVeneerVeneerref07TableAll cVeneerlaw07Ints cVeneerDescTableFull : FuncId) (v0 : IV) (H : Heap) : Option (IV × Heap) :=
    veneerlaw07DescDoesC28S cal φ N cVeneerlaw07Awake cDescNew cVeneerref07Own cVeneerDescTableOpen cVeneerVeneerref07TableOpen cVeneerDescTableClose cVeneerVeneerref07TableClose cVeneerref07Same cVeneerDescTableSet cVeneerVeneerref07TableSet cVeneerDescTableGet cVeneerVeneerref07TableGet cVeneerDescTableAll cVeneerVeneerref07TableAll cVeneerlaw07Ints cVeneerDescTableFull v0 H
theorem veneerlaw07DescDoesEq (cal : FuncId → Bool) (φ : Oracle) (N : Nat) (cVeneerlaw07Awake cDescNew cVeneerref07Own cVeneerDescTableOpen cVeneerVeneerref07TableOpen cVeneerDescTableClose cVeneerVeneerref07TableClose cVeneerref07Same cVeneerDescTableSet cVeneerVeneerref07TableSet cVeneerDescTableGet cVeneerVeneerref07TableGet cVeneerDescTableAll cVeneerVeneerref07TableAll cVeneerlaw07Ints cVeneerDescTableFull : FuncId) (v0 : IV) (H : Heap) : lrunK cal φ N (veneerlaw07DescDoes cVeneerlaw07Awake cDescNew cVeneerref07Own cVeneerDescTableOpen cVeneerVeneerref07TableOpen cVeneerDescTableClose cVeneerVeneerref07TableClose cVeneerref07Same cVeneerDescTableSet cVeneerVeneerref07TableSet cVeneerDescTableGet cVeneerVeneerref07TableGet cVeneerDescTableAll cVeneerVeneerref07TableAll cVeneerlaw07Ints cVeneerDescTableFull) [v0] H = veneerlaw07DescDoesS cal φ N cVeneerlaw07Awake cDescNew cVeneerref07Own cVeneerDescTableOpen cVeneerVeneerref07TableOpen cVeneerDescTableClose cVeneerVeneerref07TableClose cVeneerref07Same cVeneerDescTableSet cVeneerVeneerref07TableSet cVeneerDescTableGet cVeneerVeneerref07TableGet cVeneerDescTableAll cVeneerVeneerref07TableAll cVeneerlaw07Ints cVeneerDescTableFull v0 H := by
  show lxK cal φ N (veneerlaw07DescDoesC28 cVeneerlaw07Awake cDescNew cVeneerref07Own cVeneerDescTableOpen cVeneerVeneerref07TableOpen cVeneerDescTableClose cVeneerVeneerref07TableClose cVeneerref07Same cVeneerDescTableSet cVeneerVeneerref07TableSet cVeneerDescTableGet cVeneerVeneerref07TableGet cVeneerDescTableAll cVeneerVeneerref07TableAll cVeneerlaw07Ints cVeneerDescTableFull) (initFrom 0 [v0]) H (endK [(.tmp 2)]) = _
  exact veneerlaw07DescDoesC28Eq cal φ N cVeneerlaw07Awake cDescNew cVeneerref07Own cVeneerDescTableOpen cVeneerVeneerref07TableOpen cVeneerDescTableClose cVeneerVeneerref07TableClose cVeneerref07Same cVeneerDescTableSet cVeneerVeneerref07TableSet cVeneerDescTableGet cVeneerVeneerref07TableGet cVeneerDescTableAll cVeneerVeneerref07TableAll cVeneerlaw07Ints cVeneerDescTableFull (k := (endK [(.tmp 2)])) (fun _ _ => rfl) (initFrom 0 [v0]) H

end Go.Shade
