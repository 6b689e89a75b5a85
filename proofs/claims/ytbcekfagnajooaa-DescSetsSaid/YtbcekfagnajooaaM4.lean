/- DESC: low code of a law of the layer 'desc'. Printed by gen.py. -/
import Derived.Test.YtbcekfagnajooaaM2
import Derived.KernelRfl
import Derived.Test.YtbcekfagnajooaaM3
namespace Go.Shade
set_option linter.unusedVariables false
def veneerlaw07DescLowestC0 (cVeneerlaw07Awake cDescNew cVeneerlaw07Play cVeneerDescTableAll cVeneerDescTableOpen : FuncId) : LC := .loop (.seq (.seq (.reg [
    ⟨(some 14), (.mv (.t 4)), none⟩,
    ⟨(some 15), (.mv (.t 0)), none⟩,
    ⟨(some 16), (.len .slice (.t 15)), none⟩,
    ⟨(some 17), (.bin .lss (.t 14) (.t 16)), none⟩,
    ⟨(some 18), (.mv (.t 17)), none⟩,
    ⟨(some 19), (.mv (.t 4)), (some (18, true))⟩,
    ⟨(some 20), (.bin .lss (.t 19) (.k (.int .i64 120))), (some (18, true))⟩,
    ⟨(some 21), (.pick (.t 18) (.t 20) (.k (.bool false))), none⟩])
  (.cond (.t 21) .skip
  (.exit 0)))
  (.seq (.block 1 (.reg [
    ⟨(some 24), (.mv (.t 3)), none⟩,
    ⟨(some 25), (.mv (.t 0)), none⟩,
    ⟨(some 26), (.mv (.t 4)), none⟩,
    ⟨(some 27), (.ix 8 (.t 25) (.t 26)), none⟩,
    ⟨(some 28), (.ldn 8 (.t 27)), none⟩,
    ⟨(some 29), (.callF cVeneerlaw07Play [(.t 24), (.t 28)]), none⟩]))
  (.reg [
    ⟨(some 22), (.mv (.t 4)), none⟩,
    ⟨(some 23), (.bin .add (.t 22) (.k (.int .i64 1))), none⟩,
    ⟨(some 4), (.mv (.t 23)), none⟩])))
def veneerlaw07DescLowestC1 (cVeneerlaw07Awake cDescNew cVeneerlaw07Play cVeneerDescTableAll cVeneerDescTableOpen : FuncId) : LC := .block 0 (veneerlaw07DescLowestC0 cVeneerlaw07Awake cDescNew cVeneerlaw07Play cVeneerDescTableAll cVeneerDescTableOpen)
def veneerlaw07DescLowestC2 (cVeneerlaw07Awake cDescNew cVeneerlaw07Play cVeneerDescTableAll cVeneerDescTableOpen : FuncId) : LC := .seq (.reg [
    ⟨(some 4), (.mv (.k (.int .i64 0))), none⟩]) (veneerlaw07DescLowestC1 cVeneerlaw07Awake cDescNew cVeneerlaw07Play cVeneerDescTableAll cVeneerDescTableOpen)
def veneerlaw07DescLowestC3 (cVeneerlaw07Awake cDescNew cVeneerlaw07Play cVeneerDescTableAll cVeneerDescTableOpen : FuncId) : LC := .loop (.seq (.reg [
    ⟨(some 35), (.bin .lss (.t 34) (.t 33)), none⟩])
  (.seq (.cond (.t 35) .skip
  (.exit 2))
  (.seq (.block 3 (.seq (.reg [
    ⟨(some 36), (.ix 1 (.t 32) (.t 34)), none⟩,
    ⟨(some 37), (.ld1 (.t 36)), none⟩,
    ⟨(some 7), (.mv (.t 37)), none⟩])
  (.reg [
    ⟨(some 38), (.mv (.t 5)), none⟩,
    ⟨(some 39), (.mv (.t 7)), none⟩,
    ⟨none, (.upd .int (.t 38) (.t 39) (.k (.bool true))), none⟩])))
  (.reg [
    ⟨(some 40), (.bin .add (.t 34) (.k (.int .i64 1))), none⟩,
    ⟨(some 34), (.mv (.t 40)), none⟩]))))
def veneerlaw07DescLowestC4 (cVeneerlaw07Awake cDescNew cVeneerlaw07Play cVeneerDescTableAll cVeneerDescTableOpen : FuncId) : LC := .block 2 (veneerlaw07DescLowestC3 cVeneerlaw07Awake cDescNew cVeneerlaw07Play cVeneerDescTableAll cVeneerDescTableOpen)
def veneerlaw07DescLowestC5 (cVeneerlaw07Awake cDescNew cVeneerlaw07Play cVeneerDescTableAll cVeneerDescTableOpen : FuncId) : LC := .seq (.reg [
    ⟨(some 31), (.mv (.t 3)), none⟩,
    ⟨(some 32), (.callF cVeneerDescTableAll [(.t 31)]), none⟩,
    ⟨(some 33), (.len .slice (.t 32)), none⟩,
    ⟨(some 34), (.mv (.k (.int .i64 0))), none⟩]) (veneerlaw07DescLowestC4 cVeneerlaw07Awake cDescNew cVeneerlaw07Play cVeneerDescTableAll cVeneerDescTableOpen)
def veneerlaw07DescLowestC6 (cVeneerlaw07Awake cDescNew cVeneerlaw07Play cVeneerDescTableAll cVeneerDescTableOpen : FuncId) : LC := .loop (.seq (.seq (.reg [
    ⟨(some 41), (.mv (.t 5)), none⟩,
    ⟨(some 42), (.mv (.t 8)), none⟩,
    ⟨(some 43), (.lkp .int (.bool false) false (.t 41) (.t 42)), none⟩])
  (.cond (.t 43) .skip
  (.exit 4)))
  (.block 5 (.reg [
    ⟨(some 44), (.mv (.t 8)), none⟩,
    ⟨(some 45), (.bin .add (.t 44) (.k (.int .i64 1))), none⟩,
    ⟨(some 8), (.mv (.t 45)), none⟩])))
def veneerlaw07DescLowestC7 (cVeneerlaw07Awake cDescNew cVeneerlaw07Play cVeneerDescTableAll cVeneerDescTableOpen : FuncId) : LC := .block 4 (veneerlaw07DescLowestC6 cVeneerlaw07Awake cDescNew cVeneerlaw07Play cVeneerDescTableAll cVeneerDescTableOpen)
def veneerlaw07DescLowestC8 (cVeneerlaw07Awake cDescNew cVeneerlaw07Play cVeneerDescTableAll cVeneerDescTableOpen : FuncId) : LC := .seq (veneerlaw07DescLowestC7 cVeneerlaw07Awake cDescNew cVeneerlaw07Play cVeneerDescTableAll cVeneerDescTableOpen) (.seq (.reg [
    ⟨(some 47), (.mv (.t 3)), none⟩,
    ⟨(some 48), (.bld [(.int .i64 0), (.int .i64 0), (.int .i64 0), (.bool false), .nilSlice, (.int .i64 0)] [(0, (1, (.k (.int .i64 3))))]), none⟩,
    ⟨(some 49), (.callF cVeneerDescTableOpen [(.t 47), (.t 48)]), none⟩,
    ⟨(some 46), (.mv (.t 49)), none⟩,
    ⟨(some 50), (.ext (.t 46) 0), none⟩,
    ⟨(some 51), (.ext (.t 46) 1), none⟩,
    ⟨(some 9), (.mv (.t 50)), none⟩,
    ⟨(some 10), (.mv (.t 51)), none⟩])
  (.seq (.seq (.reg [
    ⟨(some 52), (.mv (.t 8)), none⟩,
    ⟨(some 53), (.bin .geq (.t 52) (.k (.int .i64 32))), none⟩])
  (.cond (.t 53) (.seq (.reg [
    ⟨(some 54), (.mv (.t 9)), none⟩,
    ⟨(some 55), (.bin .eql (.t 54) (.k (.int .i64 0))), none⟩,
    ⟨(some 56), (.mv (.t 55)), none⟩,
    ⟨(some 57), (.mv (.t 10)), (some (56, true))⟩,
    ⟨(some 58), (.bin .eql (.t 57) (.k (.int .i64 24))), (some (56, true))⟩,
    ⟨(some 59), (.pick (.t 56) (.t 58) (.k (.bool false))), none⟩,
    ⟨(some 60), (.mv (.t 59)), none⟩,
    ⟨(some 61), (.mv (.t 5)), (some (60, true))⟩,
    ⟨(some 62), (.len .map (.t 61)), (some (60, true))⟩,
    ⟨(some 63), (.bin .eql (.t 62) (.k (.int .i64 32))), (some (60, true))⟩,
    ⟨(some 64), (.pick (.t 60) (.t 63) (.k (.bool false))), none⟩,
    ⟨(some 2), (.mv (.t 64)), none⟩])
  .ret)
  .skip))
  (.seq (.reg [
    ⟨(some 65), (.mv (.t 9)), none⟩,
    ⟨(some 66), (.mv (.t 8)), none⟩,
    ⟨(some 67), (.bin .eql (.t 65) (.t 66)), none⟩,
    ⟨(some 68), (.mv (.t 67)), none⟩,
    ⟨(some 69), (.mv (.t 10)), (some (68, true))⟩,
    ⟨(some 70), (.bin .eql (.t 69) (.k (.int .i64 0))), (some (68, true))⟩,
    ⟨(some 71), (.pick (.t 68) (.t 70) (.k (.bool false))), none⟩,
    ⟨(some 2), (.mv (.t 71)), none⟩])
  .ret)))
def veneerlaw07DescLowestC9 (cVeneerlaw07Awake cDescNew cVeneerlaw07Play cVeneerDescTableAll cVeneerDescTableOpen : FuncId) : LC := .seq (.reg [
    ⟨(some 8), (.mv (.k (.int .i64 0))), none⟩]) (veneerlaw07DescLowestC8 cVeneerlaw07Awake cDescNew cVeneerlaw07Play cVeneerDescTableAll cVeneerDescTableOpen)
def veneerlaw07DescLowestC10 (cVeneerlaw07Awake cDescNew cVeneerlaw07Play cVeneerDescTableAll cVeneerDescTableOpen : FuncId) : LC := .seq (veneerlaw07DescLowestC5 cVeneerlaw07Awake cDescNew cVeneerlaw07Play cVeneerDescTableAll cVeneerDescTableOpen) (veneerlaw07DescLowestC9 cVeneerlaw07Awake cDescNew cVeneerlaw07Play cVeneerDescTableAll cVeneerDescTableOpen)
def veneerlaw07DescLowestC11 (cVeneerlaw07Awake cDescNew cVeneerlaw07Play cVeneerDescTableAll cVeneerDescTableOpen : FuncId) : LC := .seq (.reg [
    ⟨(some 30), .mkM, none⟩,
    ⟨(some 5), (.mv (.t 30)), none⟩]) (veneerlaw07DescLowestC10 cVeneerlaw07Awake cDescNew cVeneerlaw07Play cVeneerDescTableAll cVeneerDescTableOpen)
def veneerlaw07DescLowestC12 (cVeneerlaw07Awake cDescNew cVeneerlaw07Play cVeneerDescTableAll cVeneerDescTableOpen : FuncId) : LC := .seq (veneerlaw07DescLowestC2 cVeneerlaw07Awake cDescNew cVeneerlaw07Play cVeneerDescTableAll cVeneerDescTableOpen) (veneerlaw07DescLowestC11 cVeneerlaw07Awake cDescNew cVeneerlaw07Play cVeneerDescTableAll cVeneerDescTableOpen)
def veneerlaw07DescLowestC13 (cVeneerlaw07Awake cDescNew cVeneerlaw07Play cVeneerDescTableAll cVeneerDescTableOpen : FuncId) : LC := .seq (.reg [
    ⟨(some 13), (.callF cDescNew []), none⟩,
    ⟨(some 3), (.mv (.t 13)), none⟩]) (veneerlaw07DescLowestC12 cVeneerlaw07Awake cDescNew cVeneerlaw07Play cVeneerDescTableAll cVeneerDescTableOpen)
def veneerlaw07DescLowestC14 (cVeneerlaw07Awake cDescNew cVeneerlaw07Play cVeneerDescTableAll cVeneerDescTableOpen : FuncId) : LC := .seq (.seq (.reg [
    ⟨(some 11), (.callF cVeneerlaw07Awake []), none⟩,
    ⟨(some 12), (.un .not (.t 11)), none⟩])
  (.cond (.t 12) (.seq (.reg [
    ⟨(some 2), (.mv (.k (.bool false))), none⟩])
  .ret)
  .skip)) (veneerlaw07DescLowestC13 cVeneerlaw07Awake cDescNew cVeneerlaw07Play cVeneerDescTableAll cVeneerDescTableOpen)
def veneerlaw07DescLowestC15 (cVeneerlaw07Awake cDescNew cVeneerlaw07Play cVeneerDescTableAll cVeneerDescTableOpen : FuncId) : LC := .seq (.reg [
    ⟨(some 2), (.mv (.k (.bool false))), none⟩]) (veneerlaw07DescLowestC14 cVeneerlaw07Awake cDescNew cVeneerlaw07Play cVeneerDescTableAll cVeneerDescTableOpen)
def veneerlaw07DescLowestC6S (cal : FuncId → Bool) (φ : Oracle) (N : Nat) (cVeneerlaw07Awake cDescNew cVeneerlaw07Play cVeneerDescTableAll cVeneerDescTableOpen : FuncId) (gE4 : IV → IV → IV → Heap → Option (IV × Heap)) : Nat → IV → IV → IV → Heap → Option (IV × Heap)
  | 0, _, _, _, _ => none
  | n + 1, v3, v5, v8, H =>
    ob (llookup H .int (.bool false) false v5 v8) fun t1 =>
    cnd t1
    (ob (lbin .add v8 (.int .i64 1)) fun t2 =>
    veneerlaw07DescLowestC6S cal φ N cVeneerlaw07Awake cDescNew cVeneerlaw07Play cVeneerDescTableAll cVeneerDescTableOpen gE4 n v3 v5 t2 H)
    (gE4 v3 v5 v8 H)
theorem veneerlaw07DescLowestC6Eq (cal : FuncId → Bool) (φ : Oracle) (N : Nat) (cVeneerlaw07Awake cDescNew cVeneerlaw07Play cVeneerDescTableAll cVeneerDescTableOpen : FuncId) {k : KT (IV × Heap)} (gE4 : IV → IV → IV → Heap → Option (IV × Heap)) (hgE4 : ∀ σ H, k (.exit 4) σ H = gE4 (lk σ 3) (lk σ 5) (lk σ 8) H) : ∀ (n : Nat) (σ : Sg) (H : Heap), itK (lxK cal φ N (.seq (.seq (.reg [
    ⟨(some 41), (.mv (.t 5)), none⟩,
    ⟨(some 42), (.mv (.t 8)), none⟩,
    ⟨(some 43), (.lkp .int (.bool false) false (.t 41) (.t 42)), none⟩])
  (.cond (.t 43) .skip
  (.exit 4)))
  (.block 5 (.reg [
    ⟨(some 44), (.mv (.t 8)), none⟩,
    ⟨(some 45), (.bin .add (.t 44) (.k (.int .i64 1))), none⟩,
    ⟨(some 8), (.mv (.t 45)), none⟩])))) n σ H k = veneerlaw07DescLowestC6S cal φ N cVeneerlaw07Awake cDescNew cVeneerlaw07Play cVeneerDescTableAll cVeneerDescTableOpen gE4 n (lk σ 3) (lk σ 5) (lk σ 8) H := by
  have hk : k = (kE 4 (fun σ H => gE4 (lk σ 3) (lk σ 5) (lk σ 8) H) k) := (kE_mk hgE4 rfl)
  intro n
  induction n with
  | zero => intro σ H; rfl
  | succ n ih =>
    intro σ H
    rw [itK_succ, seqK_mk (g := fun σ H => veneerlaw07DescLowestC6S cal φ N cVeneerlaw07Awake cDescNew cVeneerlaw07Play cVeneerDescTableAll cVeneerDescTableOpen gE4 n (lk σ 3) (lk σ 5) (lk σ 8) H) ih, hk]
    kernel_rfl
def veneerlaw07DescLowestC7S (cal : FuncId → Bool) (φ : Oracle) (N : Nat) (cVeneerlaw07Awake cDescNew cVeneerlaw07Play cVeneerDescTableAll cVeneerDescTableOpen : FuncId) (gN : IV → IV → IV → Heap → Option (IV × Heap)) (v3 v5 v8 : IV) (H : Heap) : Option (IV × Heap) :=
    veneerlaw07DescLowestC6S cal φ N cVeneerlaw07Awake cDescNew cVeneerlaw07Play cVeneerDescTableAll cVeneerDescTableOpen (fun v3 v5 v8 H => gN v3 v5 v8 H) N v3 v5 v8 H
theorem veneerlaw07DescLowestC7Eq (cal : FuncId → Bool) (φ : Oracle) (N : Nat) (cVeneerlaw07Awake cDescNew cVeneerlaw07Play cVeneerDescTableAll cVeneerDescTableOpen : FuncId) {k : KT (IV × Heap)} (gN : IV → IV → IV → Heap → Option (IV × Heap)) (hgN : ∀ σ H, k .normal σ H = gN (lk σ 3) (lk σ 5) (lk σ 8) H) : ∀ (σ : Sg) (H : Heap), lxK cal φ N (veneerlaw07DescLowestC7 cVeneerlaw07Awake cDescNew cVeneerlaw07Play cVeneerDescTableAll cVeneerDescTableOpen) σ H k = veneerlaw07DescLowestC7S cal φ N cVeneerlaw07Awake cDescNew cVeneerlaw07Play cVeneerDescTableAll cVeneerDescTableOpen gN (lk σ 3) (lk σ 5) (lk σ 8) H := by
  have hk : k = (kN (fun σ H => gN (lk σ 3) (lk σ 5) (lk σ 8) H) k) := (kN_mk hgN rfl)
  intro σ H
  rw [hk]
  show lxK cal φ N (veneerlaw07DescLowestC6 cVeneerlaw07Awake cDescNew cVeneerlaw07Play cVeneerDescTableAll cVeneerDescTableOpen) σ H (blockK 4 (kN (fun σ H => gN (lk σ 3) (lk σ 5) (lk σ 8) H) k)) = _
  exact veneerlaw07DescLowestC6Eq cal φ N cVeneerlaw07Awake cDescNew cVeneerlaw07Play cVeneerDescTableAll cVeneerDescTableOpen (k := (blockK 4 (kN (fun σ H => gN (lk σ 3) (lk σ 5) (lk σ 8) H) k))) (fun v3 v5 v8 H => gN v3 v5 v8 H) (fun _ _ => rfl) N σ H
def veneerlaw07DescLowestC8S (cal : FuncId → Bool) (φ : Oracle) (N : Nat) (cVeneerlaw07Awake cDescNew cVeneerlaw07Play cVeneerDescTableAll cVeneerDescTableOpen : FuncId) (v3 v5 v8 : IV) (H : Heap) : Option (IV × Heap) :=
    veneerlaw07DescLowestC7S cal φ N cVeneerlaw07Awake cDescNew cVeneerlaw07Play cVeneerDescTableAll cVeneerDescTableOpen (fun v3 v5 v8 H => ob (lbld [(.int .i64 0), (.int .i64 0), (.int .i64 0), (.bool false), .nilSlice, (.int .i64 0)] [(0, 1, (.int .i64 3))]) fun t1 =>
    ob (φ cVeneerDescTableOpen [v3, t1] H) fun r2 =>
    ob (iextract r2.1 0) fun t3 =>
    ob (iextract r2.1 1) fun t4 =>
    ob (lbin .geq v8 (.int .i64 32)) fun t5 =>
    cnd t5
    (ob (lbin .eql t3 (.int .i64 0)) fun t6 =>
    ob (gq (isB t6 true) (some t4)) fun t7 =>
    ob (gq (isB t6 true) (lbin .eql t7 (.int .i64 24))) fun t8 =>
    ob (lpick t6 t8 (.bool false)) fun t9 =>
    ob (gq (isB t9 true) (some v5)) fun t10 =>
    ob (gq (isB t9 true) (llen r2.2 .map t10)) fun t11 =>
    ob (gq (isB t9 true) (lbin .eql t11 (.int .i64 32))) fun t12 =>
    ob (lpick t9 t12 (.bool false)) fun t13 =>
    some (t13, r2.2))
    (ob (lbin .eql t3 v8) fun t14 =>
    ob (gq (isB t14 true) (some t4)) fun t15 =>
    ob (gq (isB t14 true) (lbin .eql t15 (.int .i64 0))) fun t16 =>
    ob (lpick t14 t16 (.bool false)) fun t17 =>
    some (t17, r2.2))) v3 v5 v8 H
theorem veneerlaw07DescLowestC8Eq (cal : FuncId → Bool) (φ : Oracle) (N : Nat) (cVeneerlaw07Awake cDescNew cVeneerlaw07Play cVeneerDescTableAll cVeneerDescTableOpen : FuncId) {k : KT (IV × Heap)} (hR : ∀ σ H, k .ret σ H = resK [(.tmp 2)] [] σ H) : ∀ (σ : Sg) (H : Heap), lxK cal φ N (veneerlaw07DescLowestC8 cVeneerlaw07Awake cDescNew cVeneerlaw07Play cVeneerDescTableAll cVeneerDescTableOpen) σ H k = veneerlaw07DescLowestC8S cal φ N cVeneerlaw07Awake cDescNew cVeneerlaw07Play cVeneerDescTableAll cVeneerDescTableOpen (lk σ 3) (lk σ 5) (lk σ 8) H := by
  have hk : k = (kR (resK [(.tmp 2)] []) k) := (kR_mk hR rfl)
  intro σ H
  rw [hk]
  show lxK cal φ N (veneerlaw07DescLowestC7 cVeneerlaw07Awake cDescNew cVeneerlaw07Play cVeneerDescTableAll cVeneerDescTableOpen) σ H (seqK (lxK cal φ N (.seq (.reg [
    ⟨(some 47), (.mv (.t 3)), none⟩,
    ⟨(some 48), (.bld [(.int .i64 0), (.int .i64 0), (.int .i64 0), (.bool false), .nilSlice, (.int .i64 0)] [(0, (1, (.k (.int .i64 3))))]), none⟩,
    ⟨(some 49), (.callF cVeneerDescTableOpen [(.t 47), (.t 48)]), none⟩,
    ⟨(some 46), (.mv (.t 49)), none⟩,
    ⟨(some 50), (.ext (.t 46) 0), none⟩,
    ⟨(some 51), (.ext (.t 46) 1), none⟩,
    ⟨(some 9), (.mv (.t 50)), none⟩,
    ⟨(some 10), (.mv (.t 51)), none⟩])
  (.seq (.seq (.reg [
    ⟨(some 52), (.mv (.t 8)), none⟩,
    ⟨(some 53), (.bin .geq (.t 52) (.k (.int .i64 32))), none⟩])
  (.cond (.t 53) (.seq (.reg [
    ⟨(some 54), (.mv (.t 9)), none⟩,
    ⟨(some 55), (.bin .eql (.t 54) (.k (.int .i64 0))), none⟩,
    ⟨(some 56), (.mv (.t 55)), none⟩,
    ⟨(some 57), (.mv (.t 10)), (some (56, true))⟩,
    ⟨(some 58), (.bin .eql (.t 57) (.k (.int .i64 24))), (some (56, true))⟩,
    ⟨(some 59), (.pick (.t 56) (.t 58) (.k (.bool false))), none⟩,
    ⟨(some 60), (.mv (.t 59)), none⟩,
    ⟨(some 61), (.mv (.t 5)), (some (60, true))⟩,
    ⟨(some 62), (.len .map (.t 61)), (some (60, true))⟩,
    ⟨(some 63), (.bin .eql (.t 62) (.k (.int .i64 32))), (some (60, true))⟩,
    ⟨(some 64), (.pick (.t 60) (.t 63) (.k (.bool false))), none⟩,
    ⟨(some 2), (.mv (.t 64)), none⟩])
  .ret)
  .skip))
  (.seq (.reg [
    ⟨(some 65), (.mv (.t 9)), none⟩,
    ⟨(some 66), (.mv (.t 8)), none⟩,
    ⟨(some 67), (.bin .eql (.t 65) (.t 66)), none⟩,
    ⟨(some 68), (.mv (.t 67)), none⟩,
    ⟨(some 69), (.mv (.t 10)), (some (68, true))⟩,
    ⟨(some 70), (.bin .eql (.t 69) (.k (.int .i64 0))), (some (68, true))⟩,
    ⟨(some 71), (.pick (.t 68) (.t 70) (.k (.bool false))), none⟩,
    ⟨(some 2), (.mv (.t 71)), none⟩])
  .ret)))) (kR (resK [(.tmp 2)] []) k)) = _
  exact veneerlaw07DescLowestC7Eq cal φ N cVeneerlaw07Awake cDescNew cVeneerlaw07Play cVeneerDescTableAll cVeneerDescTableOpen (k := (seqK (lxK cal φ N (.seq (.reg [
    ⟨(some 47), (.mv (.t 3)), none⟩,
    ⟨(some 48), (.bld [(.int .i64 0), (.int .i64 0), (.int .i64 0), (.bool false), .nilSlice, (.int .i64 0)] [(0, (1, (.k (.int .i64 3))))]), none⟩,
    ⟨(some 49), (.callF cVeneerDescTableOpen [(.t 47), (.t 48)]), none⟩,
    ⟨(some 46), (.mv (.t 49)), none⟩,
    ⟨(some 50), (.ext (.t 46) 0), none⟩,
    ⟨(some 51), (.ext (.t 46) 1), none⟩,
    ⟨(some 9), (.mv (.t 50)), none⟩,
    ⟨(some 10), (.mv (.t 51)), none⟩])
  (.seq (.seq (.reg [
    ⟨(some 52), (.mv (.t 8)), none⟩,
    ⟨(some 53), (.bin .geq (.t 52) (.k (.int .i64 32))), none⟩])
  (.cond (.t 53) (.seq (.reg [
    ⟨(some 54), (.mv (.t 9)), none⟩,
    ⟨(some 55), (.bin .eql (.t 54) (.k (.int .i64 0))), none⟩,
    ⟨(some 56), (.mv (.t 55)), none⟩,
    ⟨(some 57), (.mv (.t 10)), (some (56, true))⟩,
    ⟨(some 58), (.bin .eql (.t 57) (.k (.int .i64 24))), (some (56, true))⟩,
    ⟨(some 59), (.pick (.t 56) (.t 58) (.k (.bool false))), none⟩,
    ⟨(some 60), (.mv (.t 59)), none⟩,
    ⟨(some 61), (.mv (.t 5)), (some (60, true))⟩,
    ⟨(some 62), (.len .map (.t 61)), (some (60, true))⟩,
    ⟨(some 63), (.bin .eql (.t 62) (.k (.int .i64 32))), (some (60, true))⟩,
    ⟨(some 64), (.pick (.t 60) (.t 63) (.k (.bool false))), none⟩,
    ⟨(some 2), (.mv (.t 64)), none⟩])
  .ret)
  .skip))
  (.seq (.reg [
    ⟨(some 65), (.mv (.t 9)), none⟩,
    ⟨(some 66), (.mv (.t 8)), none⟩,
    ⟨(some 67), (.bin .eql (.t 65) (.t 66)), none⟩,
    ⟨(some 68), (.mv (.t 67)), none⟩,
    ⟨(some 69), (.mv (.t 10)), (some (68, true))⟩,
    ⟨(some 70), (.bin .eql (.t 69) (.k (.int .i64 0))), (some (68, true))⟩,
    ⟨(some 71), (.pick (.t 68) (.t 70) (.k (.bool false))), none⟩,
    ⟨(some 2), (.mv (.t 71)), none⟩])
  .ret)))) (kR (resK [(.tmp 2)] []) k))) (fun v3 v5 v8 H => ob (lbld [(.int .i64 0), (.int .i64 0), (.int .i64 0), (.bool false), .nilSlice, (.int .i64 0)] [(0, 1, (.int .i64 3))]) fun t1 =>
ob (φ cVeneerDescTableOpen [v3, t1] H) fun r2 =>
ob (iextract r2.1 0) fun t3 =>
ob (iextract r2.1 1) fun t4 =>
ob (lbin .geq v8 (.int .i64 32)) fun t5 =>
cnd t5
(ob (lbin .eql t3 (.int .i64 0)) fun t6 =>
ob (gq (isB t6 true) (some t4)) fun t7 =>
ob (gq (isB t6 true) (lbin .eql t7 (.int .i64 24))) fun t8 =>
ob (lpick t6 t8 (.bool false)) fun t9 =>
ob (gq (isB t9 true) (some v5)) fun t10 =>
ob (gq (isB t9 true) (llen r2.2 .map t10)) fun t11 =>
ob (gq (isB t9 true) (lbin .eql t11 (.int .i64 32))) fun t12 =>
ob (lpick t9 t12 (.bool false)) fun t13 =>
some (t13, r2.2))
(ob (lbin .eql t3 v8) fun t14 =>
ob (gq (isB t14 true) (some t4)) fun t15 =>
ob (gq (isB t14 true) (lbin .eql t15 (.int .i64 0))) fun t16 =>
ob (lpick t14 t16 (.bool false)) fun t17 =>
some (t17, r2.2))) (fun _ _ => rfl) σ H
def veneerlaw07DescLowestC9S (cal : FuncId → Bool) (φ : Oracle) (N : Nat) (cVeneerlaw07Awake cDescNew cVeneerlaw07Play cVeneerDescTableAll cVeneerDescTableOpen : FuncId) (v3 v5 : IV) (H : Heap) : Option (IV × Heap) :=
    veneerlaw07DescLowestC8S cal φ N cVeneerlaw07Awake cDescNew cVeneerlaw07Play cVeneerDescTableAll cVeneerDescTableOpen v3 v5 (.int .i64 0) H
theorem veneerlaw07DescLowestC9Eq (cal : FuncId → Bool) (φ : Oracle) (N : Nat) (cVeneerlaw07Awake cDescNew cVeneerlaw07Play cVeneerDescTableAll cVeneerDescTableOpen : FuncId) {k : KT (IV × Heap)} (hR : ∀ σ H, k .ret σ H = resK [(.tmp 2)] [] σ H) : ∀ (σ : Sg) (H : Heap), lxK cal φ N (veneerlaw07DescLowestC9 cVeneerlaw07Awake cDescNew cVeneerlaw07Play cVeneerDescTableAll cVeneerDescTableOpen) σ H k = veneerlaw07DescLowestC9S cal φ N cVeneerlaw07Awake cDescNew cVeneerlaw07Play cVeneerDescTableAll cVeneerDescTableOpen (lk σ 3) (lk σ 5) H := by
  have hk : k = (kR (resK [(.tmp 2)] []) k) := (kR_mk hR rfl)
  intro σ H
  rw [hk]
  show lxK cal φ N (.reg [
    ⟨(some 8), (.mv (.k (.int .i64 0))), none⟩]) σ H (seqK (lxK cal φ N (veneerlaw07DescLowestC8 cVeneerlaw07Awake cDescNew cVeneerlaw07Play cVeneerDescTableAll cVeneerDescTableOpen)) (kR (resK [(.tmp 2)] []) k)) = _
  rw [seqK_mk (g := fun σ H => veneerlaw07DescLowestC8S cal φ N cVeneerlaw07Awake cDescNew cVeneerlaw07Play cVeneerDescTableAll cVeneerDescTableOpen (lk σ 3) (lk σ 5) (lk σ 8) H) (veneerlaw07DescLowestC8Eq cal φ N cVeneerlaw07Awake cDescNew cVeneerlaw07Play cVeneerDescTableAll cVeneerDescTableOpen (k := (kR (resK [(.tmp 2)] []) k)) (fun _ _ => rfl))]
  kernel_rfl
def veneerlaw07DescLowestC3S (cal : FuncId → Bool) (φ : Oracle) (N : Nat) (cVeneerlaw07Awake cDescNew cVeneerlaw07Play cVeneerDescTableAll cVeneerDescTableOpen : FuncId) (gE2 : IV → IV → Heap → Option (IV × Heap)) : Nat → IV → IV → IV → IV → IV → Heap → Option (IV × Heap)
  | 0, _, _, _, _, _, _ => none
  | n + 1, v3, v5, v32, v33, v34, H =>
    ob (lbin .lss v34 v33) fun t1 =>
    cnd t1
    (ob (lix 1 v32 v34) fun t2 =>
    ob (lload1 H t2) fun t3 =>
    ob (lupdV H .int v5 t3 (.bool true)) fun r4 =>
    ob (lbin .add v34 (.int .i64 1)) fun t5 =>
    veneerlaw07DescLowestC3S cal φ N cVeneerlaw07Awake cDescNew cVeneerlaw07Play cVeneerDescTableAll cVeneerDescTableOpen gE2 n v3 v5 v32 v33 t5 r4.2)
    (gE2 v3 v5 H)
theorem veneerlaw07DescLowestC3Eq (cal : FuncId → Bool) (φ : Oracle) (N : Nat) (cVeneerlaw07Awake cDescNew cVeneerlaw07Play cVeneerDescTableAll cVeneerDescTableOpen : FuncId) {k : KT (IV × Heap)} (gE2 : IV → IV → Heap → Option (IV × Heap)) (hgE2 : ∀ σ H, k (.exit 2) σ H = gE2 (lk σ 3) (lk σ 5) H) : ∀ (n : Nat) (σ : Sg) (H : Heap), itK (lxK cal φ N (.seq (.reg [
    ⟨(some 35), (.bin .lss (.t 34) (.t 33)), none⟩])
  (.seq (.cond (.t 35) .skip
  (.exit 2))
  (.seq (.block 3 (.seq (.reg [
    ⟨(some 36), (.ix 1 (.t 32) (.t 34)), none⟩,
    ⟨(some 37), (.ld1 (.t 36)), none⟩,
    ⟨(some 7), (.mv (.t 37)), none⟩])
  (.reg [
    ⟨(some 38), (.mv (.t 5)), none⟩,
    ⟨(some 39), (.mv (.t 7)), none⟩,
    ⟨none, (.upd .int (.t 38) (.t 39) (.k (.bool true))), none⟩])))
  (.reg [
    ⟨(some 40), (.bin .add (.t 34) (.k (.int .i64 1))), none⟩,
    ⟨(some 34), (.mv (.t 40)), none⟩]))))) n σ H k = veneerlaw07DescLowestC3S cal φ N cVeneerlaw07Awake cDescNew cVeneerlaw07Play cVeneerDescTableAll cVeneerDescTableOpen gE2 n (lk σ 3) (lk σ 5) (lk σ 32) (lk σ 33) (lk σ 34) H := by
  have hk : k = (kE 2 (fun σ H => gE2 (lk σ 3) (lk σ 5) H) k) := (kE_mk hgE2 rfl)
  intro n
  induction n with
  | zero => intro σ H; rfl
  | succ n ih =>
    intro σ H
    rw [itK_succ, seqK_mk (g := fun σ H => veneerlaw07DescLowestC3S cal φ N cVeneerlaw07Awake cDescNew cVeneerlaw07Play cVeneerDescTableAll cVeneerDescTableOpen gE2 n (lk σ 3) (lk σ 5) (lk σ 32) (lk σ 33) (lk σ 34) H) ih, hk]
    kernel_rfl
def veneerlaw07DescLowestC4S (cal : FuncId → Bool) (φ : Oracle) (N : Nat) (cVeneerlaw07Awake cDescNew cVeneerlaw07Play cVeneerDescTableAll cVeneerDescTableOpen : FuncId) (gN : IV → IV → Heap → Option (IV × Heap)) (v3 v5 v32 v33 v34 : IV) (H : Heap) : Option (IV × Heap) :=
    veneerlaw07DescLowestC3S cal φ N cVeneerlaw07Awake cDescNew cVeneerlaw07Play cVeneerDescTableAll cVeneerDescTableOpen (fun v3 v5 H => gN v3 v5 H) N v3 v5 v32 v33 v34 H
theorem veneerlaw07DescLowestC4Eq (cal : FuncId → Bool) (φ : Oracle) (N : Nat) (cVeneerlaw07Awake cDescNew cVeneerlaw07Play cVeneerDescTableAll cVeneerDescTableOpen : FuncId) {k : KT (IV × Heap)} (gN : IV → IV → Heap → Option (IV × Heap)) (hgN : ∀ σ H, k .normal σ H = gN (lk σ 3) (lk σ 5) H) : ∀ (σ : Sg) (H : Heap), lxK cal φ N (veneerlaw07DescLowestC4 cVeneerlaw07Awake cDescNew cVeneerlaw07Play cVeneerDescTableAll cVeneerDescTableOpen) σ H k = veneerlaw07DescLowestC4S cal φ N cVeneerlaw07Awake cDescNew cVeneerlaw07Play cVeneerDescTableAll cVeneerDescTableOpen gN (lk σ 3) (lk σ 5) (lk σ 32) (lk σ 33) (lk σ 34) H := by
  have hk : k = (kN (fun σ H => gN (lk σ 3) (lk σ 5) H) k) := (kN_mk hgN rfl)
  intro σ H
  rw [hk]
  show lxK cal φ N (veneerlaw07DescLowestC3 cVeneerlaw07Awake cDescNew cVeneerlaw07Play cVeneerDescTableAll cVeneerDescTableOpen) σ H (blockK 2 (kN (fun σ H => gN (lk σ 3) (lk σ 5) H) k)) = _
  exact veneerlaw07DescLowestC3Eq cal φ N cVeneerlaw07Awake cDescNew cVeneerlaw07Play cVeneerDescTableAll cVeneerDescTableOpen (k := (blockK 2 (kN (fun σ H => gN (lk σ 3) (lk σ 5) H) k))) (fun v3 v5 H => gN v3 v5 H) (fun _ _ => rfl) N σ H
def veneerlaw07DescLowestC5S (cal : FuncId → Bool) (φ : Oracle) (N : Nat) (cVeneerlaw07Awake cDescNew cVeneerlaw07Play cVeneerDescTableAll cVeneerDescTableOpen : FuncId) (gN : IV → IV → Heap → Option (IV × Heap)) (v3 v5 : IV) (H : Heap) : Option (IV × Heap) :=
    ob (φ cVeneerDescTableAll [v3] H) fun r1 =>
    ob (llen r1.2 .slice r1.1) fun t2 =>
    veneerlaw07DescLowestC4S cal φ N cVeneerlaw07Awake cDescNew cVeneerlaw07Play cVeneerDescTableAll cVeneerDescTableOpen (fun v3 v5 H => gN v3 v5 H) v3 v5 r1.1 t2 (.int .i64 0) r1.2
theorem veneerlaw07DescLowestC5Eq (cal : FuncId → Bool) (φ : Oracle) (N : Nat) (cVeneerlaw07Awake cDescNew cVeneerlaw07Play cVeneerDescTableAll cVeneerDescTableOpen : FuncId) {k : KT (IV × Heap)} (gN : IV → IV → Heap → Option (IV × Heap)) (hgN : ∀ σ H, k .normal σ H = gN (lk σ 3) (lk σ 5) H) : ∀ (σ : Sg) (H : Heap), lxK cal φ N (veneerlaw07DescLowestC5 cVeneerlaw07Awake cDescNew cVeneerlaw07Play cVeneerDescTableAll cVeneerDescTableOpen) σ H k = veneerlaw07DescLowestC5S cal φ N cVeneerlaw07Awake cDescNew cVeneerlaw07Play cVeneerDescTableAll cVeneerDescTableOpen gN (lk σ 3) (lk σ 5) H := by
  have hk : k = (kN (fun σ H => gN (lk σ 3) (lk σ 5) H) k) := (kN_mk hgN rfl)
  intro σ H
  rw [hk]
  show lxK cal φ N (.reg [
    ⟨(some 31), (.mv (.t 3)), none⟩,
    ⟨(some 32), (.callF cVeneerDescTableAll [(.t 31)]), none⟩,
    ⟨(some 33), (.len .slice (.t 32)), none⟩,
    ⟨(some 34), (.mv (.k (.int .i64 0))), none⟩]) σ H (seqK (lxK cal φ N (veneerlaw07DescLowestC4 cVeneerlaw07Awake cDescNew cVeneerlaw07Play cVeneerDescTableAll cVeneerDescTableOpen)) (kN (fun σ H => gN (lk σ 3) (lk σ 5) H) k)) = _
  rw [seqK_mk (g := fun σ H => veneerlaw07DescLowestC4S cal φ N cVeneerlaw07Awake cDescNew cVeneerlaw07Play cVeneerDescTableAll cVeneerDescTableOpen (fun v3 v5 H => gN v3 v5 H) (lk σ 3) (lk σ 5) (lk σ 32) (lk σ 33) (lk σ 34) H) (veneerlaw07DescLowestC4Eq cal φ N cVeneerlaw07Awake cDescNew cVeneerlaw07Play cVeneerDescTableAll cVeneerDescTableOpen (k := (kN (fun σ H => gN (lk σ 3) (lk σ 5) H) k)) (fun v3 v5 H => gN v3 v5 H) (fun _ _ => rfl))]
  kernel_rfl
def veneerlaw07DescLowestC10S (cal : FuncId → Bool) (φ : Oracle) (N : Nat) (cVeneerlaw07Awake cDescNew cVeneerlaw07Play cVeneerDescTableAll cVeneerDescTableOpen : FuncId) (v3 v5 : IV) (H : Heap) : Option (IV × Heap) :=
    veneerlaw07DescLowestC5S cal φ N cVeneerlaw07Awake cDescNew cVeneerlaw07Play cVeneerDescTableAll cVeneerDescTableOpen (fun v3 v5 H => veneerlaw07DescLowestC9S cal φ N cVeneerlaw07Awake cDescNew cVeneerlaw07Play cVeneerDescTableAll cVeneerDescTableOpen v3 v5 H) v3 v5 H
theorem veneerlaw07DescLowestC10Eq (cal : FuncId → Bool) (φ : Oracle) (N : Nat) (cVeneerlaw07Awake cDescNew cVeneerlaw07Play cVeneerDescTableAll cVeneerDescTableOpen : FuncId) {k : KT (IV × Heap)} (hR : ∀ σ H, k .ret σ H = resK [(.tmp 2)] [] σ H) : ∀ (σ : Sg) (H : Heap), lxK cal φ N (veneerlaw07DescLowestC10 cVeneerlaw07Awake cDescNew cVeneerlaw07Play cVeneerDescTableAll cVeneerDescTableOpen) σ H k = veneerlaw07DescLowestC10S cal φ N cVeneerlaw07Awake cDescNew cVeneerlaw07Play cVeneerDescTableAll cVeneerDescTableOpen (lk σ 3) (lk σ 5) H := by
  have hk : k = (kR (resK [(.tmp 2)] []) k) := (kR_mk hR rfl)
  intro σ H
  rw [hk]
  show lxK cal φ N (veneerlaw07DescLowestC5 cVeneerlaw07Awake cDescNew cVeneerlaw07Play cVeneerDescTableAll cVeneerDescTableOpen) σ H (seqK (lxK cal φ N (veneerlaw07DescLowestC9 cVeneerlaw07Awake cDescNew cVeneerlaw07Play cVeneerDescTableAll cVeneerDescTableOpen)) (kR (resK [(.tmp 2)] []) k)) = _
  rw [seqK_mk (g := fun σ H => veneerlaw07DescLowestC9S cal φ N cVeneerlaw07Awake cDescNew cVeneerlaw07Play cVeneerDescTableAll cVeneerDescTableOpen (lk σ 3) (lk σ 5) H) (veneerlaw07DescLowestC9Eq cal φ N cVeneerlaw07Awake cDescNew cVeneerlaw07Play cVeneerDescTableAll cVeneerDescTableOpen (k := (kR (resK [(.tmp 2)] []) k)) (fun _ _ => rfl))]
  exact veneerlaw07DescLowestC5Eq cal φ N cVeneerlaw07Awake cDescNew cVeneerlaw07Play cVeneerDescTableAll cVeneerDescTableOpen (k := (kN (fun σ H => veneerlaw07DescLowestC9S cal φ N cVeneerlaw07Awake cDescNew cVeneerlaw07Play cVeneerDescTableAll cVeneerDescTableOpen (lk σ 3) (lk σ 5) H) (kR (resK [(.tmp 2)] []) k))) (fun v3 v5 H => veneerlaw07DescLowestC9S cal φ N cVeneerlaw07Awake cDescNew cVeneerlaw07Play cVeneerDescTableAll cVeneerDescTableOpen v3 v5 H) (fun _ _ => rfl) σ H
def veneerlaw07DescLowestC11S (cal : FuncId → Bool) (φ : Oracle) (N : Nat) (cVeneerlaw07Awake cDescNew cVeneerlaw07Play cVeneerDescTableAll cVeneerDescTableOpen : FuncId) (v3 : IV) (H : Heap) : Option (IV × Heap) :=
    ob (lmkM H) fun r1 =>
    veneerlaw07DescLowestC10S cal φ N cVeneerlaw07Awake cDescNew cVeneerlaw07Play cVeneerDescTableAll cVeneerDescTableOpen v3 r1.1 r1.2
theorem veneerlaw07DescLowestC11Eq (cal : FuncId → Bool) (φ : Oracle) (N : Nat) (cVeneerlaw07Awake cDescNew cVeneerlaw07Play cVeneerDescTableAll cVeneerDescTableOpen : FuncId) {k : KT (IV × Heap)} (hR : ∀ σ H, k .ret σ H = resK [(.tmp 2)] [] σ H) : ∀ (σ : Sg) (H : Heap), lxK cal φ N (veneerlaw07DescLowestC11 cVeneerlaw07Awake cDescNew cVeneerlaw07Play cVeneerDescTableAll cVeneerDescTableOpen) σ H k = veneerlaw07DescLowestC11S cal φ N cVeneerlaw07Awake cDescNew cVeneerlaw07Play cVeneerDescTableAll cVeneerDescTableOpen (lk σ 3) H := by
  have hk : k = (kR (resK [(.tmp 2)] []) k) := (kR_mk hR rfl)
  intro σ H
  rw [hk]
  show lxK cal φ N (.reg [
    ⟨(some 30), .mkM, none⟩,
    ⟨(some 5), (.mv (.t 30)), none⟩]) σ H (seqK (lxK cal φ N (veneerlaw07DescLowestC10 cVeneerlaw07Awake cDescNew cVeneerlaw07Play cVeneerDescTableAll cVeneerDescTableOpen)) (kR (resK [(.tmp 2)] []) k)) = _
  rw [seqK_mk (g := fun σ H => veneerlaw07DescLowestC10S cal φ N cVeneerlaw07Awake cDescNew cVeneerlaw07Play cVeneerDescTableAll cVeneerDescTableOpen (lk σ 3) (lk σ 5) H) (veneerlaw07DescLowestC10Eq cal φ N cVeneerlaw07Awake cDescNew cVeneerlaw07Play cVeneerDescTableAll cVeneerDescTableOpen (k := (kR (resK [(.tmp 2)] []) k)) (fun _ _ => rfl))]
  kernel_rfl
def veneerlaw07DescLowestC0S (cal : FuncId → Bool) (φ : Oracle) (N : Nat) (cVeneerlaw07Awake cDescNew cVeneerlaw07Play cVeneerDescTableAll cVeneerDescTableOpen : FuncId) (gE0 : IV → Heap → Option (IV × Heap)) : Nat → IV → IV → IV → Heap → Option (IV × Heap)
  | 0, _, _, _, _ => none
  | n + 1, v0, v3, v4, H =>
    ob (llen H .slice v0) fun t1 =>
    ob (lbin .lss v4 t1) fun t2 =>
    ob (gq (isB t2 true) (some v4)) fun t3 =>
    ob (gq (isB t2 true) (lbin .lss t3 (.int .i64 120))) fun t4 =>
    ob (lpick t2 t4 (.bool false)) fun t5 =>
    cnd t5
    (ob (lix 8 v0 v4) fun t6 =>
    ob (lloadn H 8 t6) fun t7 =>
    ob (φ cVeneerlaw07Play [v3, t7] H) fun r8 =>
    ob (lbin .add v4 (.int .i64 1)) fun t9 =>
    veneerlaw07DescLowestC0S cal φ N cVeneerlaw07Awake cDescNew cVeneerlaw07Play cVeneerDescTableAll cVeneerDescTableOpen gE0 n v0 v3 t9 r8.2)
    (gE0 v3 H)
theorem veneerlaw07DescLowestC0Eq (cal : FuncId → Bool) (φ : Oracle) (N : Nat) (cVeneerlaw07Awake cDescNew cVeneerlaw07Play cVeneerDescTableAll cVeneerDescTableOpen : FuncId) {k : KT (IV × Heap)} (gE0 : IV → Heap → Option (IV × Heap)) (hgE0 : ∀ σ H, k (.exit 0) σ H = gE0 (lk σ 3) H) : ∀ (n : Nat) (σ : Sg) (H : Heap), itK (lxK cal φ N (.seq (.seq (.reg [
    ⟨(some 14), (.mv (.t 4)), none⟩,
    ⟨(some 15), (.mv (.t 0)), none⟩,
    ⟨(some 16), (.len .slice (.t 15)), none⟩,
    ⟨(some 17), (.bin .lss (.t 14) (.t 16)), none⟩,
    ⟨(some 18), (.mv (.t 17)), none⟩,
    ⟨(some 19), (.mv (.t 4)), (some (18, true))⟩,
    ⟨(some 20), (.bin .lss (.t 19) (.k (.int .i64 120))), (some (18, true))⟩,
    ⟨(some 21), (.pick (.t 18) (.t 20) (.k (.bool false))), none⟩])
  (.cond (.t 21) .skip
  (.exit 0)))
  (.seq (.block 1 (.reg [
    ⟨(some 24), (.mv (.t 3)), none⟩,
    ⟨(some 25), (.mv (.t 0)), none⟩,
    ⟨(some 26), (.mv (.t 4)), none⟩,
    ⟨(some 27), (.ix 8 (.t 25) (.t 26)), none⟩,
    ⟨(some 28), (.ldn 8 (.t 27)), none⟩,
    ⟨(some 29), (.callF cVeneerlaw07Play [(.t 24), (.t 28)]), none⟩]))
  (.reg [
    ⟨(some 22), (.mv (.t 4)), none⟩,
    ⟨(some 23), (.bin .add (.t 22) (.k (.int .i64 1))), none⟩,
    ⟨(some 4), (.mv (.t 23)), none⟩])))) n σ H k = veneerlaw07DescLowestC0S cal φ N cVeneerlaw07Awake cDescNew cVeneerlaw07Play cVeneerDescTableAll cVeneerDescTableOpen gE0 n (lk σ 0) (lk σ 3) (lk σ 4) H := by
  have hk : k = (kE 0 (fun σ H => gE0 (lk σ 3) H) k) := (kE_mk hgE0 rfl)
  intro n
  induction n with
  | zero => intro σ H; rfl
  | succ n ih =>
    intro σ H
    rw [itK_succ, seqK_mk (g := fun σ H => veneerlaw07DescLowestC0S cal φ N cVeneerlaw07Awake cDescNew cVeneerlaw07Play cVeneerDescTableAll cVeneerDescTableOpen gE0 n (lk σ 0) (lk σ 3) (lk σ 4) H) ih, hk]
    kernel_rfl
def veneerlaw07DescLowestC1S (cal : FuncId → Bool) (φ : Oracle) (N : Nat) (cVeneerlaw07Awake cDescNew cVeneerlaw07Play cVeneerDescTableAll cVeneerDescTableOpen : FuncId) (gN : IV → Heap → Option (IV × Heap)) (v0 v3 v4 : IV) (H : Heap) : Option (IV × Heap) :=
    veneerlaw07DescLowestC0S cal φ N cVeneerlaw07Awake cDescNew cVeneerlaw07Play cVeneerDescTableAll cVeneerDescTableOpen (fun v3 H => gN v3 H) N v0 v3 v4 H
theorem veneerlaw07DescLowestC1Eq (cal : FuncId → Bool) (φ : Oracle) (N : Nat) (cVeneerlaw07Awake cDescNew cVeneerlaw07Play cVeneerDescTableAll cVeneerDescTableOpen : FuncId) {k : KT (IV × Heap)} (gN : IV → Heap → Option (IV × Heap)) (hgN : ∀ σ H, k .normal σ H = gN (lk σ 3) H) : ∀ (σ : Sg) (H : Heap), lxK cal φ N (veneerlaw07DescLowestC1 cVeneerlaw07Awake cDescNew cVeneerlaw07Play cVeneerDescTableAll cVeneerDescTableOpen) σ H k = veneerlaw07DescLowestC1S cal φ N cVeneerlaw07Awake cDescNew cVeneerlaw07Play cVeneerDescTableAll cVeneerDescTableOpen gN (lk σ 0) (lk σ 3) (lk σ 4) H := by
  have hk : k = (kN (fun σ H => gN (lk σ 3) H) k) := (kN_mk hgN rfl)
  intro σ H
  rw [hk]
  show lxK cal φ N (veneerlaw07DescLowestC0 cVeneerlaw07Awake cDescNew cVeneerlaw07Play cVeneerDescTableAll cVeneerDescTableOpen) σ H (blockK 0 (kN (fun σ H => gN (lk σ 3) H) k)) = _
  exact veneerlaw07DescLowestC0Eq cal φ N cVeneerlaw07Awake cDescNew cVeneerlaw07Play cVeneerDescTableAll cVeneerDescTableOpen (k := (blockK 0 (kN (fun σ H => gN (lk σ 3) H) k))) (fun v3 H => gN v3 H) (fun _ _ => rfl) N σ H
def veneerlaw07DescLowestC2S (cal : FuncId → Bool) (φ : Oracle) (N : Nat) (cVeneerlaw07Awake cDescNew cVeneerlaw07Play cVeneerDescTableAll cVeneerDescTableOpen : FuncId) (gN : IV → Heap → Option (IV × Heap)) (v0 v3 : IV) (H : Heap) : Option (IV × Heap) :=
    veneerlaw07DescLowestC1S cal φ N cVeneerlaw07Awake cDescNew cVeneerlaw07Play cVeneerDescTableAll cVeneerDescTableOpen (fun v3 H => gN v3 H) v0 v3 (.int .i64 0) H
theorem veneerlaw07DescLowestC2Eq (cal : FuncId → Bool) (φ : Oracle) (N : Nat) (cVeneerlaw07Awake cDescNew cVeneerlaw07Play cVeneerDescTableAll cVeneerDescTableOpen : FuncId) {k : KT (IV × Heap)} (gN : IV → Heap → Option (IV × Heap)) (hgN : ∀ σ H, k .normal σ H = gN (lk σ 3) H) : ∀ (σ : Sg) (H : Heap), lxK cal φ N (veneerlaw07DescLowestC2 cVeneerlaw07Awake cDescNew cVeneerlaw07Play cVeneerDescTableAll cVeneerDescTableOpen) σ H k = veneerlaw07DescLowestC2S cal φ N cVeneerlaw07Awake cDescNew cVeneerlaw07Play cVeneerDescTableAll cVeneerDescTableOpen gN (lk σ 0) (lk σ 3) H := by
  have hk : k = (kN (fun σ H => gN (lk σ 3) H) k) := (kN_mk hgN rfl)
  intro σ H
  rw [hk]
  show lxK cal φ N (.reg [
    ⟨(some 4), (.mv (.k (.int .i64 0))), none⟩]) σ H (seqK (lxK cal φ N (veneerlaw07DescLowestC1 cVeneerlaw07Awake cDescNew cVeneerlaw07Play cVeneerDescTableAll cVeneerDescTableOpen)) (kN (fun σ H => gN (lk σ 3) H) k)) = _
  rw [seqK_mk (g := fun σ H => veneerlaw07DescLowestC1S cal φ N cVeneerlaw07Awake cDescNew cVeneerlaw07Play cVeneerDescTableAll cVeneerDescTableOpen (fun v3 H => gN v3 H) (lk σ 0) (lk σ 3) (lk σ 4) H) (veneerlaw07DescLowestC1Eq cal φ N cVeneerlaw07Awake cDescNew cVeneerlaw07Play cVeneerDescTableAll cVeneerDescTableOpen (k := (kN (fun σ H => gN (lk σ 3) H) k)) (fun v3 H => gN v3 H) (fun _ _ => rfl))]
  kernel_rfl
def veneerlaw07DescLowestC12S (cal : FuncId → Bool) (φ : Oracle) (N : Nat) (cVeneerlaw07Awake cDescNew cVeneerlaw07Play cVeneerDescTableAll cVeneerDescTableOpen : FuncId) (v0 v3 : IV) (H : Heap) : Option (IV × Heap) :=
    veneerlaw07DescLowestC2S cal φ N cVeneerlaw07Awake cDescNew cVeneerlaw07Play cVeneerDescTableAll cVeneerDescTableOpen (fun v3 H => veneerlaw07DescLowestC11S cal φ N cVeneerlaw07Awake cDescNew cVeneerlaw07Play cVeneerDescTableAll cVeneerDescTableOpen v3 H) v0 v3 H
theorem veneerlaw07DescLowestC12Eq (cal : FuncId → Bool) (φ : Oracle) (N : Nat) (cVeneerlaw07Awake cDescNew cVeneerlaw07Play cVeneerDescTableAll cVeneerDescTableOpen : FuncId) {k : KT (IV × Heap)} (hR : ∀ σ H, k .ret σ H = resK [(.tmp 2)] [] σ H) : ∀ (σ : Sg) (H : Heap), lxK cal φ N (veneerlaw07DescLowestC12 cVeneerlaw07Awake cDescNew cVeneerlaw07Play cVeneerDescTableAll cVeneerDescTableOpen) σ H k = veneerlaw07DescLowestC12S cal φ N cVeneerlaw07Awake cDescNew cVeneerlaw07Play cVeneerDescTableAll cVeneerDescTableOpen (lk σ 0) (lk σ 3) H := by
  have hk : k = (kR (resK [(.tmp 2)] []) k) := (kR_mk hR rfl)
  intro σ H
  rw [hk]
  show lxK cal φ N (veneerlaw07DescLowestC2 cVeneerlaw07Awake cDescNew cVeneerlaw07Play cVeneerDescTableAll cVeneerDescTableOpen) σ H (seqK (lxK cal φ N (veneerlaw07DescLowestC11 cVeneerlaw07Awake cDescNew cVeneerlaw07Play cVeneerDescTableAll cVeneerDescTableOpen)) (kR (resK [(.tmp 2)] []) k)) = _
  rw [seqK_mk (g := fun σ H => veneerlaw07DescLowestC11S cal φ N cVeneerlaw07Awake cDescNew cVeneerlaw07Play cVeneerDescTableAll cVeneerDescTableOpen (lk σ 3) H) (veneerlaw07DescLowestC11Eq cal φ N cVeneerlaw07Awake cDescNew cVeneerlaw07Play cVeneerDescTableAll cVeneerDescTableOpen (k := (kR (resK [(.tmp 2)] []) k)) (fun _ _ => rfl))]
  exact veneerlaw07DescLowestC2Eq cal φ N cVeneerlaw07Awake cDescNew cVeneerlaw07Play cVeneerDescTableAll cVeneerDescTableOpen (k := (kN (fun σ H => veneerlaw07DescLowestC11S cal φ N cVeneerlaw07Awake cDescNew cVeneerlaw07Play cVeneerDescTableAll cVeneerDescTableOpen (lk σ 3) H) (kR (resK [(.tmp 2)] []) k))) (fun v3 H => veneerlaw07DescLowestC11S cal φ N cVeneerlaw07Awake cDescNew cVeneerlaw07Play cVeneerDescTableAll cVeneerDescTableOpen v3 H) (fun _ _ => rfl) σ H
def veneerlaw07DescLowestC13S (cal : FuncId → Bool) (φ : Oracle) (N : Nat) (cVeneerlaw07Awake cDescNew cVeneerlaw07Play cVeneerDescTableAll cVeneerDescTableOpen : FuncId) (v0 : IV) (H : Heap) : Option (IV × Heap) :=
    ob (φ cDescNew [] H) fun r1 =>
    veneerlaw07DescLowestC12S cal φ N cVeneerlaw07Awake cDescNew cVeneerlaw07Play cVeneerDescTableAll cVeneerDescTableOpen v0 r1.1 r1.2
theorem veneerlaw07DescLowestC13Eq (cal : FuncId → Bool) (φ : Oracle) (N : Nat) (cVeneerlaw07Awake cDescNew cVeneerlaw07Play cVeneerDescTableAll cVeneerDescTableOpen : FuncId) {k : KT (IV × Heap)} (hR : ∀ σ H, k .ret σ H = resK [(.tmp 2)] [] σ H) : ∀ (σ : Sg) (H : Heap), lxK cal φ N (veneerlaw07DescLowestC13 cVeneerlaw07Awake cDescNew cVeneerlaw07Play cVeneerDescTableAll cVeneerDescTableOpen) σ H k = veneerlaw07DescLowestC13S cal φ N cVeneerlaw07Awake cDescNew cVeneerlaw07Play cVeneerDescTableAll cVeneerDescTableOpen (lk σ 0) H := by
  have hk : k = (kR (resK [(.tmp 2)] []) k) := (kR_mk hR rfl)
  intro σ H
  rw [hk]
  show lxK cal φ N (.reg [
    ⟨(some 13), (.callF cDescNew []), none⟩,
    ⟨(some 3), (.mv (.t 13)), none⟩]) σ H (seqK (lxK cal φ N (veneerlaw07DescLowestC12 cVeneerlaw07Awake cDescNew cVeneerlaw07Play cVeneerDescTableAll cVeneerDescTableOpen)) (kR (resK [(.tmp 2)] []) k)) = _
  rw [seqK_mk (g := fun σ H => veneerlaw07DescLowestC12S cal φ N cVeneerlaw07Awake cDescNew cVeneerlaw07Play cVeneerDescTableAll cVeneerDescTableOpen (lk σ 0) (lk σ 3) H) (veneerlaw07DescLowestC12Eq cal φ N cVeneerlaw07Awake cDescNew cVeneerlaw07Play cVeneerDescTableAll cVeneerDescTableOpen (k := (kR (resK [(.tmp 2)] []) k)) (fun _ _ => rfl))]
  kernel_rfl
def veneerlaw07DescLowestC14S (cal : FuncId → Bool) (φ : Oracle) (N : Nat) (cVeneerlaw07Awake cDescNew cVeneerlaw07Play cVeneerDescTableAll cVeneerDescTableOpen : FuncId) (v0 : IV) (H : Heap) : Option (IV × Heap) :=
    ob (φ cVeneerlaw07Awake [] H) fun r1 =>
    ob (iun .not r1.1) fun t2 =>
    cnd t2
    (some ((.bool false), r1.2))
    (veneerlaw07DescLowestC13S cal φ N cVeneerlaw07Awake cDescNew cVeneerlaw07Play cVeneerDescTableAll cVeneerDescTableOpen v0 r1.2)
theorem veneerlaw07DescLowestC14Eq (cal : FuncId → Bool) (φ : Oracle) (N : Nat) (cVeneerlaw07Awake cDescNew cVeneerlaw07Play cVeneerDescTableAll cVeneerDescTableOpen : FuncId) {k : KT (IV × Heap)} (hR : ∀ σ H, k .ret σ H = resK [(.tmp 2)] [] σ H) : ∀ (σ : Sg) (H : Heap), lxK cal φ N (veneerlaw07DescLowestC14 cVeneerlaw07Awake cDescNew cVeneerlaw07Play cVeneerDescTableAll cVeneerDescTableOpen) σ H k = veneerlaw07DescLowestC14S cal φ N cVeneerlaw07Awake cDescNew cVeneerlaw07Play cVeneerDescTableAll cVeneerDescTableOpen (lk σ 0) H := by
  have hk : k = (kR (resK [(.tmp 2)] []) k) := (kR_mk hR rfl)
  intro σ H
  rw [hk]
  show lxK cal φ N (.seq (.reg [
    ⟨(some 11), (.callF cVeneerlaw07Awake []), none⟩,
    ⟨(some 12), (.un .not (.t 11)), none⟩])
  (.cond (.t 12) (.seq (.reg [
    ⟨(some 2), (.mv (.k (.bool false))), none⟩])
  .ret)
  .skip)) σ H (seqK (lxK cal φ N (veneerlaw07DescLowestC13 cVeneerlaw07Awake cDescNew cVeneerlaw07Play cVeneerDescTableAll cVeneerDescTableOpen)) (kR (resK [(.tmp 2)] []) k)) = _
  rw [seqK_mk (g := fun σ H => veneerlaw07DescLowestC13S cal φ N cVeneerlaw07Awake cDescNew cVeneerlaw07Play cVeneerDescTableAll cVeneerDescTableOpen (lk σ 0) H) (veneerlaw07DescLowestC13Eq cal φ N cVeneerlaw07Awake cDescNew cVeneerlaw07Play cVeneerDescTableAll cVeneerDescTableOpen (k := (kR (resK [(.tmp 2)] []) k)) (fun _ _ => rfl))]
  kernel_rfl
def veneerlaw07DescLowestC15S (cal : FuncId → Bool) (φ : Oracle) (N : Nat) (cVeneerlaw07Awake cDescNew cVeneerlaw07Play cVeneerDescTableAll cVeneerDescTableOpen : FuncId) (v0 : IV) (H : Heap) : Option (IV × Heap) :=
    veneerlaw07DescLowestC14S cal φ N cVeneerlaw07Awake cDescNew cVeneerlaw07Play cVeneerDescTableAll cVeneerDescTableOpen v0 H
theorem veneerlaw07DescLowestC15Eq (cal : FuncId → Bool) (φ : Oracle) (N : Nat) (cVeneerlaw07Awake cDescNew cVeneerlaw07Play cVeneerDescTableAll cVeneerDescTableOpen : FuncId) {k : KT (IV × Heap)} (hR : ∀ σ H, k .ret σ H = resK [(.tmp 2)] [] σ H) : ∀ (σ : Sg) (H : Heap), lxK cal φ N (veneerlaw07DescLowestC15 cVeneerlaw07Awake cDescNew cVeneerlaw07Play cVeneerDescTableAll cVeneerDescTableOpen) σ H k = veneerlaw07DescLowestC15S cal φ N cVeneerlaw07Awake cDescNew cVeneerlaw07Play cVeneerDescTableAll cVeneerDescTableOpen (lk σ 0) H := by
  have hk : k = (kR (resK [(.tmp 2)] []) k) := (kR_mk hR rfl)
  intro σ H
  rw [hk]
  show lxK cal φ N (.reg [
    ⟨(some 2), (.mv (.k (.bool false))), none⟩]) σ H (seqK (lxK cal φ N (veneerlaw07DescLowestC14 cVeneerlaw07Awake cDescNew cVeneerlaw07Play cVeneerDescTableAll cVeneerDescTableOpen)) (kR (resK [(.tmp 2)] []) k)) = _
  rw [seqK_mk (g := fun σ H => veneerlaw07DescLowestC14S cal φ N cVeneerlaw07Awake cDescNew cVeneerlaw07Play cVeneerDescTableAll cVeneerDescTableOpen (lk σ 0) H) (veneerlaw07DescLowestC14Eq cal φ N cVeneerlaw07Awake cDescNew cVeneerlaw07Play cVeneerDescTableAll cVeneerDescTableOpen (k := (kR (resK [(.tmp 2)] []) k)) (fun _ _ => rfl))]
  kernel_rfl
def veneerlaw07DescLowest (cVeneerlaw07Awake cDescNew cVeneerlaw07Play cVeneerDescTableAll cVeneerDescTableOpen : FuncId) : LFun := ⟨(veneerlaw07DescLowestC15 cVeneerlaw07Awake cDescNew cVeneerlaw07Play cVeneerDescTableAll cVeneerDescTableOpen), [(.tmp 2)], 72⟩
def veneerlaw07DescLowestS (cal : FuncId → Bool) (φ : Oracle) (N : Nat) (cVeneerlaw07Awake cDescNew cVeneerlaw07Play cVeneerDescTableAll cVeneerDescTableOpen : FuncId) (v0 : IV) (H : Heap) : Option (IV × Heap) :=
    veneerlaw07DescLowestC15S cal φ N cVeneerlaw07Awake cDescNew cVeneerlaw07Play cVeneerDescTableAll cVeneerDescTableOpen v0 H
theorem veneerlaw07DescLowestEq (cal : FuncId → Bool) (φ : Oracle) (N : Nat) (cVeneerlaw07Awake cDescNew cVeneerlaw07Play cVeneerDescTableAll cVeneerDescTableOpen : FuncId) (v0 : IV) (H : Heap) : lrunK cal φ N (veneerlaw07DescLowest cVeneerlaw07Awake cDescNew cVeneerlaw07Play cVeneerDescTableAll cVeneerDescTableOpen) [v0] H = veneerlaw07DescLowestS cal φ N cVeneerlaw07Awake cDescNew cVeneerlaw07Play cVeneerDescTableAll cVeneerDescTableOpen v0 H := by
  show lxK cal φ N (veneerlaw07DescLowestC15 cVeneerlaw07Awake cDescNew cVeneerlaw07Play cVeneerDescTableAll cVeneerDescTableOpen) (initFrom 0 [v0]) H (endK [(.tmp 2)]) = _
  exact veneerlaw07DescLowestC15Eq cal φ N cVeneerlaw07Awake cDescNew cVeneerlaw07Play cVeneerDescTableAll cVeneerDescTableOpen (k := (endK [(.tmp 2)])) (fun _ _ => rfl) (initFrom 0 [v0]) H

end Go.Shade
/- DESC: low code of a law of the layer 'desc'. Printed by gen.py. -/
namespace Go.Shade
set_option linter.unusedVariables false
def veneerlaw07DescFullsC0 (cVeneerlaw07Awake cDescNew cVeneerDescTableOpen cVeneerDescTableClose cVeneerDescTableFull cVeneerDescTableAll : FuncId) : LC := .loop (.seq (.seq (.reg [
    ⟨(some 14), (.mv (.t 5)), none⟩,
    ⟨(some 15), (.mv (.t 0)), none⟩,
    ⟨(some 16), (.len .slice (.t 15)), none⟩,
    ⟨(some 17), (.bin .lss (.t 14) (.t 16)), none⟩,
    ⟨(some 18), (.mv (.t 17)), none⟩,
    ⟨(some 19), (.mv (.t 5)), (some (18, true))⟩,
    ⟨(some 20), (.bin .lss (.t 19) (.k (.int .i64 120))), (some (18, true))⟩,
    ⟨(some 21), (.pick (.t 18) (.t 20) (.k (.bool false))), none⟩])
  (.cond (.t 21) .skip
  (.exit 0)))
  (.seq (.block 1 (.seq (.reg [
    ⟨(some 24), (.mv (.t 0)), none⟩,
    ⟨(some 25), (.mv (.t 5)), none⟩,
    ⟨(some 26), (.ix 8 (.t 24) (.t 25)), none⟩,
    ⟨(some 27), (.ldn 8 (.t 26)), none⟩,
    ⟨(some 6), (.zbox (.agg [(.int .i64 0), (.int .i64 0), (.int .i64 0), (.int .i64 0), (.int .i64 0), (.bool false), .nilSlice, (.int .i64 0)])), none⟩,
    ⟨none, (.st 8 (.t 6) (.t 27)), none⟩])
  (.seq (.seq (.reg [
    ⟨(some 28), (.off (.t 6) 0), none⟩,
    ⟨(some 29), (.ld1 (.t 28)), none⟩])
  (.block 2 (.seq (.reg [
    ⟨(some 31), (.bin .eql (.t 29) (.k (.int .i64 0))), none⟩,
    ⟨(some 30), (.mv (.t 31)), none⟩])
  (.cond (.t 30) (.seq (.reg [
    ⟨(some 33), (.mv (.t 3)), none⟩,
    ⟨(some 34), (.mv (.t 5)), none⟩,
    ⟨(some 35), (.bld [(.int .i64 0), (.int .i64 0), (.int .i64 0), (.bool false), .nilSlice, (.int .i64 0)] [(0, (1, (.t 34)))]), none⟩,
    ⟨(some 36), (.callF cVeneerDescTableOpen [(.t 33), (.t 35)]), none⟩,
    ⟨(some 32), (.mv (.t 36)), none⟩,
    ⟨(some 37), (.ext (.t 32) 0), none⟩,
    ⟨(some 38), (.ext (.t 32) 1), none⟩,
    ⟨(some 7), (.mv (.t 37)), none⟩,
    ⟨(some 8), (.mv (.t 38)), none⟩])
  (.seq (.seq (.reg [
    ⟨(some 39), (.mv (.t 8)), none⟩,
    ⟨(some 40), (.bin .eql (.t 39) (.k (.int .i64 0))), none⟩,
    ⟨(some 41), (.mv (.t 4)), none⟩,
    ⟨(some 42), (.bin .lss (.t 41) (.k (.int .i64 32))), none⟩,
    ⟨(some 43), (.eqv true .bool (.t 40) (.t 42)), none⟩])
  (.cond (.t 43) (.seq (.reg [
    ⟨(some 2), (.mv (.k (.bool false))), none⟩])
  .ret)
  .skip))
  (.seq (.reg [
    ⟨(some 44), (.mv (.t 8)), none⟩,
    ⟨(some 45), (.bin .eql (.t 44) (.k (.int .i64 0))), none⟩])
  (.cond (.t 45) (.reg [
    ⟨(some 46), (.mv (.t 4)), none⟩,
    ⟨(some 47), (.bin .add (.t 46) (.k (.int .i64 1))), none⟩,
    ⟨(some 4), (.mv (.t 47)), none⟩])
  .skip))))
  (.seq (.reg [
    ⟨(some 49), (.bin .eql (.t 29) (.k (.int .i64 1))), none⟩,
    ⟨(some 48), (.mv (.t 49)), none⟩])
  (.cond (.t 48) (.seq (.reg [
    ⟨(some 51), (.mv (.t 3)), none⟩,
    ⟨(some 52), (.off (.t 6) 1), none⟩,
    ⟨(some 53), (.ld1 (.t 52)), none⟩,
    ⟨(some 54), (.callF cVeneerDescTableClose [(.t 51), (.t 53)]), none⟩,
    ⟨(some 50), (.mv (.t 54)), none⟩,
    ⟨(some 55), (.ext (.t 50) 0), none⟩,
    ⟨(some 56), (.ext (.t 50) 1), none⟩,
    ⟨(some 9), (.zbox (.agg [(.int .i64 0), (.int .i64 0), (.int .i64 0), (.bool false), .nilSlice, (.int .i64 0)])), none⟩,
    ⟨none, (.st 6 (.t 9) (.t 55)), none⟩,
    ⟨(some 10), (.mv (.t 56)), none⟩])
  (.seq (.reg [
    ⟨(some 57), (.mv (.t 10)), none⟩,
    ⟨(some 58), (.bin .eql (.t 57) (.k (.int .i64 0))), none⟩])
  (.cond (.t 58) (.reg [
    ⟨(some 59), (.mv (.t 4)), none⟩,
    ⟨(some 60), (.bin .sub (.t 59) (.k (.int .i64 1))), none⟩,
    ⟨(some 4), (.mv (.t 60)), none⟩])
  .skip)))
  .skip))))))
  (.seq (.reg [
    ⟨(some 61), (.mv (.t 3)), none⟩,
    ⟨(some 62), (.callF cVeneerDescTableFull [(.t 61)]), none⟩,
    ⟨(some 63), (.mv (.t 4)), none⟩,
    ⟨(some 64), (.bin .eql (.t 63) (.k (.int .i64 32))), none⟩,
    ⟨(some 65), (.eqv true .bool (.t 62) (.t 64)), none⟩,
    ⟨(some 66), (.mv (.t 65)), none⟩,
    ⟨(some 67), (.mv (.t 3)), (some (66, false))⟩,
    ⟨(some 68), (.callF cVeneerDescTableAll [(.t 67)]), (some (66, false))⟩,
    ⟨(some 69), (.len .slice (.t 68)), (some (66, false))⟩,
    ⟨(some 70), (.mv (.t 4)), (some (66, false))⟩,
    ⟨(some 71), (.bin .neq (.t 69) (.t 70)), (some (66, false))⟩,
    ⟨(some 72), (.pick (.t 66) (.k (.bool true)) (.t 71)), none⟩])
  (.cond (.t 72) (.seq (.reg [
    ⟨(some 2), (.mv (.k (.bool false))), none⟩])
  .ret)
  .skip)))))
  (.reg [
    ⟨(some 22), (.mv (.t 5)), none⟩,
    ⟨(some 23), (.bin .add (.t 22) (.k (.int .i64 1))), none⟩,
    ⟨(some 5), (.mv (.t 23)), none⟩])))
def veneerlaw07DescFullsC1 (cVeneerlaw07Awake cDescNew cVeneerDescTableOpen cVeneerDescTableClose cVeneerDescTableFull cVeneerDescTableAll : FuncId) : LC := .block 0 (veneerlaw07DescFullsC0 cVeneerlaw07Awake cDescNew cVeneerDescTableOpen cVeneerDescTableClose cVeneerDescTableFull cVeneerDescTableAll)
def veneerlaw07DescFullsC2 (cVeneerlaw07Awake cDescNew cVeneerDescTableOpen cVeneerDescTableClose cVeneerDescTableFull cVeneerDescTableAll : FuncId) : LC := .seq (.reg [
    ⟨(some 5), (.mv (.k (.int .i64 0))), none⟩]) (veneerlaw07DescFullsC1 cVeneerlaw07Awake cDescNew cVeneerDescTableOpen cVeneerDescTableClose cVeneerDescTableFull cVeneerDescTableAll)
def veneerlaw07DescFullsC3 (cVeneerlaw07Awake cDescNew cVeneerDescTableOpen cVeneerDescTableClose cVeneerDescTableFull cVeneerDescTableAll : FuncId) : LC := .seq (veneerlaw07DescFullsC2 cVeneerlaw07Awake cDescNew cVeneerDescTableOpen cVeneerDescTableClose cVeneerDescTableFull cVeneerDescTableAll) (.seq (.reg [
    ⟨(some 2), (.mv (.k (.bool true))), none⟩])
  .ret)
def veneerlaw07DescFullsC4 (cVeneerlaw07Awake cDescNew cVeneerDescTableOpen cVeneerDescTableClose cVeneerDescTableFull cVeneerDescTableAll : FuncId) : LC := .seq (.reg [
    ⟨(some 4), (.mv (.k (.int .i64 0))), none⟩]) (veneerlaw07DescFullsC3 cVeneerlaw07Awake cDescNew cVeneerDescTableOpen cVeneerDescTableClose cVeneerDescTableFull cVeneerDescTableAll)
def veneerlaw07DescFullsC5 (cVeneerlaw07Awake cDescNew cVeneerDescTableOpen cVeneerDescTableClose cVeneerDescTableFull cVeneerDescTableAll : FuncId) : LC := .seq (.reg [
    ⟨(some 13), (.callF cDescNew []), none⟩,
    ⟨(some 3), (.mv (.t 13)), none⟩]) (veneerlaw07DescFullsC4 cVeneerlaw07Awake cDescNew cVeneerDescTableOpen cVeneerDescTableClose cVeneerDescTableFull cVeneerDescTableAll)
def veneerlaw07DescFullsC6 (cVeneerlaw07Awake cDescNew cVeneerDescTableOpen cVeneerDescTableClose cVeneerDescTableFull cVeneerDescTableAll : FuncId) : LC := .seq (.seq (.reg [
    ⟨(some 11), (.callF cVeneerlaw07Awake []), none⟩,
    ⟨(some 12), (.un .not (.t 11)), none⟩])
  (.cond (.t 12) (.seq (.reg [
    ⟨(some 2), (.mv (.k (.bool false))), none⟩])
  .ret)
  .skip)) (veneerlaw07DescFullsC5 cVeneerlaw07Awake cDescNew cVeneerDescTableOpen cVeneerDescTableClose cVeneerDescTableFull cVeneerDescTableAll)
def veneerlaw07DescFullsC7 (cVeneerlaw07Awake cDescNew cVeneerDescTableOpen cVeneerDescTableClose cVeneerDescTableFull cVeneerDescTableAll : FuncId) : LC := .seq (.reg [
    ⟨(some 2), (.mv (.k (.bool false))), none⟩]) (veneerlaw07DescFullsC6 cVeneerlaw07Awake cDescNew cVeneerDescTableOpen cVeneerDescTableClose cVeneerDescTableFull cVeneerDescTableAll)
def veneerlaw07DescFullsC0S (cal : FuncId → Bool) (φ : Oracle) (N : Nat) (cVeneerlaw07Awake cDescNew cVeneerDescTableOpen cVeneerDescTableClose cVeneerDescTableFull cVeneerDescTableAll : FuncId) (gE0 : Heap → Option (IV × Heap)) : Nat → IV → IV → IV → IV → Heap → Option (IV × Heap)
  | 0, _, _, _, _, _ => none
  | n + 1, v0, v3, v4, v5, H =>
    ob (llen H .slice v0) fun t1 =>
    ob (lbin .lss v5 t1) fun t2 =>
    ob (gq (isB t2 true) (some v5)) fun t3 =>
    ob (gq (isB t2 true) (lbin .lss t3 (.int .i64 120))) fun t4 =>
    ob (lpick t2 t4 (.bool false)) fun t5 =>
    cnd t5
    (ob (lix 8 v0 v5) fun t6 =>
    ob (lloadn H 8 t6) fun t7 =>
    ob (lzbox H (.agg [(.int .i64 0), (.int .i64 0), (.int .i64 0), (.int .i64 0), (.int .i64 0), (.bool false), .nilSlice, (.int .i64 0)])) fun r8 =>
    ob (lstV r8.2 8 r8.1 t7) fun r9 =>
    ob (loff r8.1 0) fun t10 =>
    ob (lload1 r9.2 t10) fun t11 =>
    jn (fun (j13 : IV) (H47 : Heap) =>
    ob (φ cVeneerDescTableFull [v3] H47) fun r48 =>
    ob (lbin .eql j13 (.int .i64 32)) fun t49 =>
    ob (leqv true (leq .bool r48.1 t49)) fun t50 =>
    ob (gq (isB t50 false) (some v3)) fun t51 =>
    ob (ge (isB t50 false) r48.2 (φ cVeneerDescTableAll [t51] r48.2)) fun r52 =>
    ob (gq (isB t50 false) (llen r52.2 .slice r52.1)) fun t53 =>
    ob (gq (isB t50 false) (some j13)) fun t54 =>
    ob (gq (isB t50 false) (lbin .neq t53 t54)) fun t55 =>
    ob (lpick t50 (.bool true) t55) fun t56 =>
    cnd t56
    (some ((.bool false), r52.2))
    (ob (lbin .add v5 (.int .i64 1)) fun t57 =>
    veneerlaw07DescFullsC0S cal φ N cVeneerlaw07Awake cDescNew cVeneerDescTableOpen cVeneerDescTableClose cVeneerDescTableFull cVeneerDescTableAll gE0 n v0 v3 j13 t57 r52.2)) fun J12 =>
    ob (lbin .eql t11 (.int .i64 0)) fun t58 =>
    cnd t58
    (ob (lbld [(.int .i64 0), (.int .i64 0), (.int .i64 0), (.bool false), .nilSlice, (.int .i64 0)] [(0, 1, v5)]) fun t59 =>
    ob (φ cVeneerDescTableOpen [v3, t59] r9.2) fun r60 =>
    ob (iextract r60.1 0) fun t61 =>
    ob (iextract r60.1 1) fun t62 =>
    ob (lbin .eql t62 (.int .i64 0)) fun t63 =>
    ob (lbin .lss v4 (.int .i64 32)) fun t64 =>
    ob (leqv true (leq .bool t63 t64)) fun t65 =>
    cnd t65
    (some ((.bool false), r60.2))
    (ob (lbin .eql t62 (.int .i64 0)) fun t66 =>
    cnd t66
    (ob (lbin .add v4 (.int .i64 1)) fun t67 =>
    J12 t67 r60.2)
    (J12 v4 r60.2)))
    (ob (lbin .eql t11 (.int .i64 1)) fun t68 =>
    cnd t68
    (ob (loff r8.1 1) fun t69 =>
    ob (lload1 r9.2 t69) fun t70 =>
    ob (φ cVeneerDescTableClose [v3, t70] r9.2) fun r71 =>
    ob (iextract r71.1 0) fun t72 =>
    ob (iextract r71.1 1) fun t73 =>
    ob (lzbox r71.2 (.agg [(.int .i64 0), (.int .i64 0), (.int .i64 0), (.bool false), .nilSlice, (.int .i64 0)])) fun r74 =>
    ob (lstV r74.2 6 r74.1 t72) fun r75 =>
    ob (lbin .eql t73 (.int .i64 0)) fun t76 =>
    cnd t76
    (ob (lbin .sub v4 (.int .i64 1)) fun t77 =>
    J12 t77 r75.2)
    (J12 v4 r75.2))
    (J12 v4 r9.2)))
    (gE0 H)
theorem veneerlaw07DescFullsC0Eq (cal : FuncId → Bool) (φ : Oracle) (N : Nat) (cVeneerlaw07Awake cDescNew cVeneerDescTableOpen cVeneerDescTableClose cVeneerDescTableFull cVeneerDescTableAll : FuncId) {k : KT (IV × Heap)} (gE0 : Heap → Option (IV × Heap)) (hgE0 : ∀ σ H, k (.exit 0) σ H = gE0 H) (hR : ∀ σ H, k .ret σ H = resK [(.tmp 2)] [] σ H) : ∀ (n : Nat) (σ : Sg) (H : Heap), itK (lxK cal φ N (.seq (.seq (.reg [
    ⟨(some 14), (.mv (.t 5)), none⟩,
    ⟨(some 15), (.mv (.t 0)), none⟩,
    ⟨(some 16), (.len .slice (.t 15)), none⟩,
    ⟨(some 17), (.bin .lss (.t 14) (.t 16)), none⟩,
    ⟨(some 18), (.mv (.t 17)), none⟩,
    ⟨(some 19), (.mv (.t 5)), (some (18, true))⟩,
    ⟨(some 20), (.bin .lss (.t 19) (.k (.int .i64 120))), (some (18, true))⟩,
    ⟨(some 21), (.pick (.t 18) (.t 20) (.k (.bool false))), none⟩])
  (.cond (.t 21) .skip
  (.exit 0)))
  (.seq (.block 1 (.seq (.reg [
    ⟨(some 24), (.mv (.t 0)), none⟩,
    ⟨(some 25), (.mv (.t 5)), none⟩,
    ⟨(some 26), (.ix 8 (.t 24) (.t 25)), none⟩,
    ⟨(some 27), (.ldn 8 (.t 26)), none⟩,
    ⟨(some 6), (.zbox (.agg [(.int .i64 0), (.int .i64 0), (.int .i64 0), (.int .i64 0), (.int .i64 0), (.bool false), .nilSlice, (.int .i64 0)])), none⟩,
    ⟨none, (.st 8 (.t 6) (.t 27)), none⟩])
  (.seq (.seq (.reg [
    ⟨(some 28), (.off (.t 6) 0), none⟩,
    ⟨(some 29), (.ld1 (.t 28)), none⟩])
  (.block 2 (.seq (.reg [
    ⟨(some 31), (.bin .eql (.t 29) (.k (.int .i64 0))), none⟩,
    ⟨(some 30), (.mv (.t 31)), none⟩])
  (.cond (.t 30) (.seq (.reg [
    ⟨(some 33), (.mv (.t 3)), none⟩,
    ⟨(some 34), (.mv (.t 5)), none⟩,
    ⟨(some 35), (.bld [(.int .i64 0), (.int .i64 0), (.int .i64 0), (.bool false), .nilSlice, (.int .i64 0)] [(0, (1, (.t 34)))]), none⟩,
    ⟨(some 36), (.callF cVeneerDescTableOpen [(.t 33), (.t 35)]), none⟩,
    ⟨(some 32), (.mv (.t 36)), none⟩,
    ⟨(some 37), (.ext (.t 32) 0), none⟩,
    ⟨(some 38), (.ext (.t 32) 1), none⟩,
    ⟨(some 7), (.mv (.t 37)), none⟩,
    ⟨(some 8), (.mv (.t 38)), none⟩])
  (.seq (.seq (.reg [
    ⟨(some 39), (.mv (.t 8)), none⟩,
    ⟨(some 40), (.bin .eql (.t 39) (.k (.int .i64 0))), none⟩,
    ⟨(some 41), (.mv (.t 4)), none⟩,
    ⟨(some 42), (.bin .lss (.t 41) (.k (.int .i64 32))), none⟩,
    ⟨(some 43), (.eqv true .bool (.t 40) (.t 42)), none⟩])
  (.cond (.t 43) (.seq (.reg [
    ⟨(some 2), (.mv (.k (.bool false))), none⟩])
  .ret)
  .skip))
  (.seq (.reg [
    ⟨(some 44), (.mv (.t 8)), none⟩,
    ⟨(some 45), (.bin .eql (.t 44) (.k (.int .i64 0))), none⟩])
  (.cond (.t 45) (.reg [
    ⟨(some 46), (.mv (.t 4)), none⟩,
    ⟨(some 47), (.bin .add (.t 46) (.k (.int .i64 1))), none⟩,
    ⟨(some 4), (.mv (.t 47)), none⟩])
  .skip))))
  (.seq (.reg [
    ⟨(some 49), (.bin .eql (.t 29) (.k (.int .i64 1))), none⟩,
    ⟨(some 48), (.mv (.t 49)), none⟩])
  (.cond (.t 48) (.seq (.reg [
    ⟨(some 51), (.mv (.t 3)), none⟩,
    ⟨(some 52), (.off (.t 6) 1), none⟩,
    ⟨(some 53), (.ld1 (.t 52)), none⟩,
    ⟨(some 54), (.callF cVeneerDescTableClose [(.t 51), (.t 53)]), none⟩,
    ⟨(some 50), (.mv (.t 54)), none⟩,
    ⟨(some 55), (.ext (.t 50) 0), none⟩,
    ⟨(some 56), (.ext (.t 50) 1), none⟩,
    ⟨(some 9), (.zbox (.agg [(.int .i64 0), (.int .i64 0), (.int .i64 0), (.bool false), .nilSlice, (.int .i64 0)])), none⟩,
    ⟨none, (.st 6 (.t 9) (.t 55)), none⟩,
    ⟨(some 10), (.mv (.t 56)), none⟩])
  (.seq (.reg [
    ⟨(some 57), (.mv (.t 10)), none⟩,
    ⟨(some 58), (.bin .eql (.t 57) (.k (.int .i64 0))), none⟩])
  (.cond (.t 58) (.reg [
    ⟨(some 59), (.mv (.t 4)), none⟩,
    ⟨(some 60), (.bin .sub (.t 59) (.k (.int .i64 1))), none⟩,
    ⟨(some 4), (.mv (.t 60)), none⟩])
  .skip)))
  .skip))))))
  (.seq (.reg [
    ⟨(some 61), (.mv (.t 3)), none⟩,
    ⟨(some 62), (.callF cVeneerDescTableFull [(.t 61)]), none⟩,
    ⟨(some 63), (.mv (.t 4)), none⟩,
    ⟨(some 64), (.bin .eql (.t 63) (.k (.int .i64 32))), none⟩,
    ⟨(some 65), (.eqv true .bool (.t 62) (.t 64)), none⟩,
    ⟨(some 66), (.mv (.t 65)), none⟩,
    ⟨(some 67), (.mv (.t 3)), (some (66, false))⟩,
    ⟨(some 68), (.callF cVeneerDescTableAll [(.t 67)]), (some (66, false))⟩,
    ⟨(some 69), (.len .slice (.t 68)), (some (66, false))⟩,
    ⟨(some 70), (.mv (.t 4)), (some (66, false))⟩,
    ⟨(some 71), (.bin .neq (.t 69) (.t 70)), (some (66, false))⟩,
    ⟨(some 72), (.pick (.t 66) (.k (.bool true)) (.t 71)), none⟩])
  (.cond (.t 72) (.seq (.reg [
    ⟨(some 2), (.mv (.k (.bool false))), none⟩])
  .ret)
  .skip)))))
  (.reg [
    ⟨(some 22), (.mv (.t 5)), none⟩,
    ⟨(some 23), (.bin .add (.t 22) (.k (.int .i64 1))), none⟩,
    ⟨(some 5), (.mv (.t 23)), none⟩])))) n σ H k = veneerlaw07DescFullsC0S cal φ N cVeneerlaw07Awake cDescNew cVeneerDescTableOpen cVeneerDescTableClose cVeneerDescTableFull cVeneerDescTableAll gE0 n (lk σ 0) (lk σ 3) (lk σ 4) (lk σ 5) H := by
  have hk : k = (kE 0 (fun σ H => gE0 H) (kR (resK [(.tmp 2)] []) k)) := (kE_mk hgE0 (kR_mk hR rfl))
  intro n
  induction n with
  | zero => intro σ H; rfl
  | succ n ih =>
    intro σ H
    rw [itK_succ, seqK_mk (g := fun σ H => veneerlaw07DescFullsC0S cal φ N cVeneerlaw07Awake cDescNew cVeneerDescTableOpen cVeneerDescTableClose cVeneerDescTableFull cVeneerDescTableAll gE0 n (lk σ 0) (lk σ 3) (lk σ 4) (lk σ 5) H) ih, hk]
    kernel_rfl
def veneerlaw07DescFullsC1S (cal : FuncId → Bool) (φ : Oracle) (N : Nat) (cVeneerlaw07Awake cDescNew cVeneerDescTableOpen cVeneerDescTableClose cVeneerDescTableFull cVeneerDescTableAll : FuncId) (gN : Heap → Option (IV × Heap)) (v0 v3 v4 v5 : IV) (H : Heap) : Option (IV × Heap) :=
    veneerlaw07DescFullsC0S cal φ N cVeneerlaw07Awake cDescNew cVeneerDescTableOpen cVeneerDescTableClose cVeneerDescTableFull cVeneerDescTableAll (fun H => gN H) N v0 v3 v4 v5 H
theorem veneerlaw07DescFullsC1Eq (cal : FuncId → Bool) (φ : Oracle) (N : Nat) (cVeneerlaw07Awake cDescNew cVeneerDescTableOpen cVeneerDescTableClose cVeneerDescTableFull cVeneerDescTableAll : FuncId) {k : KT (IV × Heap)} (gN : Heap → Option (IV × Heap)) (hgN : ∀ σ H, k .normal σ H = gN H) (hR : ∀ σ H, k .ret σ H = resK [(.tmp 2)] [] σ H) : ∀ (σ : Sg) (H : Heap), lxK cal φ N (veneerlaw07DescFullsC1 cVeneerlaw07Awake cDescNew cVeneerDescTableOpen cVeneerDescTableClose cVeneerDescTableFull cVeneerDescTableAll) σ H k = veneerlaw07DescFullsC1S cal φ N cVeneerlaw07Awake cDescNew cVeneerDescTableOpen cVeneerDescTableClose cVeneerDescTableFull cVeneerDescTableAll gN (lk σ 0) (lk σ 3) (lk σ 4) (lk σ 5) H := by
  have hk : k = (kN (fun σ H => gN H) (kR (resK [(.tmp 2)] []) k)) := (kN_mk hgN (kR_mk hR rfl))
  intro σ H
  rw [hk]
  show lxK cal φ N (veneerlaw07DescFullsC0 cVeneerlaw07Awake cDescNew cVeneerDescTableOpen cVeneerDescTableClose cVeneerDescTableFull cVeneerDescTableAll) σ H (blockK 0 (kN (fun σ H => gN H) (kR (resK [(.tmp 2)] []) k))) = _
  exact veneerlaw07DescFullsC0Eq cal φ N cVeneerlaw07Awake cDescNew cVeneerDescTableOpen cVeneerDescTableClose cVeneerDescTableFull cVeneerDescTableAll (k := (blockK 0 (kN (fun σ H => gN H) (kR (resK [(.tmp 2)] []) k)))) (fun H => gN H) (fun _ _ => rfl) (fun _ _ => rfl) N σ H
def veneerlaw07DescFullsC2S (cal : FuncId → Bool) (φ : Oracle) (N : Nat) (cVeneerlaw07Awake cDescNew cVeneerDescTableOpen cVeneerDescTableClose cVeneerDescTableFull cVeneerDescTableAll : FuncId) (gN : Heap → Option (IV × Heap)) (v0 v3 v4 : IV) (H : Heap) : Option (IV × Heap) :=
    veneerlaw07DescFullsC1S cal φ N cVeneerlaw07Awake cDescNew cVeneerDescTableOpen cVeneerDescTableClose cVeneerDescTableFull cVeneerDescTableAll (fun H => gN H) v0 v3 v4 (.int .i64 0) H
theorem veneerlaw07DescFullsC2Eq (cal : FuncId → Bool) (φ : Oracle) (N : Nat) (cVeneerlaw07Awake cDescNew cVeneerDescTableOpen cVeneerDescTableClose cVeneerDescTableFull cVeneerDescTableAll : FuncId) {k : KT (IV × Heap)} (gN : Heap → Option (IV × Heap)) (hgN : ∀ σ H, k .normal σ H = gN H) (hR : ∀ σ H, k .ret σ H = resK [(.tmp 2)] [] σ H) : ∀ (σ : Sg) (H : Heap), lxK cal φ N (veneerlaw07DescFullsC2 cVeneerlaw07Awake cDescNew cVeneerDescTableOpen cVeneerDescTableClose cVeneerDescTableFull cVeneerDescTableAll) σ H k = veneerlaw07DescFullsC2S cal φ N cVeneerlaw07Awake cDescNew cVeneerDescTableOpen cVeneerDescTableClose cVeneerDescTableFull cVeneerDescTableAll gN (lk σ 0) (lk σ 3) (lk σ 4) H := by
  have hk : k = (kN (fun σ H => gN H) (kR (resK [(.tmp 2)] []) k)) := (kN_mk hgN (kR_mk hR rfl))
  intro σ H
  rw [hk]
  show lxK cal φ N (.reg [
    ⟨(some 5), (.mv (.k (.int .i64 0))), none⟩]) σ H (seqK (lxK cal φ N (veneerlaw07DescFullsC1 cVeneerlaw07Awake cDescNew cVeneerDescTableOpen cVeneerDescTableClose cVeneerDescTableFull cVeneerDescTableAll)) (kN (fun σ H => gN H) (kR (resK [(.tmp 2)] []) k))) = _
  rw [seqK_mk (g := fun σ H => veneerlaw07DescFullsC1S cal φ N cVeneerlaw07Awake cDescNew cVeneerDescTableOpen cVeneerDescTableClose cVeneerDescTableFull cVeneerDescTableAll (fun H => gN H) (lk σ 0) (lk σ 3) (lk σ 4) (lk σ 5) H) (veneerlaw07DescFullsC1Eq cal φ N cVeneerlaw07Awake cDescNew cVeneerDescTableOpen cVeneerDescTableClose cVeneerDescTableFull cVeneerDescTableAll (k := (kN (fun σ H => gN H) (kR (resK [(.tmp 2)] []) k))) (fun H => gN H) (fun _ _ => rfl) (fun _ _ => rfl))]
  kernel_rfl
def veneerlaw07DescFullsC3S (cal : FuncId → Bool) (φ : Oracle) (N : Nat) (cVeneerlaw07Awake cDescNew cVeneerDescTableOpen cVeneerDescTableClose cVeneerDescTableFull cVeneerDescTableAll : FuncId) (v0 v3 v4 : IV) (H : Heap) : Option (IV × Heap) :=
    veneerlaw07DescFullsC2S cal φ N cVeneerlaw07Awake cDescNew cVeneerDescTableOpen cVeneerDescTableClose cVeneerDescTableFull cVeneerDescTableAll (fun H => some ((.bool true), H)) v0 v3 v4 H
theorem veneerlaw07DescFullsC3Eq (cal : FuncId → Bool) (φ : Oracle) (N : Nat) (cVeneerlaw07Awake cDescNew cVeneerDescTableOpen cVeneerDescTableClose cVeneerDescTableFull cVeneerDescTableAll : FuncId) {k : KT (IV × Heap)} (hR : ∀ σ H, k .ret σ H = resK [(.tmp 2)] [] σ H) : ∀ (σ : Sg) (H : Heap), lxK cal φ N (veneerlaw07DescFullsC3 cVeneerlaw07Awake cDescNew cVeneerDescTableOpen cVeneerDescTableClose cVeneerDescTableFull cVeneerDescTableAll) σ H k = veneerlaw07DescFullsC3S cal φ N cVeneerlaw07Awake cDescNew cVeneerDescTableOpen cVeneerDescTableClose cVeneerDescTableFull cVeneerDescTableAll (lk σ 0) (lk σ 3) (lk σ 4) H := by
  have hk : k = (kR (resK [(.tmp 2)] []) k) := (kR_mk hR rfl)
  intro σ H
  rw [hk]
  show lxK cal φ N (veneerlaw07DescFullsC2 cVeneerlaw07Awake cDescNew cVeneerDescTableOpen cVeneerDescTableClose cVeneerDescTableFull cVeneerDescTableAll) σ H (seqK (lxK cal φ N (.seq (.reg [
    ⟨(some 2), (.mv (.k (.bool true))), none⟩])
  .ret)) (kR (resK [(.tmp 2)] []) k)) = _
  exact veneerlaw07DescFullsC2Eq cal φ N cVeneerlaw07Awake cDescNew cVeneerDescTableOpen cVeneerDescTableClose cVeneerDescTableFull cVeneerDescTableAll (k := (seqK (lxK cal φ N (.seq (.reg [
    ⟨(some 2), (.mv (.k (.bool true))), none⟩])
  .ret)) (kR (resK [(.tmp 2)] []) k))) (fun H => some ((.bool true), H)) (fun _ _ => rfl) (fun _ _ => rfl) σ H
def veneerlaw07DescFullsC4S (cal : FuncId → Bool) (φ : Oracle) (N : Nat) (cVeneerlaw07Awake cDescNew cVeneerDescTableOpen cVeneerDescTableClose cVeneerDescTableFull cVeneerDescTableAll : FuncId) (v0 v3 : IV) (H : Heap) : Option (IV × Heap) :=
    veneerlaw07DescFullsC3S cal φ N cVeneerlaw07Awake cDescNew cVeneerDescTableOpen cVeneerDescTableClose cVeneerDescTableFull cVeneerDescTableAll v0 v3 (.int .i64 0) H
theorem veneerlaw07DescFullsC4Eq (cal : FuncId → Bool) (φ : Oracle) (N : Nat) (cVeneerlaw07Awake cDescNew cVeneerDescTableOpen cVeneerDescTableClose cVeneerDescTableFull cVeneerDescTableAll : FuncId) {k : KT (IV × Heap)} (hR : ∀ σ H, k .ret σ H = resK [(.tmp 2)] [] σ H) : ∀ (σ : Sg) (H : Heap), lxK cal φ N (veneerlaw07DescFullsC4 cVeneerlaw07Awake cDescNew cVeneerDescTableOpen cVeneerDescTableClose cVeneerDescTableFull cVeneerDescTableAll) σ H k = veneerlaw07DescFullsC4S cal φ N cVeneerlaw07Awake cDescNew cVeneerDescTableOpen cVeneerDescTableClose cVeneerDescTableFull cVeneerDescTableAll (lk σ 0) (lk σ 3) H := by
  have hk : k = (kR (resK [(.tmp 2)] []) k) := (kR_mk hR rfl)
  intro σ H
  rw [hk]
  show lxK cal φ N (.reg [
    ⟨(some 4), (.mv (.k (.int .i64 0))), none⟩]) σ H (seqK (lxK cal φ N (veneerlaw07DescFullsC3 cVeneerlaw07Awake cDescNew cVeneerDescTableOpen cVeneerDescTableClose cVeneerDescTableFull cVeneerDescTableAll)) (kR (resK [(.tmp 2)] []) k)) = _
  rw [seqK_mk (g := fun σ H => veneerlaw07DescFullsC3S cal φ N cVeneerlaw07Awake cDescNew cVeneerDescTableOpen cVeneerDescTableClose cVeneerDescTableFull cVeneerDescTableAll (lk σ 0) (lk σ 3) (lk σ 4) H) (veneerlaw07DescFullsC3Eq cal φ N cVeneerlaw07Awake cDescNew cVeneerDescTableOpen cVeneerDescTableClose cVeneerDescTableFull cVeneerDescTableAll (k := (kR (resK [(.tmp 2)] []) k)) (fun _ _ => rfl))]
  kernel_rfl
def veneerlaw07DescFullsC5S (cal : FuncId → Bool) (φ : Oracle) (N : Nat) (cVeneerlaw07Awake cDescNew cVeneerDescTableOpen cVeneerDescTableClose cVeneerDescTableFull cVeneerDescTableAll : FuncId) (v0 : IV) (H : Heap) : Option (IV × Heap) :=
    ob (φ cDescNew [] H) fun r1 =>
    veneerlaw07DescFullsC4S cal φ N cVeneerlaw07Awake cDescNew cVeneerDescTableOpen cVeneerDescTableClose cVeneerDescTableFull cVeneerDescTableAll v0 r1.1 r1.2
theorem veneerlaw07DescFullsC5Eq (cal : FuncId → Bool) (φ : Oracle) (N : Nat) (cVeneerlaw07Awake cDescNew cVeneerDescTableOpen cVeneerDescTableClose cVeneerDescTableFull cVeneerDescTableAll : FuncId) {k : KT (IV × Heap)} (hR : ∀ σ H, k .ret σ H = resK [(.tmp 2)] [] σ H) : ∀ (σ : Sg) (H : Heap), lxK cal φ N (veneerlaw07DescFullsC5 cVeneerlaw07Awake cDescNew cVeneerDescTableOpen cVeneerDescTableClose cVeneerDescTableFull cVeneerDescTableAll) σ H k = veneerlaw07DescFullsC5S cal φ N cVeneerlaw07Awake cDescNew cVeneerDescTableOpen cVeneerDescTableClose cVeneerDescTableFull cVeneerDescTableAll (lk σ 0) H := by
  have hk : k = (kR (resK [(.tmp 2)] []) k) := (kR_mk hR rfl)
  intro σ H
  rw [hk]
  show lxK cal φ N (.reg [
    ⟨(some 13), (.callF cDescNew []), none⟩,
    ⟨(some 3), (.mv (.t 13)), none⟩]) σ H (seqK (lxK cal φ N (veneerlaw07DescFullsC4 cVeneerlaw07Awake cDescNew cVeneerDescTableOpen cVeneerDescTableClose cVeneerDescTableFull cVeneerDescTableAll)) (kR (resK [(.tmp 2)] []) k)) = _
  rw [seqK_mk (g := fun σ H => veneerlaw07DescFullsC4S cal φ N cVeneerlaw07Awake cDescNew cVeneerDescTableOpen cVeneerDescTableClose cVeneerDescTableFull cVeneerDescTableAll (lk σ 0) (lk σ 3) H) (veneerlaw07DescFullsC4Eq cal φ N cVeneerlaw07Awake cDescNew cVeneerDescTableOpen cVeneerDescTableClose cVeneerDescTableFull cVeneerDescTableAll (k := (kR (resK [(.tmp 2)] []) k)) (fun _ _ => rfl))]
  kernel_rfl
def veneerlaw07DescFullsC6S (cal : FuncId → Bool) (φ : Oracle) (N : Nat) (cVeneerlaw07Awake cDescNew cVeneerDescTableOpen cVeneerDescTableClose cVeneerDescTableFull cVeneerDescTableAll : FuncId) (v0 : IV) (H : Heap) : Option (IV × Heap) :=
    ob (φ cVeneerlaw07Awake [] H) fun r1 =>
    ob (iun .not r1.1) fun t2 =>
    cnd t2
    (some ((.bool false), r1.2))
    (veneerlaw07DescFullsC5S cal φ N cVeneerlaw07Awake cDescNew cVeneerDescTableOpen cVeneerDescTableClose cVeneerDescTableFull cVeneerDescTableAll v0 r1.2)
theorem veneerlaw07DescFullsC6Eq (cal : FuncId → Bool) (φ : Oracle) (N : Nat) (cVeneerlaw07Awake cDescNew cVeneerDescTableOpen cVeneerDescTableClose cVeneerDescTableFull cVeneerDescTableAll : FuncId) {k : KT (IV × Heap)} (hR : ∀ σ H, k .ret σ H = resK [(.tmp 2)] [] σ H) : ∀ (σ : Sg) (H : Heap), lxK cal φ N (veneerlaw07DescFullsC6 cVeneerlaw07Awake cDescNew cVeneerDescTableOpen cVeneerDescTableClose cVeneerDescTableFull cVeneerDescTableAll) σ H k = veneerlaw07DescFullsC6S cal φ N cVeneerlaw07Awake cDescNew cVeneerDescTableOpen cVeneerDescTableClose cVeneerDescTableFull cVeneerDescTableAll (lk σ 0) H := by
  have hk : k = (kR (resK [(.tmp 2)] []) k) := (kR_mk hR rfl)
  intro σ H
  rw [hk]
  show lxK cal φ N (.seq (.reg [
    ⟨(some 11), (.callF cVeneerlaw07Awake []), none⟩,
    ⟨(some 12), (.un .not (.t 11)), none⟩])
  (.cond (.t 12) (.seq (.reg [
    ⟨(some 2), (.mv (.k (.bool false))), none⟩])
  .ret)
  .skip)) σ H (seqK (lxK cal φ N (veneerlaw07DescFullsC5 cVeneerlaw07Awake cDescNew cVeneerDescTableOpen cVeneerDescTableClose cVeneerDescTableFull cVeneerDescTableAll)) (kR (resK [(.tmp 2)] []) k)) = _
  rw [seqK_mk (g := fun σ H => veneerlaw07DescFullsC5S cal φ N cVeneerlaw07Awake cDescNew cVeneerDescTableOpen cVeneerDescTableClose cVeneerDescTableFull cVeneerDescTableAll (lk σ 0) H) (veneerlaw07DescFullsC5Eq cal φ N cVeneerlaw07Awake cDescNew cVeneerDescTableOpen cVeneerDescTableClose cVeneerDescTableFull cVeneerDescTableAll (k := (kR (resK [(.tmp 2)] []) k)) (fun _ _ => rfl))]
  kernel_rfl
def veneerlaw07DescFullsC7S (cal : FuncId → Bool) (φ : Oracle) (N : Nat) (cVeneerlaw07Awake cDescNew cVeneerDescTableOpen cVeneerDescTableClose cVeneerDescTableFull cVeneerDescTableAll : FuncId) (v0 : IV) (H : Heap) : Option (IV × Heap) :=
    veneerlaw07DescFullsC6S cal φ N cVeneerlaw07Awake cDescNew cVeneerDescTableOpen cVeneerDescTableClose cVeneerDescTableFull cVeneerDescTableAll v0 H
theorem veneerlaw07DescFullsC7Eq (cal : FuncId → Bool) (φ : Oracle) (N : Nat) (cVeneerlaw07Awake cDescNew cVeneerDescTableOpen cVeneerDescTableClose cVeneerDescTableFull cVeneerDescTableAll : FuncId) {k : KT (IV × Heap)} (hR : ∀ σ H, k .ret σ H = resK [(.tmp 2)] [] σ H) : ∀ (σ : Sg) (H : Heap), lxK cal φ N (veneerlaw07DescFullsC7 cVeneerlaw07Awake cDescNew cVeneerDescTableOpen cVeneerDescTableClose cVeneerDescTableFull cVeneerDescTableAll) σ H k = veneerlaw07DescFullsC7S cal φ N cVeneerlaw07Awake cDescNew cVeneerDescTableOpen cVeneerDescTableClose cVeneerDescTableFull cVeneerDescTableAll (lk σ 0) H := by
  have hk : k = (kR (resK [(.tmp 2)] []) k) := (kR_mk hR rfl)
  intro σ H
  rw [hk]
  show lxK cal φ N (.reg [
    ⟨(some 2), (.mv (.k (.bool false))), none⟩]) σ H (seqK (lxK cal φ N (veneerlaw07DescFullsC6 cVeneerlaw07Awake cDescNew cVeneerDescTableOpen cVeneerDescTableClose cVeneerDescTableFull cVeneerDescTableAll)) (kR (resK [(.tmp 2)] []) k)) = _
  rw [seqK_mk (g := fun σ H => veneerlaw07DescFullsC6S cal φ N cVeneerlaw07Awake cDescNew cVeneerDescTableOpen cVeneerDescTableClose cVeneerDescTableFull cVeneerDescTableAll (lk σ 0) H) (veneerlaw07DescFullsC6Eq cal φ N cVeneerlaw07Awake cDescNew cVeneerDescTableOpen cVeneerDescTableClose cVeneerDescTableFull cVeneerDescTableAll (k := (kR (resK [(.tmp 2)] []) k)) (fun _ _ => rfl))]
  kernel_rfl
def veneerlaw07DescFulls (cVeneerlaw07Awake cDescNew cVeneerDescTableOpen cVeneerDescTableClose cVeneerDescTableFull cVeneerDescTableAll : FuncId) : LFun := ⟨(veneerlaw07DescFullsC7 cVeneerlaw07Awake cDescNew cVeneerDescTableOpen cVeneerDescTableClose cVeneerDescTableFull cVeneerDescTableAll), [(.tmp 2)], 73⟩
def veneerlaw07DescFullsS (cal : FuncId → Bool) (φ : Oracle) (N : Nat) (cVeneerlaw07Awake cDescNew cVeneerDescTableOpen cVeneerDescTableClose cVeneerDescTableFull cVeneerDescTableAll : FuncId) (v0 : IV) (H : Heap) : Option (IV × Heap) :=
    veneerlaw07DescFullsC7S cal φ N cVeneerlaw07Awake cDescNew cVeneerDescTableOpen cVeneerDescTableClose cVeneerDescTableFull cVeneerDescTableAll v0 H
theorem veneerlaw07DescFullsEq (cal : FuncId → Bool) (φ : Oracle) (N : Nat) (cVeneerlaw07Awake cDescNew cVeneerDescTableOpen cVeneerDescTableClose cVeneerDescTableFull cVeneerDescTableAll : FuncId) (v0 : IV) (H : Heap) : lrunK cal φ N (veneerlaw07DescFulls cVeneerlaw07Awake cDescNew cVeneerDescTableOpen cVeneerDescTableClose cVeneerDescTableFull cVeneerDescTableAll) [v0] H = veneerlaw07DescFullsS cal φ N cVeneerlaw07Awake cDescNew cVeneerDescTableOpen cVeneerDescTableClose cVeneerDescTableFull cVeneerDescTableAll v0 H := by
  show lxK cal φ N (veneerlaw07DescFullsC7 cVeneerlaw07Awake cDescNew cVeneerDescTableOpen cVeneerDescTableClose cVeneerDescTableFull cVeneerDescTableAll) (initFrom 0 [v0]) H (endK [(.tmp 2)]) = _
  exact veneerlaw07DescFullsC7Eq cal φ N cVeneerlaw07Awake cDescNew cVeneerDescTableOpen cVeneerDescTableClose cVeneerDescTableFull cVeneerDescTableAll (k := (endK [(.tmp 2)])) (fun _ _ => rfl) (initFrom 0 [v0]) H

end Go.Shade
/- DESC, part 9: 'DescFulls', 'DescLowest'. -/
namespace Go.Shade
set_option linter.unusedVariables false
set_option linter.unusedSimpArgs false
section
variable {cal : FuncId → Bool} {φ : Oracle} {N : Nat} {aw nw pl fu op cl al : FuncId}
theorem fulls_go (ho : OpenOk φ op) (hc : CloseOk φ cl) (hf : FullOk φ fu) (hal : AllOk φ al) {L t : Nat} {v0 : IV} {l : List Ac} {H0 : Heap} (ht : L ≤ t) (hv : AcsV L H0 v0 l) :
    ∀ (k i n : Nat) (H : Heap) (G : Nat → Prop) (tab : Tab), i + k = 120 → k < n → Frame (fun i => i = t) H0 H → TabOk G H t tab →
      Wp (veneerlaw07DescFullsC0S cal φ N aw nw op cl fu al (fun H => some (.bool true, H)) n v0 (.ptr t 0) (.int .i64 (cnt tab : Nat)) (.int .i64 (i : Nat)) H) fun r => r.1 = .bool true := by
  intro k
  induction k with
  | zero =>
    intro i n H G tab hi hn hK hT
    obtain ⟨n, rfl⟩ : ∃ j, n = j + 1 := ⟨n - 1, by omega⟩
    have hvH := hv.frame (hK.mono fun i e => by subst e; exact ht)
    obtain ⟨_, cs, hsl, _⟩ := hvH
    rw [veneerlaw07DescFullsC0S, hsl.len, ob_some, lbin_lss, ob_some]
    cases decide (((i : Nat) : Int) < (l.length : Nat))
    · simp only [isB_ft, gq_false, ob_some, lpick_false, cnd_false]
      exact Wp.ret rfl
    · simp only [isB_tt, gq_true, ob_some, lbin_lss]
      rw [lpick_true, ob_some, decide_eq_false (by omega), cnd_false]
      exact Wp.ret rfl
  | succ k ih =>
    intro i n H G tab hi hn hK hT
    obtain ⟨n, rfl⟩ : ∃ j, n = j + 1 := ⟨n - 1, by omega⟩
    have hvH := hv.frame (hK.mono fun i e => by subst e; exact ht)
    obtain ⟨_, cs, hsl, _⟩ := id hvH
    rw [veneerlaw07DescFullsC0S, hsl.len, ob_some, lbin_lss, ob_some]
    by_cases hlt : i < l.length
    case neg =>
      rw [decide_eq_false (by omega)]
      simp only [isB_ft, gq_false, ob_some, lpick_false, cnd_false]
      exact Wp.ret rfl
    rw [decide_eq_true (by omega)]
    simp only [isB_tt, gq_true, ob_some, lbin_lss]
    rw [lpick_true, ob_some, decide_eq_true (by omega), cnd_true]
    obtain ⟨p, nv, e1, e2, e3⟩ := hvH.at (List.getElem?_eq_getElem hlt)
    generalize l[i] = a at *
    rw [e1, ob_some, e2, ob_some, lzbox_eq, ob_some]
    simp only [cells_agg]
    rw [stn (n := 8) newRow (a.cells_one e3.one) rfl rfl, ob_some, setRow]
    simp only
    have k1 : Frame NoF H (H ++ [IObj.row (a.cells nv) false]) := Frame.push _ _ _
    have r1 := newRow (H := H) (o := IObj.row (a.cells nv) false)
    have hT1 := hT.kp k1
    have kk1 := hK.tr k1.no
    generalize H ++ [IObj.row (a.cells nv) false] = K at *
    have c0 : (a.cells nv)[0]? = some (.int .i64 a.kind) := rfl
    have c1 : (a.cells nv)[1]? = some (.int .i64 a.fd) := rfl
    have h32 : ∀ {tab : Tab} {G : Nat → Prop} {K : Heap}, TabOk G K t tab → cnt tab ≤ 32 := fun h => by have := cnt_le (by exact ‹Tab›); rw [h.len] at this; exact this
    rw [loff_ptr, ob_some, Nat.zero_add, ld1 r1, c0, ob_some, jn_eq]
    -- behind each act
    have next : ∀ (K2 : Heap) (G' : Nat → Prop) (tab' : Tab), Frame (fun i => i = t) K K2 → TabOk G' K2 t tab' → Wp (ob (φ fu [.ptr t 0] K2) fun r48 => ob (lbin .eql (.int .i64 (cnt tab' : Nat)) (.int .i64 32)) fun t49 => ob (leqv true (leq .bool r48.1 t49)) fun t50 => ob (gq (isB t50 false) (some (.ptr t 0))) fun t51 => ob (ge (isB t50 false) r48.2 (φ al [t51] r48.2)) fun r52 => ob (gq (isB t50 false) (llen r52.2 .slice r52.1)) fun t53 => ob (gq (isB t50 false) (some (.int .i64 (cnt tab' : Nat)))) fun t54 => ob (gq (isB t50 false) (lbin .neq t53 t54)) fun t55 => ob (lpick t50 (.bool true) t55) fun t56 =>
        cnd t56 (some ((.bool false), r52.2)) (ob (lbin .add (.int .i64 (i : Nat)) (.int .i64 1)) fun t57 => veneerlaw07DescFullsC0S cal φ N aw nw op cl fu al (fun H => some (.bool true, H)) n v0 (.ptr t 0) (.int .i64 (cnt tab' : Nat)) t57 r52.2)) fun r => r.1 = .bool true := by
      intro K2 G' tab' f1 f2
      rw [hf G' K2 t tab' f2, ob_some]
      simp only
      rw [lbin_eql, ob_some, leq_bool, leqv_t, ob_some]
      have hfull : (!decide (none ∈ tab')) = decide (((cnt tab' : Nat) : Int) = 32) := by
        rw [← decide_not]
        refine decide_eq_decide.2 ?_
        rw [← cnt_full, f2.len]; omega
      rw [hfull, beq_self_eq_true]
      simp only [Bool.not_true, isB_ff, gq_true, ge_true, ob_some]
      refine Wp.call (hal G' K2 t tab' f2) ?_
      rintro ⟨r, K3⟩ ⟨q1, q2, q3⟩
      simp only at q1 q2 ⊢
      rw [q2.len, ob_some, lbin_neq, opens_cnt tab' f2.len, decide_eq_true rfl, ob_some, Bool.not_true, lpick_false, ob_some, cnd_false]
      rw [lbin_add, ob_some, wrap_i64 (by omega) (by omega), show ((i : Nat) : Int) + 1 = ((i + 1 : Nat) : Int) by omega]
      exact ih (i + 1) n K3 G' tab' (by omega) (by omega) ((kk1.tr f1).tr q1.no) (f2.kp q1)
    have h24 : decide ((24 : Int) = 0) = false := rfl
    have h9 : decide ((9 : Int) = 0) = false := rfl
    rw [lbin_eql, ob_some]
    refine Wp.dec (fun h0 => ?_) (fun h0 => ?_)
    · have hl : lbld [(.int .i64 0), (.int .i64 0), (.int .i64 0), (.bool false), .nilSlice, (.int .i64 0)] [(0, 1, .int .i64 (i : Nat))] = some (.agg (Dsc.cells ⟨(i : Nat), 0, 0, false, [], 0⟩ .nilSlice)) := rfl
      rw [hl, ob_some]
      refine Wp.call (ho NoF G K t tab _ ⟨(i : Nat), 0, 0, false, [], 0⟩ hT1 ⟨.nilSlice, rfl, Sl.nil _ _, At.nil⟩ (by simp)) ?_
      rintro ⟨r, K2⟩ ⟨f1, ⟨j, G', hj, g1, g2, g3, g4, g5⟩ | ⟨g1, g2, g3⟩⟩
      · simp only at g3 g4 f1 ⊢
        subst g3
        rw [iextract_tuple, iextract_tuple]
        have hcn := filter_set Option.isSome tab j none (some ⟨(i : Nat), 0, 0, false, [], 0⟩) g1
        have hc' : ((cnt (tab.set j (some ⟨(i : Nat), 0, 0, false, [], 0⟩)) : Nat) : Int) = (cnt tab : Nat) + 1 := by unfold cnt; rw [hcn]; simp
        have hlt32 : cnt tab < 32 := by
          have h1 := cnt_le (tab.set j (some ⟨(i : Nat), 0, 0, false, [], 0⟩))
          rw [List.length_set, hT1.len] at h1; omega
        simp only [List.getElem?_cons_zero, List.getElem?_cons_succ, ob_some, lbin_eql, decide_true, lbin_lss]
        rw [decide_eq_true (by omega), leq_bool, leqv_t, ob_some, beq_self_eq_true, Bool.not_true, cnd_false, cnd_true, lbin_add, ob_some, wrap_i64 (by omega) (by omega), ← hc']
        exact next K2 G' _ f1 g4
      · simp only at g2 g3 f1 ⊢
        subst g2
        rw [iextract_tuple, iextract_tuple]
        have hmem : none ∉ tab := by
          intro h
          obtain ⟨j, hj⟩ := List.mem_iff_getElem?.1 h
          have := (List.getElem?_eq_some_iff.1 hj).1
          exact g1 j (by have := hT1.len; omega) hj
        have hfl := (cnt_full tab).2 hmem
        rw [hT1.len] at hfl
        simp only [List.getElem?_cons_zero, List.getElem?_cons_succ, ob_some, lbin_eql, h24, lbin_lss]
        rw [decide_eq_false (by omega), leq_bool, leqv_t, ob_some, beq_self_eq_true, Bool.not_true, cnd_false, cnd_false]
        exact next K2 G tab f1 g3
    · rw [lbin_eql, ob_some]
      refine Wp.dec (fun h1 => ?_) (fun h1 => next K G tab (Frame.refl _ _) hT1)
      rw [loff_ptr, ob_some, Nat.zero_add, ld1 r1, c1, ob_some]
      refine Wp.call (hc G K t tab a.fd hT1) ?_
      rintro ⟨r, K2⟩ hcl
      have f1 : Frame (fun i => i = t) K K2 := hcl.1
      obtain ⟨_, ⟨d, x, g1, g2, g3, g4⟩ | ⟨g1, g2, g3⟩⟩ := hcl
      · simp only at f1 g2 g3 g4 ⊢
        subst g2
        obtain ⟨nv2, rfl, hn2⟩ := g3
        rw [iextract_tuple, iextract_tuple]
        simp only [List.getElem?_cons_zero, List.getElem?_cons_succ, ob_some]
        rw [lzbox_eq, ob_some]
        simp only [cells_agg]
        rw [stn (n := 6) newRow (d.cells_one hn2.one) rfl rfl, ob_some, setRow]
        have k5 : Frame NoF K2 (K2 ++ [IObj.row (d.cells nv2) false]) := Frame.push _ _ _
        obtain ⟨j, hj, hj2, hj3⟩ := look_lt g1
        have hcn := filter_set Option.isSome tab j (some d) none hj3
        have hpos : 0 < cnt tab := by
          unfold cnt
          exact List.length_pos_iff.2 (fun e => by
            have : some d ∈ tab.filter Option.isSome := List.mem_filter.2 ⟨List.mem_of_getElem? hj3, rfl⟩
            rw [e] at this; cases this)
        have hc' : ((cnt (put' tab a.fd none) : Nat) : Int) = (cnt tab : Nat) - 1 := by
          unfold put' cnt; rw [hj, Int.toNat_natCast, hcn]; simp
        simp only [lbin_eql, ob_some, decide_true]
        have hle := h32 hT1
        rw [cnd_true, lbin_sub, ob_some, wrap_i64 (by omega) (by omega), ← hc']
        exact next _ G _ (f1.tr k5.no) (g4.kp k5)
      · simp only at f1 g2 g3 ⊢
        subst g2
        rw [iextract_tuple, iextract_tuple]
        simp only [List.getElem?_cons_zero, List.getElem?_cons_succ, ob_some]
        rw [lzbox_eq, ob_some]
        simp only [cells_agg]
        rw [stn (n := 6) newRow rfl rfl rfl, ob_some, setRow]
        have k5 : Frame NoF K2 (K2 ++ [IObj.row (Dsc.zero.cells .nilSlice) false]) := Frame.push _ _ _
        simp only [lbin_eql, ob_some, h9]
        rw [cnd_false]
        exact next _ G tab (f1.tr k5.no) (g3.kp k5)
theorem fulls_l (ha : ∀ H : Heap, φ aw [] H = some (.bool true, H)) (hnw : NewOk φ nw) (ho : OpenOk φ op) (hc : CloseOk φ cl) (hf : FullOk φ fu) (hal : AllOk φ al) (hN : 120 < N) {H : Heap} {v0 : IV} {l : List Ac} (hv0 : AcsV H.length H v0 l) :
    Wp (veneerlaw07DescFullsS cal φ N aw nw op cl fu al v0 H) fun r => r.1 = .bool true := by
  unfold veneerlaw07DescFullsS veneerlaw07DescFullsC7S veneerlaw07DescFullsC6S
  rw [ha, ob_some]
  simp only
  rw [iun_not, ob_some, Bool.not_true, cnd_false]
  unfold veneerlaw07DescFullsC5S
  refine Wp.call (hnw H) ?_
  rintro ⟨r, K1⟩ ⟨t, rfl, ht, hT, k2⟩
  simp only at hT k2 ⊢
  unfold veneerlaw07DescFullsC4S veneerlaw07DescFullsC3S veneerlaw07DescFullsC2S veneerlaw07DescFullsC1S
  exact fulls_go ho hc hf hal (L := H.length) ht (hv0.frame k2.no) 120 0 N K1 NoF (List.replicate 32 none) (by omega) hN (Frame.refl _ _) hT
end
end Go.Shade
/- DESC, part 10: 'DescLowest'. -/
namespace Go.Shade
set_option linter.unusedVariables false
set_option linter.unusedSimpArgs false
/-- Entries whose keys are these numbers, all true. -/
def TrueFor (es : List (IV × IV × Nat)) (ks : List Nat) : Prop := es.map (fun e => (e.1, e.2.1)) = ks.map fun k => (IV.int .i64 (k : Nat), IV.bool true)
theorem ifind_true : ∀ {es : List (IV × IV × Nat)} {ks : List Nat} (x i : Nat), TrueFor es ks → (x ∈ ks → ∃ j, ifind (.int .i64 (x : Nat)) es i = some (some (j, .bool true))) ∧ (x ∉ ks → ifind (.int .i64 (x : Nat)) es i = some none)
  | [], [], x, i, h => ⟨(fun h => by cases h), (fun _ => rfl)⟩
  | [], k :: ks, x, i, h => by simp [TrueFor] at h
  | e :: es, [], x, i, h => by simp [TrueFor] at h
  | (a, b, c) :: es, k :: ks, x, i, h => by
    simp only [TrueFor, List.map_cons, List.cons.injEq, Prod.mk.injEq] at h
    obtain ⟨⟨rfl, rfl⟩, h2⟩ := h
    obtain ⟨g1, g2⟩ := ifind_true (es := es) (ks := ks) x (i + 1) h2
    simp only [ifind, cellEq, if_true]
    by_cases e : x = k
    · subst e
      rw [beq_self_eq_true]
      exact ⟨fun _ => ⟨i, rfl⟩, fun h => absurd (List.mem_cons_self) h⟩
    · have : (((x : Nat) : Int) == ((k : Nat) : Int)) = false := by
        rw [beq_eq_false_iff_ne]; omega
      rw [this]
      refine ⟨fun hm => g1 ?_, fun hm => g2 fun h => hm (List.mem_cons_of_mem _ h)⟩
      rcases List.mem_cons.1 hm with h | h
      · exact absurd h e
      · exact h
def BMap (H : Heap) (m : Nat) (ks : List Nat) : Prop := ∃ es clock, H[m]? = some (.map es clock) ∧ TrueFor es ks
theorem BMap.frame {F : Nat → Prop} {H H' : Heap} {m : Nat} {ks : List Nat} (h : BMap H m ks) (k : Frame F H H') (hf : ¬ F m) : BMap H' m ks := by
  obtain ⟨es, c, h1, h2⟩ := h; exact ⟨es, c, k.get hf h1, h2⟩
theorem BMap.look {H : Heap} {m : Nat} {ks : List Nat} (h : BMap H m ks) (x : Nat) : llookup H .int (.bool false) false (.map m) (.int .i64 (x : Nat)) = some (.bool (decide (x ∈ ks))) := by
  obtain ⟨es, c, h1, h2⟩ := h
  obtain ⟨g1, g2⟩ := ifind_true x 0 h2
  simp only [llookup, iment, h1, Option.bind_some, isLS, if_true]
  by_cases hx : x ∈ ks
  · obtain ⟨j, hj⟩ := g1 hx
    rw [hj, decide_eq_true hx]; rfl
  · rw [g2 hx, decide_eq_false hx]; rfl
theorem BMap.put {H : Heap} {m : Nat} {ks : List Nat} (h : BMap H m ks) {x : Nat} (hx : x ∉ ks) : ∃ H', lupdV H .int (.map m) (.int .i64 (x : Nat)) (.bool true) = some (.tuple [], H') ∧ Frame (fun i => i = m) H H' ∧ BMap H' m (ks ++ [x]) := by
  obtain ⟨es, c, h1, h2⟩ := h
  obtain ⟨g1, g2⟩ := ifind_true x 0 h2
  refine ⟨H.set m (.map (es ++ [(.int .i64 (x : Nat), .bool true, c)]) (c + 1)), ?_, Frame.set _ _ rfl, _, _, setAt h1, ?_⟩
  · unfold lupdV
    simp only [lupdate, h1, isLS, if_true, g2 hx, Option.bind_some]
  · unfold TrueFor at *
    rw [List.map_append, List.map_append, h2]; rfl
theorem BMap.len {H : Heap} {m : Nat} {ks : List Nat} (h : BMap H m ks) : llen H .map (.map m) = some (.int .i64 (ks.length : Nat)) := by
  obtain ⟨es, c, h1, h2⟩ := h
  have hl : es.length = ks.length := by have := congrArg List.length h2; simpa using this
  simp only [llen, iment, h1, Option.bind_some, hl]
theorem mem_opens {tab : Tab} {i : Nat} : i ∈ opens tab ↔ i < 32 ∧ (tab[i]?).join.isSome = true := by simp [opens]
section
variable {cal : FuncId → Bool} {φ : Oracle} {N : Nat} {aw nw pl al op : FuncId}
theorem lowest_plays (hp : PlayOk φ pl) {L t : Nat} {v0 : IV} {l : List Ac} {gE0 : IV → Heap → Option Out} {Q : Out → Prop} {H0 : Heap} (ht : L ≤ t)
    (hQ : ∀ H G tab, Frame (fun i => i = t) H0 H → TabOk G H t tab → Wp (gE0 (.ptr t 0) H) Q) (hv : AcsV L H0 v0 l) :
    ∀ (k i n : Nat) (H : Heap) (G : Nat → Prop) (tab : Tab), i + k = 120 → k < n → Frame (fun i => i = t) H0 H → TabOk G H t tab →
      Wp (veneerlaw07DescLowestC0S cal φ N aw nw pl al op gE0 n v0 (.ptr t 0) (.int .i64 (i : Nat)) H) Q := by
  intro k
  induction k with
  | zero =>
    intro i n H G tab hi hn hK hT
    obtain ⟨n, rfl⟩ : ∃ j, n = j + 1 := ⟨n - 1, by omega⟩
    have hvH := hv.frame (hK.mono fun i e => by subst e; exact ht)
    obtain ⟨_, cs, hsl, _⟩ := hvH
    rw [veneerlaw07DescLowestC0S, hsl.len, ob_some, lbin_lss, ob_some]
    cases decide (((i : Nat) : Int) < (l.length : Nat))
    · simp only [isB_ft, gq_false, ob_some, lpick_false, cnd_false]
      exact hQ H G tab hK hT
    · simp only [isB_tt, gq_true, ob_some, lbin_lss]
      rw [lpick_true, ob_some, decide_eq_false (by omega), cnd_false]
      exact hQ H G tab hK hT
  | succ k ih =>
    intro i n H G tab hi hn hK hT
    obtain ⟨n, rfl⟩ : ∃ j, n = j + 1 := ⟨n - 1, by omega⟩
    have hvH := hv.frame (hK.mono fun i e => by subst e; exact ht)
    obtain ⟨_, cs, hsl, _⟩ := id hvH
    rw [veneerlaw07DescLowestC0S, hsl.len, ob_some, lbin_lss, ob_some]
    by_cases hlt : i < l.length
    · rw [decide_eq_true (by omega)]
      simp only [isB_tt, gq_true, ob_some, lbin_lss]
      rw [lpick_true, ob_some, decide_eq_true (by omega), cnd_true]
      obtain ⟨p, nv, e1, e2, e3⟩ := hvH.at (List.getElem?_eq_getElem hlt)
      rw [e1, ob_some, e2, ob_some]
      refine Wp.call (hp _ G H t tab l[i] nv hT e3) ?_
      rintro ⟨r, H2⟩ ⟨f1, G', tab', f2, f3, _⟩
      simp only at f1 f2 ⊢
      rw [lbin_add, ob_some, wrap_i64 (by omega) (by omega), show ((i : Nat) : Int) + 1 = ((i + 1 : Nat) : Int) by omega]
      exact ih (i + 1) n H2 G' tab' (by omega) (by omega) (hK.tr f1) f2
    · rw [decide_eq_false (by omega)]
      simp only [isB_ft, gq_false, ob_some, lpick_false, cnd_false]
      exact hQ H G tab hK hT
theorem lowest_marks {t m : Nat} {v32 : IV} {ks : List Nat} {gE2 : IV → IV → Heap → Option Out} {Q : Out → Prop} {H0 : Heap} (hs : Sl 1 H0 v32 ks.length (ints ks)) (ha : At (fun i => i ≠ m) v32) (hnd : ks.Pairwise (· < ·)) (hlen : ks.length ≤ 32)
    (hQ : ∀ H, Frame (fun i => i = m) H0 H → BMap H m ks → Wp (gE2 (.ptr t 0) (.map m) H) Q) :
    ∀ (k i n : Nat) (H : Heap), i + k = ks.length → k < n → Frame (fun i => i = m) H0 H → BMap H m (ks.take i) →
      Wp (veneerlaw07DescLowestC3S cal φ N aw nw pl al op gE2 n (.ptr t 0) (.map m) v32 (.int .i64 (ks.length : Nat)) (.int .i64 (i : Nat)) H) Q := by
  intro k
  induction k with
  | zero =>
    intro i n H hi hn hK hm
    obtain ⟨n, rfl⟩ : ∃ j, n = j + 1 := ⟨n - 1, by omega⟩
    rw [veneerlaw07DescLowestC3S, lbin_lss, ob_some, decide_eq_false (by omega), cnd_false]
    rw [List.take_of_length_le (by omega)] at hm
    exact hQ H hK hm
  | succ k ih =>
    intro i n H hi hn hK hm
    obtain ⟨n, rfl⟩ : ∃ j, n = j + 1 := ⟨n - 1, by omega⟩
    rw [veneerlaw07DescLowestC3S, lbin_lss, ob_some, decide_eq_true (by omega), cnd_true]
    obtain ⟨p, e1, e2⟩ := (hs.frame hK (ha.mono fun i h => h)).at1 (i := i) (by omega)
    have g1 := List.getElem?_eq_getElem (l := ks) (i := i) (by omega)
    rw [e1, ob_some, e2]
    simp only [ints, List.getElem?_map, g1, Option.map_some]
    rw [ob_some]
    have hx : ks[i] ∉ ks.take i := by
      intro h
      obtain ⟨j, hj⟩ := List.mem_iff_getElem?.1 h
      rw [List.getElem?_take] at hj
      split at hj
      · rename_i hlt
        obtain ⟨hj1, hj2⟩ := List.getElem?_eq_some_iff.1 hj
        have := (List.pairwise_iff_getElem.1 hnd) j i hj1 (by omega) hlt
        omega
      · cases hj
    obtain ⟨H', f1, f2, f3⟩ := hm.put hx
    rw [f1, ob_some]
    simp only
    rw [lbin_add, ob_some, wrap_i64 (by omega) (by omega), show ((i : Nat) : Int) + 1 = ((i + 1 : Nat) : Int) by omega]
    refine ih (i + 1) n H' (by omega) (by omega) (hK.tr f2) ?_
    rw [List.take_succ_eq_append_getElem (by omega)]; exact f3
theorem lowest_find {t m : Nat} {ks : List Nat} {gE4 : IV → IV → IV → Heap → Option Out} {Q : Out → Prop} {H : Heap} (hm : BMap H m ks) (hk : ∀ x ∈ ks, x < 32)
    (hQ : ∀ x, x ≤ 32 → x ∉ ks → (∀ j, j < x → j ∈ ks) → Wp (gE4 (.ptr t 0) (.map m) (.int .i64 (x : Nat)) H) Q) :
    ∀ (k x n : Nat), x + k = 32 → k < n → (∀ j, j < x → j ∈ ks) →
      Wp (veneerlaw07DescLowestC6S cal φ N aw nw pl al op gE4 n (.ptr t 0) (.map m) (.int .i64 (x : Nat)) H) Q := by
  intro k
  induction k with
  | zero =>
    intro x n hi hn hj
    obtain ⟨n, rfl⟩ : ∃ j, n = j + 1 := ⟨n - 1, by omega⟩
    have hx : x ∉ ks := fun h => by have := hk x h; omega
    rw [veneerlaw07DescLowestC6S, hm.look, ob_some, decide_eq_false hx, cnd_false]
    exact hQ x (by omega) hx hj
  | succ k ih =>
    intro x n hi hn hj
    obtain ⟨n, rfl⟩ : ∃ j, n = j + 1 := ⟨n - 1, by omega⟩
    rw [veneerlaw07DescLowestC6S, hm.look, ob_some]
    refine Wp.dec (fun hx => ?_) (fun hx => hQ x (by omega) hx hj)
    rw [lbin_add, ob_some, wrap_i64 (by omega) (by omega), show ((x : Nat) : Int) + 1 = ((x + 1 : Nat) : Int) by omega]
    refine ih (x + 1) n (by omega) (by omega) fun j hlt => ?_
    by_cases e : j = x
    · subst e; exact hx
    · exact hj j (by omega)
theorem lowest_l (ha : ∀ H : Heap, φ aw [] H = some (.bool true, H)) (hnw : NewOk φ nw) (hp : PlayOk φ pl) (hal : AllOk φ al) (ho : OpenOk φ op) (hN : 120 < N) {H : Heap} {v0 : IV} {l : List Ac} (hv0 : AcsV H.length H v0 l) :
    Wp (veneerlaw07DescLowestS cal φ N aw nw pl al op v0 H) fun r => r.1 = .bool true := by
  unfold veneerlaw07DescLowestS veneerlaw07DescLowestC15S veneerlaw07DescLowestC14S
  rw [ha, ob_some]
  simp only
  rw [iun_not, ob_some, Bool.not_true, cnd_false]
  unfold veneerlaw07DescLowestC13S
  refine Wp.call (hnw H) ?_
  rintro ⟨r, K1⟩ ⟨t, rfl, ht, hT, k2⟩
  simp only at hT k2 ⊢
  unfold veneerlaw07DescLowestC12S veneerlaw07DescLowestC2S veneerlaw07DescLowestC1S
  refine lowest_plays hp (L := H.length) ht (H0 := K1) (fun K2 G tab f1 f2 => ?_) (hv0.frame k2.no) 120 0 N K1 NoF _ (by omega) hN (Frame.refl _ _) hT
  simp only
  unfold veneerlaw07DescLowestC11S
  rw [lmkM_eq, ob_some]
  simp only
  have km : Frame NoF K2 (K2 ++ [IObj.map [] 0]) := Frame.push _ _ _
  have hm0 : BMap (K2 ++ [IObj.map [] 0]) K2.length [] := ⟨[], 0, newRow, rfl⟩
  have f2m := f2.kp km
  have htm : t < K2.length := f2.ltT
  have hml : K2.length < (K2 ++ [IObj.map [] 0]).length := by simp
  generalize K2 ++ [IObj.map [] 0] = K3 at *
  unfold veneerlaw07DescLowestC10S veneerlaw07DescLowestC5S veneerlaw07DescLowestC4S
  refine Wp.call (hal G K3 t tab f2m) ?_
  rintro ⟨r, K4⟩ ⟨q1, q2, q3⟩
  simp only at q1 q2 q3 ⊢
  rw [q2.len, ob_some]
  have hle : (opens tab).length ≤ 32 := by rw [opens_cnt tab f2.len]; have := cnt_le tab; rw [f2.len] at this; exact this
  refine lowest_marks (H0 := K4) q2 (q3.mono fun i (hi : K3.length ≤ i) => by omega) (List.Pairwise.filter _ List.pairwise_lt_range) hle (fun K5 g1 g2 => ?_) (opens tab).length 0 N K4 (by omega) (by omega) (Frame.refl _ _) (hm0.frame q1 fun h => h)
  unfold veneerlaw07DescLowestC9S veneerlaw07DescLowestC8S veneerlaw07DescLowestC7S
  have hT5 := (f2m.kp q1).frame g1 (by omega) fun i hi e => by have := f2.lt i hi; omega
  refine lowest_find g2 (fun x hx => (mem_opens.1 hx).1) (fun x hx32 hxn hxl => ?_) 32 0 N (by omega) (by omega) (fun j h => by omega)
  have hl : lbld [(.int .i64 0), (.int .i64 0), (.int .i64 0), (.bool false), .nilSlice, (.int .i64 0)] [(0, 1, .int .i64 3)] = some (.agg (Dsc.cells ⟨3, 0, 0, false, [], 0⟩ .nilSlice)) := rfl
  simp only
  rw [hl, ob_some]
  refine Wp.call (ho NoF G K5 t tab _ ⟨3, 0, 0, false, [], 0⟩ hT5 ⟨.nilSlice, rfl, Sl.nil _ _, At.nil⟩ (by simp)) ?_
  have isOpen : ∀ {i : Nat}, i < 32 → (i ∈ opens tab ↔ tab[i]? ≠ some none) := by
    intro i hi
    rw [mem_opens]
    obtain ⟨e, hg⟩ : ∃ e, tab[i]? = some e := ⟨_, List.getElem?_eq_getElem (by rw [f2.len]; omega)⟩
    rw [hg]
    cases e with
    | none => simp
    | some d => simp [hi]
  rintro ⟨r, K6⟩ ⟨w1, ⟨j, G', hj, p1, p2, p3, p4, p5⟩ | ⟨p1, p2, p3⟩⟩
  · simp only at p3 w1 ⊢
    subst p3
    rw [iextract_tuple, iextract_tuple]
    simp only [List.getElem?_cons_zero, List.getElem?_cons_succ, ob_some, lbin_geq]
    have hjx : j = x := by
      rcases Nat.lt_trichotomy j x with h | h | h
      · exact absurd p1 ((isOpen hj).1 (hxl j h))
      · exact h
      · have hx' : tab[x]? = some none := by
          rcases Classical.em (tab[x]? = some none) with e | e
          · exact e
          · exact absurd ((isOpen (by omega)).2 e) hxn
        exact absurd hx' (p2 x h)
    subst hjx
    rw [decide_eq_false (by omega), cnd_false, lbin_eql, ob_some, decide_eq_true rfl]
    simp only [isB_tt, gq_true, ob_some, lbin_eql, decide_true]
    rw [lpick_true, ob_some]
    exact Wp.ret rfl
  · simp only at p2 w1 ⊢
    subst p2
    rw [iextract_tuple, iextract_tuple]
    simp only [List.getElem?_cons_zero, List.getElem?_cons_succ, ob_some, lbin_geq]
    have hx : x = 32 := by
      rcases Nat.lt_or_ge x 32 with h | h
      · exact absurd ((isOpen h).2 (p1 x h)) hxn
      · omega
    subst hx
    have hfull : (opens tab).length = 32 := by
      have : opens tab = List.range 32 := by
        unfold opens
        rw [List.filter_eq_self]
        intro i hi
        have hi' : i < 32 := by simpa using hi
        exact (mem_opens.1 ((isOpen hi').2 (p1 i hi'))).2
      rw [this]; rfl
    have hm6 := g2.frame w1 (by omega)
    rw [decide_eq_true (by omega), cnd_true]
    simp only [lbin_eql, ob_some, decide_true, isB_tt, gq_true]
    rw [lpick_true, ob_some]
    simp only [isB_tt, gq_true, ob_some, hm6.len, lbin_eql, hfull]
    rw [lpick_true]
    exact Wp.ret (by simp)
end
end Go.Shade
/- DESC, part 12: contracts of the document's table. -/
namespace Go.Shade
set_option linter.unusedVariables false
set_option linter.unusedSimpArgs false
theorem putO_at {H : Heap} {b o n : Nat} {xs cs : List IV} (h : xs.all IV.one = true) (hn : xs.length = n) (hc : o + n ≤ cs.length) : putO (some (.row cs false)) b o n (.agg xs) H = some (H.set b (.row (putAt cs o xs) false)) := by
  unfold putO
  simp only [isTuple, IV.cells]
  rw [if_pos ⟨trivial, hn, by omega, h⟩]
theorem stnAt {H : Heap} {b o n : Nat} {cs xs : List IV} (h : H[b]? = some (.row cs false)) (hx : xs.all IV.one = true) (hn : xs.length = n) (hk : o + n ≤ cs.length) : lstV H n (.ptr b o) (.agg xs) = some (.tuple [], H.set b (.row (putAt cs o xs) false)) := by
  rw [lstV_ptr, h, putO_at hx hn hk]; rfl
theorem ldnAt {H : Heap} {b o n : Nat} {cs : List IV} {ro : Bool} (h : H[b]? = some (.row cs ro)) (hn : o + n ≤ cs.length) : lloadn H n (.ptr b o) = some (.agg ((cs.drop o).take n)) := by
  rw [lloadn_ptr, h, ogn_row, if_pos hn]
/-- A place of the document's table. -/
def REnt (G : Nat → Prop) (H : Heap) (c : IV) (xs : List IV) (e : Option Dsc) : Prop :=
  (e = none ∧ c = .bool false) ∨ ∃ d nv, e = some d ∧ c = .bool true ∧ xs = d.cells nv ∧ Nm G H nv d.names ∧ d.names.length ≤ 1000000
theorem REnt.frame {F G : Nat → Prop} {H H' : Heap} {c : IV} {xs : List IV} {e : Option Dsc} (h : REnt G H c xs e) (k : Frame F H H') (hg : ∀ i, G i → ¬ F i) : REnt G H' c xs e := by
  rcases h with h | ⟨d, nv, h1, h2, h3, h4, h5⟩
  · exact .inl h
  · exact .inr ⟨d, nv, h1, h2, h3, h4.frame k hg, h5⟩
theorem REnt.mono {G G' : Nat → Prop} {H : Heap} {c : IV} {xs : List IV} {e : Option Dsc} (h : REnt G H c xs e) (k : ∀ i, G i → G' i) : REnt G' H c xs e := by
  rcases h with h | ⟨d, nv, h1, h2, h3, h4, h5⟩
  · exact .inl h
  · exact .inr ⟨d, nv, h1, h2, h3, h4.mono k, h5⟩
structure RTab (G : Nat → Prop) (H : Heap) (t : Nat) (tab : Tab) : Prop where
  len : tab.length = 32
  notG : ¬ G t
  lt : ∀ i, G i → i < H.length
  row : ∃ cs : List IV, H[t]? = some (.row cs false) ∧ cs.length = 224 ∧ ∀ (i : Nat) (e : Option Dsc), tab[i]? = some e → ∃ c, cs[i]? = some c ∧ REnt G H c ((cs.drop (32 + i * 6)).take 6) e
theorem RTab.frame {F G : Nat → Prop} {H H' : Heap} {t : Nat} {tab : Tab} (h : RTab G H t tab) (k : Frame F H H') (ht : ¬ F t) (hg : ∀ i, G i → ¬ F i) : RTab G H' t tab := by
  obtain ⟨cs, h1, h2, h3⟩ := h.row
  refine ⟨h.len, h.notG, fun i hi => Nat.lt_of_lt_of_le (h.lt i hi) k.1, cs, k.get ht h1, h2, fun i e he => ?_⟩
  obtain ⟨c, h4, h5⟩ := h3 i e he
  exact ⟨c, h4, h5.frame k hg⟩
theorem RTab.kp {G : Nat → Prop} {H H' : Heap} {t : Nat} {tab : Tab} (h : RTab G H t tab) (k : Frame NoF H H') : RTab G H' t tab := h.frame k (fun h => h) fun _ _ h => h
theorem RTab.ltT {G : Nat → Prop} {H : Heap} {t : Nat} {tab : Tab} (h : RTab G H t tab) : t < H.length := by
  obtain ⟨cs, h1, _⟩ := h.row; exact (List.getElem?_eq_some_iff.1 h1).1
theorem RTab.get {G : Nat → Prop} {H : Heap} {t i : Nat} {tab : Tab} (h : RTab G H t tab) (hi : i < 32) : ∃ cs c e, H[t]? = some (.row cs false) ∧ cs.length = 224 ∧ cs[i]? = some c ∧ tab[i]? = some e ∧ REnt G H c ((cs.drop (32 + i * 6)).take 6) e := by
  obtain ⟨cs, h1, h2, h3⟩ := h.row
  have he := List.getElem?_eq_getElem (l := tab) (i := i) (by have := h.len; omega)
  obtain ⟨c, h4, h5⟩ := h3 i _ he
  exact ⟨cs, c, _, h1, h2, h4, he, h5⟩
theorem drop6 {cs cs' : List IV} {o : Nat} (h : ∀ j, o ≤ j → j < o + 6 → cs[j]? = cs'[j]?) : (cs.drop o).take 6 = (cs'.drop o).take 6 := by
  apply List.ext_getElem?
  intro i
  rw [List.getElem?_take, List.getElem?_take]
  split
  · rw [List.getElem?_drop, List.getElem?_drop]; exact h _ (by omega) (by omega)
  · rfl
/-- The row in which a place is made to hold what it may. -/
theorem RTab.upd {G G' : Nat → Prop} {H : Heap} {t i : Nat} {tab : Tab} {e : Option Dsc} {cs cs' : List IV} {c : IV} {xs : List IV} (h : RTab G H t tab) (hr : H[t]? = some (.row cs false)) (hg : ∀ j, G j → G' j) (hn : ¬ G' t) (hlt : ∀ j, G' j → j < H.length) (hi : i < 32)
    (hl : cs'.length = 224) (h1 : cs'[i]? = some c) (h2 : (cs'.drop (32 + i * 6)).take 6 = xs) (h3 : ∀ j, j ≠ i → j < 32 → cs'[j]? = cs[j]?) (h4 : ∀ k, k ≠ i → k < 32 → (cs'.drop (32 + k * 6)).take 6 = (cs.drop (32 + k * 6)).take 6) (he : REnt G' H c xs e) : RTab G' (H.set t (.row cs' false)) t (tab.set i e) := by
  obtain ⟨cs0, g1, g2, g3⟩ := h.row
  rw [hr] at g1; cases g1
  have k : Frame (fun j => j = t) H (H.set t (.row cs' false)) := Frame.set _ _ rfl
  have hk : ∀ j, G' j → ¬ j = t := fun j hj e => hn (e ▸ hj)
  refine ⟨by simp [h.len], hn, fun j hj => by simpa using hlt j hj, cs', setAt hr, hl, fun j e' he' => ?_⟩
  have hj32 : j < 32 := by
    have := (List.getElem?_eq_some_iff.1 he').1
    rw [List.length_set, h.len] at this; exact this
  rw [List.getElem?_set] at he'
  by_cases e1 : i = j
  · subst e1
    simp only [if_true] at he'
    split at he'
    · cases he'
      exact ⟨c, h1, by rw [h2]; exact he.frame k hk⟩
    · cases he'
  · rw [if_neg e1] at he'
    obtain ⟨c0, q1, q2⟩ := g3 j e' he'
    exact ⟨c0, by rw [h3 j (Ne.symm e1) hj32]; exact q1, by rw [h4 j (Ne.symm e1) hj32]; exact (q2.mono hg).frame k hk⟩
section
variable {cal : FuncId → Bool} {φ : Oracle} {N : Nat}
def ROwnP (H : Heap) (d : Dsc) (r : Out) : Prop := ∃ nv, r.1 = .agg (d.cells nv) ∧ Buf H.length 1 r.2 nv (strs d.names) ∧ Frame NoF H r.2
def ROwnOk (φ : Oracle) (f : FuncId) : Prop := ∀ (F : Nat → Prop) (H : Heap) (x : IV) (d : Dsc), DV F H x d → d.names.length ≤ 1000000 → Wp (φ f [x] H) (ROwnP H d)
theorem bufNm {B : Nat} {H : Heap} {nv : IV} {l : List (List UInt8)} (h : Buf B 1 H nv (strs l)) : Nm (B ≤ ·) H nv l := ⟨h.sl' (by rw [strs_length]; simp) (by omega), h.ge⟩
theorem rown_s {F : Nat → Prop} {H : Heap} {x : IV} {d : Dsc} (h : DV F H x d) (hb : d.names.length ≤ 1000000) : Wp (veneerref07OwnS cal φ N x H) (ROwnP H d) := by
  obtain ⟨nv, rfl, hn⟩ := h
  unfold veneerref07OwnS
  have hbx : lbox H (.agg (d.cells nv)) = some (.ptr H.length 0, H ++ [IObj.row (d.cells nv) false]) := lbox_agg (d.cells_one hn.one)
  rw [hbx, ob_some, lzbox_eq, ob_some]
  simp only [cells_agg]
  have r1 : (H ++ [IObj.row (d.cells nv) false])[H.length]? = some (.row (d.cells nv) false) := newRow
  have k1 : Frame NoF H (H ++ [IObj.row (d.cells nv) false]) := Frame.push _ _ _
  have l1 : (H ++ [IObj.row (d.cells nv) false]).length = H.length + 1 := by simp
  generalize H ++ [IObj.row (d.cells nv) false] = K1 at *
  have z1 : ([.int .i64 0, .int .i64 0, .int .i64 0, .bool false, .nilSlice, .int .i64 0] : List IV) = Dsc.zero.cells .nilSlice := rfl
  rw [z1]
  have r2 : (K1 ++ [IObj.row (Dsc.zero.cells .nilSlice) false])[K1.length]? = some (.row (Dsc.zero.cells .nilSlice) false) := newRow
  have k2 : Frame NoF K1 (K1 ++ [IObj.row (Dsc.zero.cells .nilSlice) false]) := Frame.push _ _ _
  have l2 : (K1 ++ [IObj.row (Dsc.zero.cells .nilSlice) false]).length = K1.length + 1 := by simp
  have r1' := k2.get (fun h => h) r1
  generalize K1 ++ [IObj.row (Dsc.zero.cells .nilSlice) false] = K2 at *
  have z : lbldS K2 1 0 [(.str [])] [] = some (.slice K2.length 0 0 0 true 1, K2 ++ [.row [] false]) := rfl
  rw [z, ob_some]
  simp only
  have k3 : Frame NoF K2 (K2 ++ [.row [] false]) := Frame.push _ _ _
  have r3 := k3.get (fun h => h) r1'
  have c4 : (d.cells nv)[0 + 4]? = some nv := rfl
  rw [loff_ptr, ob_some, ld1 r3, c4, ob_some]
  have hn3 := ((hn.kp k1).kp k2).kp k3
  refine Wp.call (app_sl (newBuf 1 K2) (by simp) (by omega) hn3.1 (strs_one _) (by simp [strs_length]; omega)) ?_
  rintro ⟨w, K4⟩ ⟨g1, g2⟩
  rw [List.nil_append] at g1
  simp only at g1 g2 ⊢
  have hlt : K2.length < (K2 ++ [IObj.row [] false]).length := by simp
  have r4 := g2.get (by omega) r3
  have r4' := g2.get (by omega) (k3.get (fun h => h) r2)
  rw [ob_some, Nat.zero_add, st1 r4 g1.one (by rw [d.cells_length]; omega), ob_some]
  simp only
  rw [d.cells_set]
  have r5 := setAt (o' := IObj.row (d.cells w) false) r4
  have r5' : (K4.set H.length (IObj.row (d.cells w) false))[K1.length]? = some (.row (Dsc.zero.cells .nilSlice) false) := by
    rw [List.getElem?_set_ne (by omega)]; exact r4'
  have b5 : Buf K2.length 1 (K4.set H.length (IObj.row (d.cells w) false)) w (strs d.names) := g1.frame (Frame.set (F := fun i => i = H.length) _ _ rfl) (fun i e => .inl (by omega))
  have f5 : Frame NoF H (K4.set H.length (IObj.row (d.cells w) false)) := (((k1.tr k2).tr k3).trans g2 fun i hi hf => by omega).setNew _ (Nat.le_refl _)
  generalize K4.set H.length (IObj.row (d.cells w) false) = K5 at *
  rw [ldn (n := 6) r5 rfl, ob_some, stn (n := 6) r5' (d.cells_one b5.one) rfl rfl, ob_some]
  simp only
  have r6 := setAt (o' := IObj.row (d.cells w) false) r5'
  rw [ldn (n := 6) r6 rfl, ob_some]
  refine Wp.ret ⟨w, rfl, ?_, f5.setNew _ (by omega)⟩
  exact (b5.le (show H.length ≤ K2.length by omega)).frame' b5 (Frame.set (F := fun i => i = K1.length) _ _ rfl) (fun i e => by omega)
def RGetP (H : Heap) (tab : Tab) (fd : Int) (r : Out) : Prop :=
  Frame NoF H r.2 ∧ ((∃ d x, look tab fd = some d ∧ r.1 = .tuple [x, .int .i64 0] ∧ DV (New H) r.2 x d) ∨ (look tab fd = none ∧ r.1 = .tuple [.agg (Dsc.zero.cells .nilSlice), .int .i64 9]))
def RGetOk (φ : Oracle) (f : FuncId) : Prop := ∀ (G : Nat → Prop) (H : Heap) (t : Nat) (tab : Tab) (fd : Int), RTab G H t tab → Wp (φ f [.ptr t 0, .int .i64 fd] H) (RGetP H tab fd)
theorem rget_s {fo : FuncId} (ho : ROwnOk φ fo) {G : Nat → Prop} {H : Heap} {t : Nat} {tab : Tab} {fd : Int} (hT : RTab G H t tab) : Wp (VeneerVeneerref07TableGetS cal φ N fo (.ptr t 0) (.int .i64 fd) H) (RGetP H tab fd) := by
  unfold VeneerVeneerref07TableGetS
  rw [lzbox_eq, ob_some]
  simp only [cells_agg]
  have k1 : Frame NoF H (H ++ [IObj.row (Dsc.zero.cells .nilSlice) false]) := Frame.push _ _ _
  have r1 : (H ++ [IObj.row (Dsc.zero.cells .nilSlice) false])[H.length]? = some (.row (Dsc.zero.cells .nilSlice) false) := newRow
  have hz : ([.int .i64 0, .int .i64 0, .int .i64 0, .bool false, .nilSlice, .int .i64 0] : List IV) = Dsc.zero.cells .nilSlice := rfl
  rw [hz]
  have l1 : (H ++ [IObj.row (Dsc.zero.cells .nilSlice) false]).length = H.length + 1 := by simp
  generalize H ++ [IObj.row (Dsc.zero.cells .nilSlice) false] = K at *
  have hTK := hT.kp k1
  have hld : lbld (Dsc.zero.cells .nilSlice) [] = some (.agg (Dsc.zero.cells .nilSlice)) := rfl
  have bad : look tab fd = none → Wp (ob (lbld (Dsc.zero.cells .nilSlice) []) fun t14 => ob (lstV K 6 (.ptr H.length 0) t14) fun r15 => ob (lloadn r15.2 6 (.ptr H.length 0)) fun t16 => some ((IV.tuple [t16, (.int .i64 9)]), r15.2)) (RGetP H tab fd) := by
    intro hlk
    rw [hld, ob_some, stn (n := 6) r1 rfl rfl rfl, ob_some]
    simp only
    rw [ldn (n := 6) (setAt r1) rfl, ob_some]
    exact Wp.ret ⟨k1.setNew _ (Nat.le_refl _), .inr ⟨hlk, rfl⟩⟩
  rw [lbin_lss, ob_some]
  by_cases h0 : fd < 0
  · rw [decide_eq_true h0]
    simp only [isB_tf, gq_false, ob_some, lpick_true]
    rw [cnd_true]
    exact bad (by unfold look; rw [if_neg (by omega)])
  · rw [decide_eq_false h0]
    simp only [isB_ff, gq_true, ob_some, lbin_gtr]
    by_cases h1 : 31 < fd
    · rw [decide_eq_true h1]
      simp only [lpick_false, ob_some, isB_tf, gq_false, lpick_true]
      rw [cnd_true]
      exact bad (by unfold look; rw [if_neg (by omega)])
    · rw [decide_eq_false h1]
      obtain ⟨i, rfl⟩ : ∃ i : Nat, fd = (i : Nat) := ⟨fd.toNat, by omega⟩
      obtain ⟨cs, c, e, g1, g2, g3, g4, g5⟩ := hTK.get (i := i) (by omega)
      have hlk : look tab (i : Nat) = e := by unfold look; rw [if_pos (by omega), Int.toNat_natCast, g4]; rfl
      simp only [lpick_false, ob_some, isB_ff, gq_true, lchk_ptr, loff_ptr, Nat.zero_add]
      rw [lixa_ptr, if_pos (by omega), Int.toNat_natCast, Nat.mul_one, Nat.zero_add]
      simp only [ob_some, ld1 g1, g3]
      rcases g5 with ⟨rfl, rfl⟩ | ⟨d', nv', rfl, rfl, q1, q3, q4⟩
      · simp only [iun_not, ob_some, Bool.not_false, lpick_false]
        rw [cnd_true]
        exact bad hlk
      · simp only [iun_not, ob_some, Bool.not_true, lpick_false]
        rw [cnd_false]
        rw [lixa_ptr, if_pos (by omega), Int.toNat_natCast, ob_some, ldnAt g1 (by omega), q1, ob_some]
        refine Wp.call (ho G K _ d' ⟨nv', rfl, q3⟩ q4) ?_
        rintro ⟨r, H2⟩ ⟨nv2, e1, e4, e5⟩
        simp only at e1 e4 e5 ⊢
        subst e1
        have r2 := e5.get (fun h => h) r1
        rw [stn (n := 6) r2 (d'.cells_one e4.one) rfl rfl, ob_some]
        simp only
        rw [ldn (n := 6) (setAt r2) rfl, ob_some]
        refine Wp.ret ⟨(k1.tr e5).setNew _ (Nat.le_refl _), .inl ⟨d', _, hlk, rfl, nv2, rfl, ?_⟩⟩
        exact ((bufNm e4).frame (Frame.set (F := fun i => i = H.length) H2 _ rfl) fun i (hi : K.length ≤ i) e => by omega).mono fun i (hi : K.length ≤ i) => by show H.length ≤ i; omega
theorem rget_val {H : Heap} {tab : Tab} {fd : Int} {r : Out} (h : RGetP H tab fd r) : ∃ cs e, r.1 = .tuple [.agg cs, .int .i64 e] ∧ cs.all IV.one = true ∧ cs.length = 6 ∧ (e = if (look tab fd).isSome then 0 else 9) := by
  obtain ⟨_, ⟨d, x, h1, h2, h3⟩ | ⟨h1, h2⟩⟩ := h
  · obtain ⟨nv, rfl, h4, h5⟩ := h3.one6
    exact ⟨_, 0, h2, h4, h5, by rw [h1]; rfl⟩
  · exact ⟨_, 9, h2, rfl, rfl, by rw [h1]; rfl⟩
/-- Putting a descriptor in its place. -/
theorem rput {G : Nat → Prop} {H : Heap} {t i L : Nat} {tab : Tab} {d : Dsc} {nv : IV} {cs : List IV} (hT : RTab G H t tab) (hr : H[t]? = some (.row cs false)) (hl : cs.length = 224) (hi : i < 32) (hc : cs[i]? = some (.bool true)) (hb : Buf L 1 H nv (strs d.names)) (ht : t < L) (hd : d.names.length ≤ 1000000) :
    RTab (fun j => G j ∨ (L ≤ j ∧ j < H.length)) (H.set t (.row (putAt cs (32 + i * 6) (d.cells nv)) false)) t (tab.set i (some d)) := by
  have hlen : 32 + i * 6 + (d.cells nv).length ≤ cs.length := by rw [d.cells_length]; omega
  have hg := fun j => putAt_get (cs := cs) (vs := d.cells nv) (o := 32 + i * 6) hlen j
  refine hT.upd hr (fun j h => .inl h) (fun h => by rcases h with h | h; exact hT.notG h; omega) (fun j h => by rcases h with h | h; exact hT.lt j h; exact h.2) hi (c := .bool true) (xs := d.cells nv) (by rw [putAt_length hlen]; exact hl) ?_ ?_ (fun j hj hj2 => ?_) (fun k hk hk2 => ?_) (.inr ⟨d, nv, rfl, rfl, rfl, ⟨(bufNm hb).1, ?_⟩, hd⟩)
  · rw [hg, if_neg (by omega)]; exact hc
  · apply List.ext_getElem?
    intro j
    rw [List.getElem?_take]
    split
    · rename_i hj
      rw [List.getElem?_drop, hg, if_pos (by rw [d.cells_length]; omega)]; congr 1; omega
    · rw [List.getElem?_eq_none (by rw [d.cells_length]; omega)]
  · rw [hg, if_neg (by omega)]
  · refine drop6 fun j h1 h2 => ?_
    rw [hg, if_neg (by rw [d.cells_length]; omega)]
  · intro b o n lb ex sz e h0
    exact .inr ⟨hb.ge b o n lb ex sz e h0, (bufNm hb).1.lt b o n lb ex sz e h0⟩
def ROpenP (G : Nat → Prop) (H : Heap) (t : Nat) (tab : Tab) (d : Dsc) (r : Out) : Prop :=
  Frame (fun i => i = t) H r.2 ∧
  ((∃ i G', i < 32 ∧ tab[i]? = some none ∧ (∀ j, j < i → tab[j]? ≠ some none) ∧ r.1 = .tuple [.int .i64 (i : Nat), .int .i64 0] ∧ RTab G' r.2 t (tab.set i (some d)) ∧ ∀ j, G' j → G j ∨ H.length ≤ j) ∨
   ((∀ j, j < 32 → tab[j]? ≠ some none) ∧ r.1 = .tuple [.int .i64 0, .int .i64 24] ∧ RTab G r.2 t tab))
def ROpenOk (φ : Oracle) (f : FuncId) : Prop := ∀ (F G : Nat → Prop) (H : Heap) (t : Nat) (tab : Tab) (x : IV) (d : Dsc), RTab G H t tab → DV F H x d → (∀ i, F i → i ≠ t) → d.names.length ≤ 1000000 → Wp (φ f [.ptr t 0, x] H) (ROpenP G H t tab d)
theorem ropen_go {fo : FuncId} (ho : ROwnOk φ fo) {F G : Nat → Prop} {H H0 : Heap} {t q : Nat} {tab : Tab} {d : Dsc} {nv : IV} (hT : RTab G H t tab) (hk : Frame NoF H0 H) (htl : t < H0.length) (hqt : q ≠ t) (hq : H[q]? = some (.row (d.cells nv) false)) (hnv : Nm F H nv d.names) (hF : ∀ i, F i → i ≠ t) (hb : d.names.length ≤ 1000000) :
    ∀ (k i n : Nat), i + k = 32 → k < n → (∀ j, j < i → tab[j]? ≠ some none) →
      Wp (VeneerVeneerref07TableOpenC0S cal φ N fo (fun H => some ((.tuple [(.int .i64 0), (.int .i64 24)]), H)) n (.ptr t 0) (.ptr q 0) (.int .i64 (i : Nat)) H) (ROpenP G H0 t tab d) := by
  intro k
  induction k with
  | zero =>
    intro i n hi hn hj
    obtain ⟨n, rfl⟩ : ∃ j, n = j + 1 := ⟨n - 1, by omega⟩
    rw [VeneerVeneerref07TableOpenC0S, lbin_lss, ob_some, decide_eq_false (by omega), cnd_false]
    exact Wp.ret ⟨hk.no, .inr ⟨fun j h => hj j (by omega), rfl, hT⟩⟩
  | succ k ih =>
    intro i n hi hn hj
    obtain ⟨n, rfl⟩ : ∃ j, n = j + 1 := ⟨n - 1, by omega⟩
    rw [VeneerVeneerref07TableOpenC0S, lbin_lss, ob_some, decide_eq_true (by omega), cnd_true]
    obtain ⟨cs, c, e, g1, g2, g3, g4, g5⟩ := hT.get (i := i) (by omega)
    rw [lchk_ptr, ob_some, loff_ptr, ob_some, lixa_ptr, if_pos (by omega), Int.toNat_natCast, Nat.mul_one, Nat.zero_add, ob_some, ld1 g1, g3, ob_some]
    rcases g5 with ⟨rfl, rfl⟩ | ⟨d', nv', rfl, rfl, h1, h3, h4⟩
    · rw [iun_not, ob_some, Bool.not_false, cnd_true]
      rw [ob_some, loff_ptr, ob_some, lixa_ptr, if_pos (by omega), Int.toNat_natCast, Nat.mul_one, Nat.zero_add, ob_some, st1 g1 rfl (by omega), ob_some]
      simp only
      have kt : Frame (fun j => j = t) H (H.set t (.row (cs.set i (.bool true)) false)) := Frame.set _ _ rfl
      have q2 := kt.get hqt hq
      rw [ldn q2 (d.cells_length nv), ob_some]
      have hn2 := hnv.frame kt hF
      refine Wp.call (ho F _ _ d ⟨nv, rfl, hn2⟩ hb) ?_
      rintro ⟨r, H2⟩ ⟨nv2, e1, e4, e5⟩
      simp only at e1 e4 e5 ⊢
      subst e1
      have t2 := e5.get (fun h => h) (setAt (o' := IObj.row (cs.set i (.bool true)) false) g1)
      rw [ob_some, loff_ptr, ob_some, lixa_ptr, if_pos (by omega), Int.toNat_natCast, ob_some, Nat.zero_add, stnAt (n := 6) t2 (d.cells_one e4.one) rfl (by rw [List.length_set]; omega), ob_some]
      have hlH : (H.set t (IObj.row (cs.set i (.bool true)) false)).length = H.length := by simp
      rw [hlH] at e4
      have ht2 := hT.ltT
      have k2 : Frame (fun j => j = t) H0 H2 := (hk.no.tr kt).tr e5.no
      refine Wp.ret ⟨k2.tr (Frame.set _ _ rfl), .inl ⟨i, fun j => G j ∨ (H.length ≤ j ∧ j < H2.length), by omega, g4, hj, rfl, ?_, fun j hj => ?_⟩⟩
      · -- the table with the mark set, the place still to be filled
        have hT' : RTab G H2 t tab → True := fun _ => trivial
        obtain ⟨cs0, p1, p2, p3⟩ := hT.row
        rw [g1] at p1; cases p1
        have hlen : 32 + i * 6 + (d.cells nv2).length ≤ (cs.set i (.bool true)).length := by rw [d.cells_length, List.length_set]; omega
        have hg := fun j => putAt_get (cs := cs.set i (.bool true)) (vs := d.cells nv2) (o := 32 + i * 6) hlen j
        have hfr : Frame (fun j => j = t) H (H2.set t (.row (putAt (cs.set i (.bool true)) (32 + i * 6) (d.cells nv2)) false)) := (kt.tr e5.no).tr (Frame.set _ _ rfl)
        have hb2 : Buf H.length 1 (H2.set t (.row (putAt (cs.set i (.bool true)) (32 + i * 6) (d.cells nv2)) false)) nv2 (strs d.names) := e4.frame (Frame.set (F := fun j => j = t) _ _ rfl) (fun j e => .inl (by omega))
        refine ⟨by simp [hT.len], fun h => by rcases h with h | h; exact hT.notG h; omega, fun j h => by rcases h with h | h; exact Nat.lt_of_lt_of_le (hT.lt j h) hfr.1; simpa using h.2, _, setAt t2, by rw [putAt_length hlen, List.length_set]; exact p2, fun j e' he' => ?_⟩
        have hj32 : j < 32 := by
          have := (List.getElem?_eq_some_iff.1 he').1
          rw [List.length_set, hT.len] at this; exact this
        rw [List.getElem?_set] at he'
        by_cases e1 : i = j
        · subst e1
          simp only [if_true] at he'
          split at he'
          · cases he'
            refine ⟨.bool true, by rw [hg, if_neg (by omega), List.getElem?_set_self (by omega)], .inr ⟨d, nv2, rfl, rfl, ?_, ⟨(bufNm hb2).1, ?_⟩, hb⟩⟩
            · apply List.ext_getElem?
              intro j
              rw [List.getElem?_take]
              split
              · rename_i hj
                rw [List.getElem?_drop, hg, if_pos (by rw [d.cells_length]; omega)]; congr 1; omega
              · rw [List.getElem?_eq_none (by rw [d.cells_length]; omega)]
            · intro b o n lb ex sz e h0
              exact .inr ⟨hb2.ge b o n lb ex sz e h0, by simpa using (bufNm hb2).1.lt b o n lb ex sz e h0⟩
          · cases he'
        · rw [if_neg e1] at he'
          obtain ⟨c0, q1, q2⟩ := p3 j e' he'
          refine ⟨c0, by rw [hg, if_neg (by omega), List.getElem?_set_ne e1]; exact q1, ?_⟩
          have : ((putAt (cs.set i (.bool true)) (32 + i * 6) (d.cells nv2)).drop (32 + j * 6)).take 6 = (cs.drop (32 + j * 6)).take 6 := by
            refine drop6 fun k h1 h2 => ?_
            rw [hg, if_neg (by rw [d.cells_length]; omega), List.getElem?_set_ne (by omega)]
          rw [this]
          exact (q2.frame hfr fun k hk e => hT.notG (e ▸ hk)).mono fun k hk => .inl hk
      · rcases hj with h | h
        · exact .inl h
        · exact .inr (Nat.le_trans hk.1 h.1)
    · rw [iun_not, ob_some, Bool.not_true, cnd_false, lbin_add, ob_some, wrap_i64 (by omega) (by omega), show ((i : Nat) : Int) + 1 = ((i + 1 : Nat) : Int) by omega]
      refine ih (i + 1) n (by omega) (by omega) fun j hlt => ?_
      by_cases e : j = i
      · subst e; rw [g4]; simp
      · exact hj j (by omega)
theorem ropen_s {fo : FuncId} (hN : 32 < N) (ho : ROwnOk φ fo) {F G : Nat → Prop} {H : Heap} {t : Nat} {tab : Tab} {x : IV} {d : Dsc} (hT : RTab G H t tab) (hx : DV F H x d) (hF : ∀ i, F i → i ≠ t) (hb : d.names.length ≤ 1000000) : Wp (VeneerVeneerref07TableOpenS cal φ N fo (.ptr t 0) x H) (ROpenP G H t tab d) := by
  obtain ⟨nv, rfl, hnv⟩ := hx
  unfold VeneerVeneerref07TableOpenS VeneerVeneerref07TableOpenC4S VeneerVeneerref07TableOpenC3S VeneerVeneerref07TableOpenC2S VeneerVeneerref07TableOpenC1S
  have hbx : lbox H (.agg (d.cells nv)) = some (.ptr H.length 0, H ++ [IObj.row (d.cells nv) false]) := lbox_agg (d.cells_one hnv.one)
  rw [hbx, ob_some]
  simp only
  have k1 : Frame NoF H (H ++ [IObj.row (d.cells nv) false]) := Frame.push _ _ _
  have r1 : (H ++ [IObj.row (d.cells nv) false])[H.length]? = some (.row (d.cells nv) false) := newRow
  generalize H ++ [IObj.row (d.cells nv) false] = K at *
  have := hT.ltT
  exact ropen_go ho (hT.kp k1) k1 hT.ltT (by omega) r1 (hnv.kp k1) hF hb 32 0 N (by omega) hN (fun j h => by omega)
end
end Go.Shade
/- DESC, part 13: contracts of the document's table: the other functions. -/
namespace Go.Shade
set_option linter.unusedVariables false
set_option linter.unusedSimpArgs false
section
variable {cal : FuncId → Bool} {φ : Oracle} {N : Nat}
def RSetP (G : Nat → Prop) (H : Heap) (t : Nat) (tab : Tab) (fd : Int) (d : Dsc) (r : Out) : Prop :=
  Frame (fun i => i = t) H r.2 ∧
  (((look tab fd).isSome = true ∧ r.1 = .int .i64 0 ∧ ∃ G', RTab G' r.2 t (put' tab fd (some d)) ∧ ∀ j, G' j → G j ∨ H.length ≤ j) ∨ (look tab fd = none ∧ r.1 = .int .i64 9 ∧ RTab G r.2 t tab))
def RSetOk (φ : Oracle) (f : FuncId) : Prop := ∀ (F G : Nat → Prop) (H : Heap) (t : Nat) (tab : Tab) (fd : Int) (x : IV) (d : Dsc), RTab G H t tab → DV F H x d → d.names.length ≤ 1000000 → Wp (φ f [.ptr t 0, .int .i64 fd, x] H) (RSetP G H t tab fd d)
theorem rset_s {fg fo : FuncId} (hg : RGetOk φ fg) (ho : ROwnOk φ fo) {F G : Nat → Prop} {H : Heap} {t : Nat} {tab : Tab} {fd : Int} {x : IV} {d : Dsc} (hT : RTab G H t tab) (hx : DV F H x d) (hb : d.names.length ≤ 1000000) : Wp (VeneerVeneerref07TableSetS cal φ N fg fo (.ptr t 0) (.int .i64 fd) x H) (RSetP G H t tab fd d) := by
  obtain ⟨nv, rfl, hnv⟩ := hx
  unfold VeneerVeneerref07TableSetS
  have hbx : lbox H (.agg (d.cells nv)) = some (.ptr H.length 0, H ++ [IObj.row (d.cells nv) false]) := lbox_agg (d.cells_one hnv.one)
  rw [hbx, ob_some]
  simp only
  have k1 : Frame NoF H (H ++ [IObj.row (d.cells nv) false]) := Frame.push _ _ _
  have r1 : (H ++ [IObj.row (d.cells nv) false])[H.length]? = some (.row (d.cells nv) false) := newRow
  generalize H ++ [IObj.row (d.cells nv) false] = K at *
  have hTK := hT.kp k1
  refine Wp.call (hg G K t tab fd hTK) ?_
  rintro ⟨r, K2⟩ hr
  have k2 : Frame NoF K K2 := hr.1
  obtain ⟨cs, e, e1, e2, e3, e4⟩ := rget_val hr
  simp only at e1 k2 ⊢
  subst e1
  rw [iextract_tuple, iextract_tuple]
  simp only [List.getElem?_cons_zero, List.getElem?_cons_succ, ob_some]
  rw [lzbox_eq, ob_some]
  simp only [cells_agg]
  rw [stn newRow e2 e3 rfl, ob_some, setRow]
  simp only
  have k3 : Frame NoF K2 (K2 ++ [IObj.row cs false]) := Frame.push _ _ _
  have kk := (k1.tr k2).tr k3
  have r3 := (k2.tr k3).get (fun h => h) r1
  have hT3 := hTK.kp (k2.tr k3)
  have hn3 := (hnv.kp k1).kp (k2.tr k3)
  generalize K2 ++ [IObj.row cs false] = K3 at *
  rw [jn_eq, lbin_eql, ob_some]
  cases hl : look tab fd with
  | none =>
    have : e = 9 := by rw [e4, hl]; rfl
    subst this
    rw [decide_eq_false (by decide), cnd_false]
    exact Wp.ret ⟨kk.no, .inr ⟨hl, rfl, hT3⟩⟩
  | some d0 =>
    have : e = 0 := by rw [e4, hl]; rfl
    subst this
    rw [decide_eq_true rfl, cnd_true, ldn r3 (d.cells_length nv), ob_some]
    refine Wp.call (ho F K3 _ d ⟨nv, rfl, hn3⟩ hb) ?_
    rintro ⟨r, K4⟩ ⟨nv2, f1, f4, f5⟩
    simp only at f1 f4 f5 ⊢
    subst f1
    obtain ⟨i, rfl, hi, hti⟩ := look_lt hl
    have hT4 := hT3.kp f5
    obtain ⟨ct, c, e, g1, g2, g3, g4, g5⟩ := hT4.get (i := i) hi
    have hc : ct[i]? = some (.bool true) := by
      rw [hti] at g4; cases g4
      rcases g5 with ⟨h, _⟩ | ⟨_, _, _, h, _⟩
      · cases h
      · rw [g3, h]
    rw [lchk_ptr, ob_some, loff_ptr, ob_some, lixa_ptr, if_pos (by omega), Int.toNat_natCast, Nat.zero_add, ob_some, stnAt (n := 6) g1 (d.cells_one f4.one) rfl (by omega), ob_some]
    have hlt := hT3.ltT
    refine Wp.ret ⟨(kk.tr f5).no.tr (Frame.set _ _ rfl), .inl ⟨by rw [hl]; rfl, rfl, _, by unfold put'; rw [Int.toNat_natCast]; exact rput hT4 g1 g2 hi hc f4 hlt hb, fun j hj => ?_⟩⟩
    rcases hj with h | h
    · exact .inl h
    · exact .inr (Nat.le_trans kk.1 h.1)
def RCloseP (G : Nat → Prop) (H : Heap) (t : Nat) (tab : Tab) (fd : Int) (r : Out) : Prop :=
  Frame (fun i => i = t) H r.2 ∧
  ((∃ d x, look tab fd = some d ∧ r.1 = .tuple [x, .int .i64 0] ∧ DV (New H) r.2 x d ∧ RTab G r.2 t (put' tab fd none)) ∨ (look tab fd = none ∧ r.1 = .tuple [.agg (Dsc.zero.cells .nilSlice), .int .i64 9] ∧ RTab G r.2 t tab))
def RCloseOk (φ : Oracle) (f : FuncId) : Prop := ∀ (G : Nat → Prop) (H : Heap) (t : Nat) (tab : Tab) (fd : Int), RTab G H t tab → Wp (φ f [.ptr t 0, .int .i64 fd] H) (RCloseP G H t tab fd)
theorem rclose_s {fg : FuncId} (hg : RGetOk φ fg) {G : Nat → Prop} {H : Heap} {t : Nat} {tab : Tab} {fd : Int} (hT : RTab G H t tab) : Wp (VeneerVeneerref07TableCloseS cal φ N fg (.ptr t 0) (.int .i64 fd) H) (RCloseP G H t tab fd) := by
  unfold VeneerVeneerref07TableCloseS
  rw [lzbox_eq, ob_some]
  simp only [cells_agg]
  have k1 : Frame NoF H (H ++ [IObj.row (Dsc.zero.cells .nilSlice) false]) := Frame.push _ _ _
  have r1 : (H ++ [IObj.row (Dsc.zero.cells .nilSlice) false])[H.length]? = some (.row (Dsc.zero.cells .nilSlice) false) := newRow
  have hz : ([.int .i64 0, .int .i64 0, .int .i64 0, .bool false, .nilSlice, .int .i64 0] : List IV) = Dsc.zero.cells .nilSlice := rfl
  rw [hz]
  have lK : (H ++ [IObj.row (Dsc.zero.cells .nilSlice) false]).length = H.length + 1 := by simp
  generalize H ++ [IObj.row (Dsc.zero.cells .nilSlice) false] = K at *
  have hTK := hT.kp k1
  refine Wp.call (hg G K t tab fd hTK) ?_
  rintro ⟨r, K2⟩ hr
  have k2 : Frame NoF K K2 := hr.1
  obtain ⟨cs, e, e1, e2, e3, e4⟩ := rget_val hr
  obtain ⟨_, hr'⟩ := hr
  simp only at e1 k2 hr' ⊢
  subst e1
  rw [iextract_tuple, iextract_tuple]
  simp only [List.getElem?_cons_zero, List.getElem?_cons_succ, ob_some]
  rw [lzbox_eq, ob_some]
  simp only [cells_agg]
  rw [stn newRow e2 e3 rfl, ob_some, setRow]
  simp only
  have k3 : Frame NoF K2 (K2 ++ [IObj.row cs false]) := Frame.push _ _ _
  have q3 : (K2 ++ [IObj.row cs false])[K2.length]? = some (.row cs false) := newRow
  have kk := (k1.tr k2).tr k3
  have r3 := (k2.tr k3).get (fun h => h) r1
  have hT3 := hTK.kp (k2.tr k3)
  have lK2 := k2.1
  rw [jn_eq, lbin_eql, ob_some]
  have lt3 : t < K.length := hTK.ltT
  have ltH : t < H.length := hT.ltT
  have fin : ∀ (K4 : Heap), Frame (fun i => i = t) (K2 ++ [IObj.row cs false]) K4 → Wp (ob (lloadn K4 6 (.ptr K2.length 0)) fun t14 => ob (lstV K4 6 (.ptr H.length 0) t14) fun r15 => ob (lloadn r15.2 6 (.ptr H.length 0)) fun t16 => some ((IV.tuple [t16, .int .i64 e]), r15.2)) fun r => r.1 = .tuple [.agg cs, .int .i64 e] ∧ ∃ ro, r.2 = K4.set H.length ro := by
    intro K4 k4
    have a1 := k4.get (by omega) q3
    have a2 := k4.get (by omega) r3
    rw [ldn a1 e3, ob_some, stn a2 e2 e3 rfl, ob_some]
    simp only
    rw [ldn (setAt a2) e3, ob_some]
    exact Wp.ret ⟨rfl, _, rfl⟩
  cases hl : look tab fd with
  | none =>
    have : e = 9 := by rw [e4, hl]; rfl
    subst this
    rw [decide_eq_false (by decide), cnd_false]
    refine (fin _ (Frame.refl _ _)).mono ?_
    rintro ⟨r, K5⟩ ⟨f1, ro, f2⟩
    simp only at f1 f2
    subst f1 f2
    rcases hr' with ⟨d, x, h1, _⟩ | ⟨h1, h2⟩
    · rw [hl] at h1; cases h1
    · have : cs = Dsc.zero.cells .nilSlice := by injection h2 with h2; injection h2 with h2; injection h2
      subst this
      refine ⟨(kk.no).setNew _ (Nat.le_refl _), .inr ⟨hl, rfl, hT3.frame (Frame.set (F := fun i => i = H.length) _ _ rfl) (by omega) fun i hi => by have := hT.lt i hi; omega⟩⟩
  | some d0 =>
    have : e = 0 := by rw [e4, hl]; rfl
    subst this
    rw [decide_eq_true rfl, cnd_true]
    obtain ⟨i, rfl, hi, hti⟩ := look_lt hl
    obtain ⟨ct, c, e', g1, g2, g3, g4, g5⟩ := hT3.get (i := i) hi
    rw [lchk_ptr, ob_some, loff_ptr, ob_some, lixa_ptr, if_pos (by omega), Int.toNat_natCast, Nat.mul_one, Nat.zero_add, ob_some, st1 g1 rfl (by omega), ob_some]
    simp only
    refine (fin _ (Frame.set _ _ rfl)).mono ?_
    rintro ⟨r, K5⟩ ⟨f1, ro, f2⟩
    simp only at f1 f2
    subst f1 f2
    have hTs : RTab G ((K2 ++ [IObj.row cs false]).set t (.row (ct.set i (.bool false)) false)) t (tab.set i none) :=
      hT3.upd (c := .bool false) g1 (fun j h => h) hT3.notG hT3.lt hi (by rw [List.length_set]; exact g2) (by rw [List.getElem?_set_self (by omega)]) rfl (fun j hj _ => List.getElem?_set_ne (Ne.symm hj)) (fun k hk hk2 => drop6 fun j h1 h2 => List.getElem?_set_ne (by omega)) (.inl ⟨rfl, rfl⟩)
    rcases hr' with ⟨d, x, h1, h2, h3⟩ | ⟨h1, h2⟩
    · have : x = .agg cs := by injection h2 with h2; injection h2 with h2 _; exact h2.symm
      subst this
      have kt := (kk.no (G := fun i => i = t)).tr (Frame.set (K2 ++ [IObj.row cs false]) (IObj.row (ct.set i (.bool false)) false) (rfl : t = t))
      refine ⟨kt.setNew _ (Nat.le_refl _), .inl ⟨d, _, h1, rfl, ?_, ?_⟩⟩
      · refine ((h3.kp k3).mono (G := fun i => H.length < i) fun i (hi : K.length ≤ i) => by omega).frame (Frame.set (F := fun i => i = t) _ _ rfl) (fun i hi e => by omega) |>.frame (Frame.set (F := fun i => i = H.length) _ _ rfl) (fun i hi e => by omega) |>.mono fun i hi => Nat.le_of_lt hi
      · unfold put'
        rw [Int.toNat_natCast]
        exact hTs.frame (Frame.set (F := fun i => i = H.length) _ _ rfl) (by omega) fun i hi => by have := hT.lt i hi; omega
    · rw [hl] at h1; cases h1
def RAllOk (φ : Oracle) (f : FuncId) : Prop := ∀ (G : Nat → Prop) (H : Heap) (t : Nat) (tab : Tab), RTab G H t tab → Wp (φ f [.ptr t 0] H) (AllP H tab)
theorem rall_go {G : Nat → Prop} {H0 : Heap} {t : Nat} {tab : Tab} (hT0 : RTab G H0 t tab) : ∀ (k i n : Nat) (w : IV) (H : Heap), i + k = 32 → k < n → Frame NoF H0 H → Buf H0.length 1 H w (ints ((List.range i).filter fun i => (tab[i]?).join.isSome)) →
    Wp (VeneerVeneerref07TableAllC0S cal φ N (fun v3 H => some (v3, H)) n (.ptr t 0) w (.int .i64 (i : Nat)) H) (AllP H0 tab) := by
  intro k
  induction k with
  | zero =>
    intro i n w H hi hn hK hw
    obtain ⟨n, rfl⟩ : ∃ j, n = j + 1 := ⟨n - 1, by omega⟩
    rw [VeneerVeneerref07TableAllC0S, lbin_lss, ob_some, decide_eq_false (by omega), cnd_false]
    have : i = 32 := by omega
    subst this
    exact Wp.ret ⟨hK, hw.sl' (by rw [ints_length]; simp [opens]) (by omega), hw.ge⟩
  | succ k ih =>
    intro i n w H hi hn hK hw
    obtain ⟨n, rfl⟩ : ∃ j, n = j + 1 := ⟨n - 1, by omega⟩
    rw [VeneerVeneerref07TableAllC0S, lbin_lss, ob_some, decide_eq_true (by omega), cnd_true, jn_eq]
    have hT := hT0.kp hK
    obtain ⟨cs, c, e, g1, g2, g3, g4, g5⟩ := hT.get (i := i) (by omega)
    rw [lchk_ptr, ob_some, loff_ptr, ob_some, lixa_ptr, if_pos (by omega), Int.toNat_natCast, Nat.mul_one, Nat.zero_add, ob_some, ld1 g1, g3, ob_some]
    have hsucc := opensTo_succ tab i
    rw [g4] at hsucc
    rcases g5 with ⟨rfl, rfl⟩ | ⟨d', nv', rfl, rfl, h1, h3, h4⟩
    · rw [cnd_false]
      simp only
      rw [lbin_add, ob_some, wrap_i64 (by omega) (by omega), show ((i : Nat) : Int) + 1 = ((i + 1 : Nat) : Int) by omega]
      exact ih (i + 1) n w H (by omega) (by omega) hK (by rw [hsucc]; simpa using hw)
    · rw [cnd_true]
      have z : lbldS H 1 1 [(.int .i64 0)] [(0, .int .i64 (i : Nat))] = some (.slice H.length 0 1 1 true 1, H ++ [.row (ints [i]) false]) := rfl
      rw [z, ob_some]
      simp only
      have k1 : Frame NoF H (H ++ [.row (ints [i]) false]) := Frame.push _ _ _
      have hx : Sl 1 (H ++ [.row (ints [i]) false]) (.slice H.length 0 1 1 true 1) 1 (ints [i]) := ⟨rfl, .inr ⟨_, 0, 1, true, 1, rfl, Nat.le_refl _, .inr rfl, fun _ => ⟨_, false, newRow, Nat.le_refl _, rfl⟩⟩⟩
      have ho := opensTo_len tab i
      refine Wp.call (app_sl (hw.frame k1 fun i h => h.elim) (by have := hK.1; simp; omega) (by omega) hx (ints_one _) (by rw [ints_length, ints_length]; simp; omega)) ?_
      rintro ⟨w2, H2⟩ ⟨q1, q2⟩
      simp only at q1 q2 ⊢
      rw [lbin_add, ob_some, wrap_i64 (by omega) (by omega), show ((i : Nat) : Int) + 1 = ((i + 1 : Nat) : Int) by omega]
      exact ih (i + 1) n w2 H2 (by omega) (by omega) ((hK.tr k1).trans q2 fun j hj hf => by omega) (by rw [hsucc, ints_append]; exact q1)
theorem rall_s (hN : 32 < N) {G : Nat → Prop} {H : Heap} {t : Nat} {tab : Tab} (hT : RTab G H t tab) : Wp (VeneerVeneerref07TableAllS cal φ N (.ptr t 0) H) (AllP H tab) := by
  unfold VeneerVeneerref07TableAllS VeneerVeneerref07TableAllC5S VeneerVeneerref07TableAllC4S VeneerVeneerref07TableAllC3S VeneerVeneerref07TableAllC2S VeneerVeneerref07TableAllC1S
  have z : lbldS H 1 0 [(.int .i64 0)] [] = some (.slice H.length 0 0 0 true 1, H ++ [.row [] false]) := rfl
  rw [z, ob_some]
  have k1 : Frame NoF H (H ++ [.row [] false]) := Frame.push _ _ _
  exact rall_go hT 32 0 N _ _ (by omega) hN k1 (.inr ⟨H.length, 0, true, rfl, Nat.le_refl _, newRow, rfl⟩)
/-- The same numbers. -/
theorem ints_go {F F' : Nat → Prop} {H : Heap} {v w : IV} {l : List Nat} (hv : Sl 1 H v l.length (ints l)) (hw : Sl 1 H w l.length (ints l)) (hl : l.length ≤ 32) : ∀ (k i n : Nat), i + k = l.length → k < n →
    veneerlaw07IntsC0S cal φ N (fun H => some (.bool true, H)) n v w (.int .i64 (l.length : Nat)) (.int .i64 (i : Nat)) H = some (.bool true, H) := by
  intro k
  induction k with
  | zero =>
    intro i n hi hn
    obtain ⟨n, rfl⟩ : ∃ j, n = j + 1 := ⟨n - 1, by omega⟩
    rw [veneerlaw07IntsC0S, lbin_lss, ob_some, decide_eq_false (by omega), cnd_false]
  | succ k ih =>
    intro i n hi hn
    obtain ⟨n, rfl⟩ : ∃ j, n = j + 1 := ⟨n - 1, by omega⟩
    rw [veneerlaw07IntsC0S, lbin_lss, ob_some, decide_eq_true (by omega), cnd_true]
    obtain ⟨p, e1, e2⟩ := hv.at1 (i := i) (by omega)
    obtain ⟨q, f1, f2⟩ := hw.at1 (i := i) (by omega)
    have g1 := List.getElem?_eq_getElem (l := l) (i := i) (by omega)
    rw [e1, ob_some, e2, f1]
    simp only [ints, List.getElem?_map, g1, Option.map_some, ob_some]
    rw [f2]
    simp only [ints, List.getElem?_map, g1, Option.map_some, ob_some, lbin_neq, decide_true, Bool.not_true]
    rw [cnd_false, lbin_add, ob_some, wrap_i64 (by omega) (by omega), show ((i : Nat) : Int) + 1 = ((i + 1 : Nat) : Int) by omega]
    exact ih (i + 1) n (by omega) (by omega)
def IntsOk (φ : Oracle) (f : FuncId) : Prop := ∀ (H : Heap) (v w : IV) (l : List Nat), Sl 1 H v l.length (ints l) → Sl 1 H w l.length (ints l) → l.length ≤ 32 → φ f [v, w] H = some (.bool true, H)
theorem ints_s (hN : 32 < N) {H : Heap} {v w : IV} {l : List Nat} (hv : Sl 1 H v l.length (ints l)) (hw : Sl 1 H w l.length (ints l)) (hl : l.length ≤ 32) : veneerlaw07IntsS cal φ N v w H = some (.bool true, H) := by
  unfold veneerlaw07IntsS veneerlaw07IntsC5S veneerlaw07IntsC4S veneerlaw07IntsC3S veneerlaw07IntsC2S veneerlaw07IntsC1S
  rw [hv.len, ob_some, hw.len, ob_some, lbin_neq, ob_some, decide_eq_true rfl, Bool.not_true, cnd_false, ob_some]
  exact ints_go (F := NoF) (F' := NoF) hv hw hl l.length 0 N (by omega) (by omega)
end
end Go.Shade
