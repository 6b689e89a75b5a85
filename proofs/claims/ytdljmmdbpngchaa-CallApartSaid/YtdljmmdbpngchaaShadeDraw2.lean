/- SHADE, part 15: the looks at such a region, and why they suffice. -/
import Derived.Test.YtdljmmdbpngchaaShadeDraw
namespace Go.Shade
open Go.RowKit
set_option linter.unusedSimpArgs false
set_option linter.unusedVariables false

/-! ### are two ideal values the same? -/
mutual
def ivb : IV → IV → Bool
  | .bool a, .bool b => a == b
  | .int k a, .int k' b => k == k' && a == b
  | .str a, .str b => a == b
  | .ptr a b, .ptr c d => a == c && b == d
  | .nilPtr, .nilPtr => true
  | .slice a b c d e f, .slice a' b' c' d' e' f' => a == a' && b == b' && c == c' && d == d' && e == e' && f == f'
  | .nilSlice, .nilSlice => true
  | .map a, .map b => a == b
  | .nilMap, .nilMap => true
  | .func f a b, .func g c d => f == g && ivbs a c && ivbs b d
  | .nilFunc, .nilFunc => true
  | .iface t a, .iface u b => t == u && ivb a b
  | .nilIface, .nilIface => true
  | .agg a, .agg b => ivbs a b
  | .tuple a, .tuple b => ivbs a b
  | _, _ => false
def ivbs : List IV → List IV → Bool
  | [], [] => true
  | a :: as, b :: bs => ivb a b && ivbs as bs
  | _, _ => false
end
mutual
theorem ivb_eq : ∀ (a b : IV), ivb a b = true → a = b
  | .bool a, b, h => by cases b <;> simp_all [ivb]
  | .int k a, b, h => by cases b <;> simp_all [ivb]
  | .str a, b, h => by cases b <;> simp_all [ivb]
  | .ptr a b, c, h => by cases c <;> simp_all [ivb]
  | .nilPtr, b, h => by cases b <;> simp_all [ivb]
  | .slice _ _ _ _ _ _, b, h => by cases b <;> simp_all [ivb]
  | .nilSlice, b, h => by cases b <;> simp_all [ivb]
  | .map a, b, h => by cases b <;> simp_all [ivb]
  | .nilMap, b, h => by cases b <;> simp_all [ivb]
  | .func f a b, c, h => by
    cases c <;> simp only [ivb, Bool.and_eq_true, beq_iff_eq] at h <;> first
      | (cases h; done)
      | (obtain ⟨⟨rfl, h1⟩, h2⟩ := h; rw [ivbs_eq _ _ h1, ivbs_eq _ _ h2])
  | .nilFunc, b, h => by cases b <;> simp_all [ivb]
  | .iface t a, b, h => by
    cases b <;> simp only [ivb, Bool.and_eq_true, beq_iff_eq] at h <;> first
      | (cases h; done)
      | (obtain ⟨rfl, h1⟩ := h; rw [ivb_eq _ _ h1])
  | .nilIface, b, h => by cases b <;> simp_all [ivb]
  | .agg a, b, h => by
    cases b <;> simp only [ivb] at h <;> first
      | (cases h; done)
      | rw [ivbs_eq _ _ h]
  | .tuple a, b, h => by
    cases b <;> simp only [ivb] at h <;> first
      | (cases h; done)
      | rw [ivbs_eq _ _ h]
theorem ivbs_eq : ∀ (a b : List IV), ivbs a b = true → a = b
  | [], b, h => by cases b <;> simp_all [ivbs]
  | a :: as, b, h => by
    cases b with
    | nil => simp [ivbs] at h
    | cons b bs =>
      simp only [ivbs, Bool.and_eq_true] at h
      rw [ivb_eq _ _ h.1, ivbs_eq _ _ h.2]
end
mutual
theorem ivb_refl : ∀ (a : IV), ivb a a = true
  | .bool a => by simp [ivb]
  | .int k a => by simp [ivb]
  | .str a => by simp [ivb]
  | .ptr a b => by simp [ivb]
  | .nilPtr => by simp [ivb]
  | .slice _ _ _ _ _ _ => by simp [ivb]
  | .nilSlice => by simp [ivb]
  | .map a => by simp [ivb]
  | .nilMap => by simp [ivb]
  | .func f a b => by simp [ivb, ivbs_refl a, ivbs_refl b]
  | .nilFunc => by simp [ivb]
  | .iface t a => by simp [ivb, ivb_refl a]
  | .nilIface => by simp [ivb]
  | .agg a => by simp [ivb, ivbs_refl a]
  | .tuple a => by simp [ivb, ivbs_refl a]
theorem ivbs_refl : ∀ (a : List IV), ivbs a a = true
  | [] => by simp [ivbs]
  | a :: as => by simp [ivbs, ivb_refl a, ivbs_refl as]
end
def ivo : Option IV → IV → Bool
  | some a, b => ivb a b
  | none, _ => false
theorem ivo_eq {a : Option IV} {b : IV} (h : ivo a b = true) : a = some b := by
  cases a with
  | none => simp [ivo] at h
  | some a => rw [ivb_eq a b h]
theorem ivo_refl (a : IV) : ivo (some a) a = true := ivb_refl a

/-! ### kinds of operations -/
def isE (P : Program) : Op → Bool
  | .alloc _ | .box .. | .buildSlice .. | .store .. | .makeMap .. | .makeSlice .. | .mapUpdate .. | .insert .. => true
  | .convert _ d _ => match P.underlying d with
    | some (.slice _) => true
    | _ => false
  | .call { callee := .builtin .len, .. } => false
  | .call { callee := .builtin .min, .. } => false
  | .call { callee := .builtin .max, .. } => false
  | .call _ => true
  | _ => false
def readsH : Op → Bool
  | .load .. | .lookup .. | .slice .. | .convert .. | .call _ => true
  | _ => false
theorem notE {P : Program} {op : Op} (h : isE P op = false) (H : Heap) (ρ : Env) : istep P H ρ op = (iq P H ρ op).bind fun v => some (.val v, H) := by
  unfold istep
  cases hq : iq P H ρ op with
  | some v => rfl
  | none =>
    simp only [Option.bind_none]
    unfold ie
    split <;> first
      | rfl
      | (simp [isE] at h; done)
      | skip
    rename_i s d x
    simp only [isE] at h
    cases hx : ρ x with
    | none => rfl
    | some v =>
      simp only [Option.bind_some, ibytesOf]
      split <;> simp_all
theorem noRead {P : Program} {op : Op} (h : readsH op = false) (H H' : Heap) (ρ : Env) : iq P H ρ op = iq P H' ρ op := by
  unfold iq
  split <;> first
    | rfl
    | (simp [readsH] at h; done)

/-! ### the looks -/
def mask (acc : List Nat) : List Edge → Nat
  | [] => 0
  | e :: es => if Region.binds .any e then (2 ^ e.on ||| acc.getD e.on 0) ||| mask acc es else mask acc es
def ancs : List Oper → List Nat → List Nat
  | [], acc => acc
  | o :: os, acc => ancs os (acc ++ [mask acc o.after.toList])
def anc (l : List Oper) (i j : Nat) : Bool := ((ancs l []).getD i 0).testBit j
def opAt (l : List Oper) (i : Nat) : Oper := l.getD i default
def okDraw (P : Program) (ops : Array Oper) : Bool :=
  let l := ops.toList
  let A := ancs l []
  let n := l.length
  l.zipIdx.all fun (o, i) =>
    (o.after.toList.all fun e => !Region.binds .any e || decide (e.on < i)) &&
    (l.zipIdx.all fun (p, j) =>
      (!(isE P o.op && isE P p.op && decide (i < j)) || (A.getD j 0).testBit i) &&
      (i == j || o.dst.isNone || !(o.dst == p.dst)) &&
      ((o.looksAt ops).all fun t => !(p.dst == some t) || (i != j && ((A.getD i 0).testBit j || (A.getD j 0).testBit i))))
/-- Which reads (the first) stand beside which effects (the second), neither bound ahead of the other. -/
def loose (P : Program) (ops : Array Oper) : List (Nat × Nat) :=
  let l := ops.toList
  let A := ancs l []
  l.zipIdx.flatMap fun (o, i) => if isE P o.op || !readsH o.op then [] else
    l.zipIdx.filterMap fun (p, j) => if isE P p.op && !((A.getD i 0).testBit j) && !((A.getD j 0).testBit i) then some (i, j) else none
end Go.Shade
