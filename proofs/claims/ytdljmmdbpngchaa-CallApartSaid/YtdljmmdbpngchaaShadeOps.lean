/- SHADE, part 3: operations that leave the heap alone, on ideal values; each answers as the model's own. -/
import Derived.Test.YtdljmmdbpngchaaShadeMem
namespace Go.Shade
open Go.RowKit

/-! ### constants -/
def ofV1 : Value → Option IV
  | .bool b => some (.bool b)
  | .int k n => some (.int k n)
  | .string s => some (.str s.data.toList)
  | .pointer none => some .nilPtr
  | .slice none 0 0 => some .nilSlice
  | .map none => some .nilMap
  | .nilFunc => some .nilFunc
  | .nilIface => some .nilIface
  | _ => none
def ofVs : List Value → Option (List IV)
  | [] => some []
  | v :: vs => (ofV1 v).bind fun x => (ofVs vs).bind fun xs => some (x :: xs)
def ofV : Value → Option IV
  | .agg cs => (ofVs cs.toList).bind fun l => some (.agg l)
  | .tuple cs => (ofVs cs.toList).bind fun l => some (.tuple l)
  | .iface t v => (ofV1 v).bind fun x => some (.iface t x)
  | v => ofV1 v
theorem ofV1_VR (m : Mp) {v : Value} {x : IV} (h : ofV1 v = some x) : VR m x v := by
  unfold ofV1 at h
  split at h <;> first
    | (cases h; simp [VR]; done)
    | (cases h; done)
theorem ofVs_VRs (m : Mp) : ∀ {vs : List Value} {xs : List IV}, ofVs vs = some xs → VRs m xs vs
  | [], xs, h => by simp only [ofVs] at h; cases h; exact VRs.nil m
  | v :: vs, xs, h => by
    simp only [ofVs] at h
    obtain ⟨x, h1, h2⟩ := Option.bind_eq_some_iff.1 h
    obtain ⟨ys, h3, h4⟩ := Option.bind_eq_some_iff.1 h2
    cases h4
    exact VRs.cons (ofV1_VR m h1) (ofVs_VRs m h3)
theorem ofV_VR (m : Mp) {v : Value} {x : IV} (h : ofV v = some x) : VR m x v := by
  cases v <;> simp only [ofV] at h <;> first
    | exact ofV1_VR m h
    | (obtain ⟨l, h1, h2⟩ := Option.bind_eq_some_iff.1 h; cases h2; simp only [VR]; exact ⟨_, rfl, ofVs_VRs m h1⟩)
    | (obtain ⟨l, h1, h2⟩ := Option.bind_eq_some_iff.1 h; cases h2; simp only [VR]; exact ⟨_, rfl, ofV1_VR m h1⟩)

/-! ### types -/
def isAggT (P : Program) (t : TypeId) : Option Bool :=
  match P.underlying t with
  | some (.struct _) | some (.array _ _) => some true
  | some _ => some false
  | none => none
def szOf (P : Program) (t : TypeId) : Option Nat := (P.info? t).map (·.size)
def byOf (P : Program) (t : TypeId) : Option Nat := (P.info? t).map (·.bytes)
def zeroOf (P : Program) (t : TypeId) : Option IV := ((P.info? t).bind (·.zero)).bind ofV

theorem run_und {P : Program} {t : TypeId} {d : TypeDesc} (h : P.underlying t = some d) (w : World) : (underlying t).run P w = .ok d w := run_underlying h w
theorem run_isAgg {P : Program} {t : TypeId} {b : Bool} (h : isAggT P t = some b) (w : World) : (isAgg t).run P w = .ok b w := by
  unfold isAggT at h
  cases hu : P.underlying t with
  | none => simp [hu] at h
  | some d =>
    rw [hu] at h
    unfold isAgg
    rw [Sem.run_bind, run_underlying hu]
    cases d <;> simp_all
theorem run_info {P : Program} {t : TypeId} {i : TypeInfo} (h : P.info? t = some i) (w : World) : (typeInfo t).run P w = .ok i w := by
  simp [typeInfo, h]
theorem run_size {P : Program} {t : TypeId} {n : Nat} (h : szOf P t = some n) (w : World) : (sizeOf t).run P w = .ok n w := by
  unfold szOf at h
  cases hi : P.info? t with
  | none => simp [hi] at h
  | some i => simp [hi] at h; simp [sizeOf, run_info hi, h]
theorem run_zero {P : Program} {t : TypeId} {x : IV} (h : zeroOf P t = some x) (w : World) (m : Mp) : ∃ u, (zeroValue t).run P w = .ok u w ∧ VR m x u := by
  unfold zeroOf at h
  obtain ⟨z, h1, h2⟩ := Option.bind_eq_some_iff.1 h
  obtain ⟨i, h3, h4⟩ := Option.bind_eq_some_iff.1 h1
  exact ⟨z, by simp [zeroValue, run_info h3, h4], ofV_VR m h2⟩

/-! ### loads -/
def iload (P : Program) (t : TypeId) (H : Heap) (b o : Nat) : Option IV :=
  match H[b]? with
  | some (.row cs _) =>
    match isAggT P t with
    | some true => (szOf P t).bind fun n => if o + n ≤ cs.length then some (.agg ((cs.drop o).take n)) else none
    | some false => cs[o]?
    | none => none
  | _ => none
theorem run_iload {P : Program} {B0 : Nat} {w0 w : World} {m : Mp} {H : Heap} (h : Rel B0 w0 m H w) {t : TypeId} {b o : Nat} {v : IV} (hv : iload P t H b o = some v) {l : Loc} (hl : m b = some l) :
    ∃ u, (loadVar t ⟨l.cb, l.co + o, none⟩).run P w = .ok u w ∧ VR m v u := by
  unfold iload at hv
  split at hv
  · rename_i cs ro hb
    cases ha : isAggT P t with
    | none => simp [ha] at hv
    | some c =>
      cases c with
      | true =>
        simp only [ha] at hv
        obtain ⟨n, h1, h2⟩ := Option.bind_eq_some_iff.1 hv
        split at h2
        · rename_i hn
          cases h2
          obtain ⟨us, g1, g2, g3⟩ := h.cells hb hl o n hn
          refine ⟨.agg us.toArray, ?_, by simp only [VR]; exact ⟨_, rfl, g2⟩⟩
          have := run_loadCells_list (P := P) w ⟨l.cb, l.co + o, none⟩ us g3
          rw [g1] at this
          simp [loadVar, run_isAgg ha, run_size h1, this]
        · exact absurd h2 (by simp)
      | false =>
        simp only [ha] at hv
        obtain ⟨l', hl', hc⟩ := h.row hb
        rw [hl] at hl'; cases hl'
        obtain ⟨_, u, h1, h2⟩ := hc o v hv
        exact ⟨u, by simp [loadVar, run_isAgg ha, h1], h2⟩
  · exact absurd hv (by simp)

/-! ### arithmetic -/
def iarith (op : BinOp) (k : IntKind) (a b : Int) : Option IV :=
  match op with
  | .add => some (.int k (k.wrap (a + b)))
  | .sub => some (.int k (k.wrap (a - b)))
  | .mul => some (.int k (k.wrap (a * b)))
  | .quo => if b = 0 then none else some (.int k (k.wrap (a.tdiv b)))
  | .rem => if b = 0 then none else some (.int k (a.tmod b))
  | .and => some (.int k (k.wrap (BitVec.ofInt k.bits a &&& BitVec.ofInt k.bits b).toNat))
  | .or => some (.int k (k.wrap (BitVec.ofInt k.bits a ||| BitVec.ofInt k.bits b).toNat))
  | .xor => some (.int k (k.wrap (BitVec.ofInt k.bits a ^^^ BitVec.ofInt k.bits b).toNat))
  | .andNot => some (.int k (k.wrap (BitVec.ofInt k.bits a &&& ~~~(BitVec.ofInt k.bits b)).toNat))
  | .eql => some (.bool (a == b))
  | .neq => some (.bool (a != b))
  | .lss => some (.bool (decide (a < b)))
  | .leq => some (.bool (decide (a ≤ b)))
  | .gtr => some (.bool (decide (a > b)))
  | .geq => some (.bool (decide (a ≥ b)))
  | .shl | .shr => none
def ishift (op : BinOp) (k : IntKind) (a b : Int) : Option IV :=
  if b < 0 then none else
  match op with
  | .shl => some (.int k (k.wrap (a * 2 ^ (min b.toNat k.bits))))
  | .shr => some (.int k (a.fdiv (2 ^ (min b.toNat k.bits))))
  | _ => none
def istr (op : BinOp) (a b : List UInt8) : Option IV :=
  match op with
  | .add => if a.length + b.length ≤ 9223372036854775807 then some (.str (a ++ b)) else none
  | .eql => some (.bool (a == b))
  | .neq => some (.bool (!(a == b)))
  | .lss => some (.bool (Op.bytesLess a b))
  | .leq => some (.bool (Op.bytesLess a b || a == b))
  | .gtr => some (.bool (!(Op.bytesLess a b || a == b)))
  | .geq => some (.bool (!(Op.bytesLess a b)))
  | _ => none
/-- '==' of two cells that are numbers, bools or texts. -/
def cellEq : IV → IV → Option Bool
  | .int k a, .int k' b => if k = k' then some (a == b) else none
  | .bool a, .bool b => some (a == b)
  | .str a, .str b => some (a == b)
  | _, _ => none
def scalarT (P : Program) (t : TypeId) (x : IV) : Bool :=
  match P.underlying t, x with
  | some (.int _), .int _ _ => true
  | some .bool, .bool _ => true
  | some .string, .str _ => true
  | _, _ => false
def eqFields (P : Program) : List Field → List IV → List IV → Option Bool
  | [], _, _ => some true
  | f :: fs, xs, ys =>
    if f.name = "_" then none else
    match xs[f.offset]?, ys[f.offset]? with
    | some x, some y =>
      if scalarT P f.type x && scalarT P f.type y then
        (cellEq x y).bind fun b => (eqFields P fs xs ys).bind fun r => some (b && r)
      else none
    | _, _ => none
/-- '==' of what is no number and no text. -/
def ieq (P : Program) (t : TypeId) (x y : IV) : Option Bool :=
  match P.underlying t, x, y with
  | some .bool, .bool a, .bool b => some (a == b)
  | some (.pointer _), .nilPtr, .nilPtr => some true
  | some (.pointer _), .nilPtr, .ptr _ _ => some false
  | some (.pointer _), .ptr _ _, .nilPtr => some false
  | some (.pointer e), .ptr b o, .ptr b' o' => match szOf P e with
    | some (_ + 1) => if b = b' then some (o == o') else none
    | _ => none
  | some (.slice _), .nilSlice, .nilSlice => some true
  | some (.slice _), .nilSlice, .slice .. => some false
  | some (.slice _), .slice .., .nilSlice => some false
  | some (.map ..), .nilMap, .nilMap => some true
  | some (.map ..), .nilMap, .map _ => some false
  | some (.map ..), .map _, .nilMap => some false
  | some (.func ..), .nilFunc, .nilFunc => some true
  | some (.func ..), .nilFunc, .func .. => some false
  | some (.func ..), .func .., .nilFunc => some false
  | some (.interface _), .nilIface, .nilIface => some true
  | some (.interface _), .nilIface, .iface .. => some false
  | some (.interface _), .iface .., .nilIface => some false
  | some (.interface _), .iface tx vx, .iface ty vy =>
    if tx ≠ ty then some false else
    match P.info? tx with
    | some i => if i.comparable && scalarT P tx vx && scalarT P tx vy then cellEq vx vy else none
    | none => none
  | some (.struct fs), .agg xs, .agg ys => if P.stoodInHeld t then none else eqFields P fs.toList xs ys
  | _, _, _ => none
def geq (P : Program) (cst : Bool) (t : TypeId) : IV → IV → Bool
  | .nilIface, .nilIface => cst
  | .agg _, .agg _ => !(P.eqGuardType P.depth t)
  | _, _ => true
def ibin (P : Program) (op : BinOp) (cst : Bool) (t : TypeId) (x y : IV) : Option IV :=
  match x, y with
  | .int k a, .int k' b =>
    match op with
    | .shl | .shr => ishift op k a b
    | _ => if k = k' then iarith op k a b else none
  | .str a, .str b => istr op a b
  | x, y =>
    match op with
    | .eql => if geq P cst t x y then (ieq P t x y).bind fun b => some (.bool b) else none
    | .neq => if geq P cst t x y then (ieq P t x y).bind fun b => some (.bool (!b)) else none
    | _ => none

def isConst : Operand → Bool
  | .const _ => true
  | _ => false

theorem toList_mk (l : List UInt8) : (⟨l.toArray⟩ : ByteArray).toList = l := by
  rw [ByteArray.toList_eq]
theorem size_mk (l : List UInt8) : (⟨l.toArray⟩ : ByteArray).size = l.length := by simp [ByteArray.size]
theorem append_mk (a b : List UInt8) : (⟨a.toArray⟩ ++ ⟨b.toArray⟩ : ByteArray) = ⟨(a ++ b).toArray⟩ := by
  apply ByteArray.ext; simp
end Go.Shade
