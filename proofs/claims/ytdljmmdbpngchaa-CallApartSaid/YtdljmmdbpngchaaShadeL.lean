/- SHADE, part 24: low code: what hangs on the program's types is worked out ahead; no type is left in it. -/
import Derived.Test.YtdljmmdbpngchaaShadeP2
namespace Go.Shade
open Go.RowKit
set_option linter.unusedSimpArgs false
set_option linter.unusedVariables false

inductive LArg where
  | t (n : Nat)
  | k (v : IV)
  | f (g : FuncId)
  deriving Inhabited
/-- Which cells may be keys or fields that are compared. -/
inductive LS where
  | int | bool | str
  deriving Inhabited, DecidableEq
inductive LEq where
  | bool | ptr | slice | map | func | iface | struct (fs : List (Nat × LS))
  deriving Inhabited
inductive LSl where
  | slice (s : Nat) | str | arr (n s : Nat)
  deriving Inhabited
inductive LLen where
  | str | slice | arr (n : Nat) | map
  deriving Inhabited
inductive LApp where
  | cells | bytes
  deriving Inhabited
inductive LOp where
  | bad
  | mv (x : LArg)
  | pick (c a b : LArg)
  | ld1 (a : LArg)
  | ldn (n : Nat) (a : LArg)
  | chk (x : LArg)
  | bin (op : BinOp) (x y : LArg)
  | eqv (neg : Bool) (e : LEq) (x y : LArg)
  | un (op : UnOp) (x : LArg)
  | cvt (k : IntKind) (x : LArg)
  | s2s (x : LArg)
  | b2s (x : LArg)
  | mkI (t : TypeId) (x : LArg)
  | mkF (fn : Fn) (first cap : List LArg)
  | slc (s : LSl) (x : LArg) (lo hi mx : Option LArg)
  | off (x : LArg) (k : Nat)
  | fld1 (x : LArg) (o : Nat)
  | fldn (x : LArg) (o n : Nat)
  | ix (s : Nat) (x i : LArg)
  | ixa (n s : Nat) (x i : LArg)
  | ixs (x i : LArg)
  | ixg1 (n : Nat) (x i : LArg)
  | lkp (k : LS) (z : IV) (ok : Bool) (x i : LArg)
  | ext (x : LArg) (i : Nat)
  | asrt (t : TypeId) (z : IV) (ok : Bool) (x : LArg)
  | bld (z : List IV) (parts : List (Nat × Nat × LArg))
  | len (l : LLen) (x : LArg)
  | fold (max : Bool) (x : LArg) (ys : List LArg)
  | box (x : LArg)
  | zbox (z : IV)
  | bldS (s n : Nat) (z : List IV) (parts : List (Nat × LArg))
  | st (n : Nat) (a x : LArg)
  | mkM
  | mkMn (x : LArg)
  | mkS (s b : Nat) (z : List IV) (l c : LArg)
  | upd (k : LS) (d i x : LArg)
  | s2b (x : LArg)
  | app (s b : Nat) (d x : LArg)
  | cpy (s : Nat) (d x : LArg)
  | clrM (d : LArg)
  | clrS (z : List IV) (d : LArg)
  | del (k : LS) (d i : LArg)
  | callF (g : FuncId) (args : List LArg)
  | callV (f : LArg) (args : List LArg)
  deriving Inhabited

def la (σ : Sg) : LArg → IV
  | .t n => lk σ n
  | .k v => v
  | .f g => .func (.func g) [] []
def las (σ : Sg) : List LArg → List IV
  | [] => []
  | x :: xs => la σ x :: las σ xs
def lop? (σ : Sg) : Option LArg → Option IV
  | none => none
  | some x => some (la σ x)
def isLS : LS → IV → Bool
  | .int, .int .. => true
  | .bool, .bool _ => true
  | .str, .str _ => true
  | _, _ => false
def lfields : List (Nat × LS) → List IV → List IV → Option Bool
  | [], _, _ => some true
  | (o, k) :: fs, xs, ys => match xs[o]?, ys[o]? with
    | some x, some y => if isLS k x && isLS k y then (cellEq x y).bind fun b => (lfields fs xs ys).bind fun r => some (b && r) else none
    | _, _ => none
def leq : LEq → IV → IV → Option Bool
  | .bool, .bool a, .bool b => some (a == b)
  | .ptr, .nilPtr, .nilPtr => some true
  | .ptr, .nilPtr, .ptr _ _ => some false
  | .ptr, .ptr _ _, .nilPtr => some false
  | .ptr, .ptr b o, .ptr b' o' => if b = b' then some (o == o') else none
  | .slice, .nilSlice, .nilSlice => some true
  | .slice, .nilSlice, .slice .. => some false
  | .slice, .slice .., .nilSlice => some false
  | .map, .nilMap, .nilMap => some true
  | .map, .nilMap, .map _ => some false
  | .map, .map _, .nilMap => some false
  | .func, .nilFunc, .nilFunc => some true
  | .func, .nilFunc, .func .. => some false
  | .func, .func .., .nilFunc => some false
  | .iface, .nilIface, .iface .. => some false
  | .iface, .iface .., .nilIface => some false
  | .struct fs, .agg xs, .agg ys => lfields fs xs ys
  | _, _, _ => none
def lbin (op : BinOp) (x y : IV) : Option IV :=
  match x, y with
  | .int k a, .int k' b =>
    match op with
    | .shl | .shr => ishift op k a b
    | _ => if k = k' then iarith op k a b else none
  | .str a, .str b => istr op a b
  | _, _ => none
def lload1 (H : Heap) (a : IV) : Option IV :=
  match a with
  | .ptr b o => match H[b]? with
    | some (.row cs _) => cs[o]?
    | _ => none
  | _ => none
def lloadn (H : Heap) (n : Nat) (a : IV) : Option IV :=
  match a with
  | .ptr b o => match H[b]? with
    | some (.row cs _) => if o + n ≤ cs.length then some (.agg ((cs.drop o).take n)) else none
    | _ => none
  | _ => none
def lsl (H : Heap) (s : Nat) (x : IV) (n : Nat) : Option (List IV) :=
  match x with
  | .nilSlice => if n = 0 then some [] else none
  | .slice b o len _ _ _ => if n ≤ len then (if n = 0 then some [] else irow H b o (n * s)) else none
  | _ => none
def lslice (H : Heap) (k : LSl) (x : IV) (lo hi mx : Option IV) : Option IV :=
  match k, x with
  | .slice s, .slice b o n lb ex sz =>
    (bnd n hi).bind fun h => (bnd 0 lo).bind fun l =>
      if sz ≠ 0 ∧ sz ≠ s then none else
      match mx with
      | none => if l ≤ h ∧ h ≤ lb then some (.slice b (o + l * s) (h - l) (lb - l) ex sz) else none
      | some z => (bnd 0 (some z)).bind fun k => if hi.isSome = true ∧ l ≤ h ∧ h ≤ k ∧ k ≤ lb then some (.slice b (o + l * s) (h - l) (k - l) true sz) else none
  | .slice _, .nilSlice => if mx.isNone && bnd 0 lo == some 0 && bnd 0 hi == some 0 then some .nilSlice else none
  | .str, .str s => (bnd s.length hi).bind fun h => (bnd 0 lo).bind fun l => if mx.isNone = true ∧ l ≤ h ∧ h ≤ s.length then some (.str ((s.drop l).take (h - l))) else none
  | .arr n s, .ptr b o => (bnd n hi).bind fun h => (bnd 0 lo).bind fun l =>
      match H[b]? with
      | some (.row cs false) => if mx.isNone = true ∧ l ≤ h ∧ h ≤ n ∧ o + n * s ≤ cs.length then some (.slice b (o + l * s) (h - l) (n - l) true s) else none
      | _ => none
  | _, _ => none
def llookup (H : Heap) (k : LS) (z : IV) (ok : Bool) (x key : IV) : Option IV :=
  (iment H x).bind fun es => if isLS k key then
    (ifind key es 0).bind fun r => match r with
      | some (_, v) => some (if ok then .tuple [v, .bool true] else v)
      | none => some (if ok then .tuple [z, .bool false] else z)
    else none
def llen (H : Heap) (l : LLen) (x : IV) : Option IV :=
  match l, x with
  | .str, .str s => some (.int .i64 s.length)
  | .slice, .slice _ _ n _ _ _ => some (.int .i64 n)
  | .slice, .nilSlice => some (.int .i64 0)
  | .arr n, _ => some (.int .i64 n)
  | .map, x => (iment H x).bind fun es => some (.int .i64 es.length)
  | _, _ => none
def lfill (cells : List IV) : List (Nat × Nat × IV) → Option (List IV)
  | [] => some cells
  | (off, size, v) :: rest => if isTuple v = false ∧ v.cells.length = size ∧ off + size ≤ cells.length then lfill (putAt cells off v.cells) rest else none
def lparts (σ : Sg) : List (Nat × Nat × LArg) → List (Nat × Nat × IV)
  | [] => []
  | (o, s, x) :: r => (o, s, la σ x) :: lparts σ r
def lps (σ : Sg) : List (Nat × LArg) → List (Nat × IV)
  | [] => []
  | (o, x) :: r => (o, la σ x) :: lps σ r
/-- What leaves the heap alone. -/
def lq (H : Heap) (σ : Sg) : LOp → Option IV
  | .mv x => some (la σ x)
  | .pick c a b => match la σ c with
    | .bool true => some (la σ a)
    | .bool false => some (la σ b)
    | _ => none
  | .ld1 a => lload1 H (la σ a)
  | .ldn n a => lloadn H n (la σ a)
  | .chk x => match la σ x with
    | .ptr b o => some (.ptr b o)
    | .iface t v => some (.iface t v)
    | .func (.func f) a b => some (.func (.func f) a b)
    | _ => none
  | .bin op x y => lbin op (la σ x) (la σ y)
  | .eqv neg e x y => (leq e (la σ x) (la σ y)).bind fun b => some (.bool (if neg then !b else b))
  | .un op x => iun op (la σ x)
  | .cvt k x => match la σ x with
    | .int _ n => some (.int k (k.wrap n))
    | _ => none
  | .s2s x => match la σ x with
    | .str s => some (.str s)
    | _ => none
  | .b2s x => match la σ x with
    | .nilSlice => some (.str [])
    | .slice b o n lb ex sz => (lsl H 1 (.slice b o n lb ex sz) n).bind fun cs => (ibytes cs).bind fun l => some (.str l)
    | _ => none
  | .mkI t x => some (.iface t (la σ x))
  | .mkF fn first cap => some (.func fn (las σ first) (las σ cap))
  | .slc k x lo hi mx => lslice H k (la σ x) (lop? σ lo) (lop? σ hi) (lop? σ mx)
  | .off x k => match la σ x with
    | .ptr b o => some (.ptr b (o + k))
    | _ => none
  | .fld1 x o => match la σ x with
    | .agg cs => cs[o]?
    | _ => none
  | .fldn x o n => match la σ x with
    | .agg cs => if o + n ≤ cs.length then some (.agg ((cs.drop o).take n)) else none
    | _ => none
  | .ix s x i => match la σ x, la σ i with
    | .slice b o n _ _ _, .int _ j => if 0 ≤ j ∧ j < n then some (.ptr b (o + j.toNat * s)) else none
    | _, _ => none
  | .ixa n s x i => match la σ x, la σ i with
    | .ptr b o, .int _ j => if 0 ≤ j ∧ j < n then some (.ptr b (o + j.toNat * s)) else none
    | _, _ => none
  | .ixs x i => match la σ x, la σ i with
    | .str s, .int _ j => if 0 ≤ j then (s[j.toNat]?).bind fun c => some (.int .u8 c.toNat) else none
    | _, _ => none
  | .ixg1 n x i => match la σ x, la σ i with
    | .agg cs, .int _ j => if 0 ≤ j ∧ j < n then cs[j.toNat]? else none
    | _, _ => none
  | .lkp k z ok x i => llookup H k z ok (la σ x) (la σ i)
  | .ext x i => iextract (la σ x) i
  | .asrt t z ok x => match la σ x with
    | .nilIface => if ok then some (.tuple [z, .bool false]) else none
    | .iface t' v => if t' = t then some (if ok then .tuple [v, .bool true] else v) else if ok then some (.tuple [z, .bool false]) else none
    | _ => none
  | .bld z parts => (lfill z (lparts σ parts)).bind fun r => some (.agg r)
  | .len l x => llen H l (la σ x)
  | .fold max x ys => ifold (if max then imax2 else imin2) (la σ x) (las σ ys)
  | _ => none

def lstore (H : Heap) (n : Nat) (a x : IV) : Option Heap :=
  match a with
  | .ptr b o => match H[b]? with
    | some (.row cs false) => if isTuple x = false ∧ x.cells.length = n ∧ o + x.cells.length ≤ cs.length ∧ x.cells.all IV.one = true then some (H.set b (.row (putAt cs o x.cells) false)) else none
    | _ => none
  | _ => none
def lxcells (H : Heap) (s : Nat) (x : IV) (n : Nat) : Option (List IV) :=
  match x with
  | .str s => some ((s.take n).map fun b => .int .u8 b.toNat)
  | x => lsl H s x n
def lfresh (s by_ : Nat) (H : Heap) (old new : List IV) (k : Nat) : Option (INext × Heap) :=
  if k * by_ ≤ 140737488355328 ∧ (old ++ new).length = k * s then some (.val (.slice H.length 0 k k false s), H ++ [.row (old ++ new) false]) else none
def lappend (H : Heap) (sz by_ : Nat) (s x : IV) : Option (INext × Heap) :=
  (xlen x).bind fun n =>
    if n = 0 then (match s with
      | .nilSlice => some (.val .nilSlice, H)
      | .slice b o len lb ex sz' => some (.val (.slice b o len lb ex sz'), H)
      | _ => none)
    else (lxcells H sz x n).bind fun new =>
      if new.length = n * sz ∧ new.all IV.one = true then
        match s with
        | .nilSlice => lfresh sz by_ H [] new n
        | .slice b o len lb ex sz' =>
          if len + n ≤ lb then
            match H[b]? with
            | some (.row cs false) => if o + len * sz + new.length ≤ cs.length then some (.val (.slice b o (len + n) lb ex sz'), H.set b (.row (putAt cs (o + len * sz) new) false)) else none
            | _ => none
          else (lsl H sz (.slice b o len lb ex sz') len).bind fun old =>
            if ex = true then lfresh sz by_ H old new (len + n)
            else match H[b]? with
              | some (.row _ false) => if sz' = sz then lfresh sz by_ (H.set b .dead) old new (len + n) else none
              | _ => none
        | _ => none
      else none
def lcopy (H : Heap) (sz : Nat) (d x : IV) : Option (INext × Heap) :=
  (xlen x).bind fun nx => (xlen d).bind fun nd =>
    match d with
    | .str _ => none
    | .nilSlice => some (.val (.int .i64 0), H)
    | .slice b o _ lb _ _ =>
      if min nx nd = 0 then some (.val (.int .i64 0), H) else
      (lxcells H sz x (min nx nd)).bind fun new =>
      match H[b]? with
      | some (.row cs false) => if new.all IV.one = true ∧ o + new.length ≤ cs.length ∧ 0 < lb then some (.val (.int .i64 (min nx nd : Nat)), H.set b (.row (putAt cs o new) false)) else none
      | _ => none
    | _ => none
def lupdate (H : Heap) (k : LS) (d key x : IV) : Option Heap :=
  match d with
  | .map r => match H[r]? with
    | some (.map es clock) => if isLS k key then (ifind key es 0).bind fun f => match f with
        | some (i, _) => some (H.set r (.map (es.set i (key, x, ((es[i]?).map (·.2.2)).getD 0)) clock))
        | none => some (H.set r (.map (es ++ [(key, x, clock)]) (clock + 1)))
      else none
    | _ => none
  | _ => none
def ldelete (H : Heap) (k : LS) (d key : IV) : Option Heap :=
  match d with
  | .nilMap => if isLS k key then some H else none
  | .map r => match H[r]? with
    | some (.map es clock) => if isLS k key then (ifind key es 0).bind fun f => match f with
        | some (i, _) => some (H.set r (.map (es.eraseIdx i) clock))
        | none => some (H.set r (.map es clock))
      else none
    | _ => none
  | _ => none
def le (cal : FuncId → Bool) (H : Heap) (σ : Sg) : LOp → Option (INext × Heap)
  | .box x => ibox (la σ x) H
  | .zbox z => some (.val (.ptr H.length 0), H ++ [.row z.cells false])
  | .bldS s n z parts => (ifill (fun i => some (i * s, s)) (zrep n z) (lps σ parts)).bind fun cells =>
    if cells.all IV.one = true ∧ cells.length = n * s then some (.val (.slice H.length 0 n n true s), H ++ [.row cells false]) else none
  | .st n a x => (lstore H n (la σ a) (la σ x)).bind fun H' => some (.skip, H')
  | .mkM => some (.val (.map H.length), H ++ [.map [] 0])
  | .mkMn x => match la σ x with
    | .int .. => some (.val (.map H.length), H ++ [.map [] 0])
    | _ => none
  | .mkS s b z l c => match la σ l, la σ c with
    | .int _ l, .int _ c => if 0 ≤ l ∧ l ≤ c ∧ b * c ≤ 281474976710656 ∧ c ≤ 9223372036854775807 then some (.val (.slice H.length 0 l.toNat c.toNat true s), H ++ [.row (zrep c.toNat z) false]) else none
    | _, _ => none
  | .upd k d i x => (lupdate H k (la σ d) (la σ i) (la σ x)).bind fun H' => some (.skip, H')
  | .s2b x => match la σ x with
    | .str l => some (.val (.slice H.length 0 l.length l.length false 1), H ++ [.row (l.map fun b => .int .u8 b.toNat) false])
    | _ => none
  | .app s b d x => lappend H s b (la σ d) (la σ x)
  | .cpy s d x => lcopy H s (la σ d) (la σ x)
  | .clrM d => match la σ d with
    | .nilMap => some (.val (.tuple []), H)
    | .map r => match H[r]? with
      | some (.map _ clock) => some (.val (.tuple []), H.set r (.map [] clock))
      | _ => none
    | _ => none
  | .clrS z d => match la σ d with
    | .nilSlice => some (.val (.tuple []), H)
    | .slice b o n lb _ _ =>
      if n = 0 then some (.val (.tuple []), H) else
      match H[b]? with
      | some (.row cs false) => if o + (zrep n z).length ≤ cs.length then some (.val (.tuple []), H.set b (.row (putAt cs o (zrep n z)) false)) else none
      | _ => none
    | _ => none
  | .del k d i => (ldelete H k (la σ d) (la σ i)).bind fun H' => some (.val (.tuple []), H')
  | .callF g args => some (.enter g (las σ args), H)
  | .callV f args => match la σ f with
    | .func (.func g) first cap => if cal g then some (.enter g (first ++ las σ args ++ cap), H) else none
    | _ => none
  | _ => none
def isLE : LOp → Bool
  | .box _ | .zbox _ | .bldS .. | .st .. | .mkM | .mkMn _ | .mkS .. | .upd .. | .s2b _ | .app .. | .cpy .. | .clrM _ | .clrS .. | .del .. | .callF .. | .callV .. => true
  | _ => false
def lstep (cal : FuncId → Bool) (H : Heap) (σ : Sg) (o : LOp) : Option (INext × Heap) :=
  if isLE o then le cal H σ o else (lq H σ o).bind fun v => some (.val v, H)

/-! ### from the model's operations -/
def lowA : Operand → Option LArg
  | .tmp t => some (.t t)
  | .const v => (ofV v).map .k
  | .func f => some (.f f)
  | .global _ => none
theorem lowA_env {x : Operand} {y : LArg} (h : lowA x = some y) (σ : Sg) : penv σ x = some (la σ y) := by
  cases x with
  | tmp t => simp only [lowA] at h; cases h; rfl
  | const v => simp only [lowA, Option.map_eq_some_iff] at h; obtain ⟨z, h1, rfl⟩ := h; exact h1
  | func f => simp only [lowA] at h; cases h; rfl
  | global g => simp [lowA] at h
def lowAs : List Operand → Option (List LArg)
  | [] => some []
  | x :: xs => (lowA x).bind fun y => (lowAs xs).bind fun ys => some (y :: ys)
theorem lowAs_env : ∀ {xs : List Operand} {ys : List LArg}, lowAs xs = some ys → ∀ σ : Sg, evs (penv σ) xs = some (las σ ys)
  | [], ys, h, σ => by simp only [lowAs] at h; cases h; rfl
  | x :: xs, ys, h, σ => by
    simp only [lowAs] at h
    obtain ⟨y, h1, h⟩ := Option.bind_eq_some_iff.1 h
    obtain ⟨ys', h2, h⟩ := Option.bind_eq_some_iff.1 h
    cases h
    simp only [evs, lowA_env h1, lowAs_env h2, Option.bind_some, las]
def lowO : Option Operand → Option (Option LArg)
  | none => some none
  | some x => (lowA x).map some
theorem lowO_env {x : Option Operand} {y : Option LArg} (h : lowO x = some y) (σ : Sg) : oneOpt (penv σ) x = some (lop? σ y) := by
  cases x with
  | none => simp only [lowO] at h; cases h; rfl
  | some x =>
    simp only [lowO, Option.map_eq_some_iff] at h
    obtain ⟨z, h1, rfl⟩ := h
    simp only [oneOpt, lowA_env h1, Option.bind_some, lop?]
def lowPs : List (Nat × Operand) → Option (List (Nat × LArg))
  | [] => some []
  | (i, x) :: xs => (lowA x).bind fun y => (lowPs xs).bind fun ys => some ((i, y) :: ys)
theorem lowPs_env : ∀ {xs : List (Nat × Operand)} {ys : List (Nat × LArg)}, lowPs xs = some ys → ∀ σ : Sg, evps (penv σ) xs = some (lps σ ys)
  | [], ys, h, σ => by simp only [lowPs] at h; cases h; rfl
  | (i, x) :: xs, ys, h, σ => by
    simp only [lowPs] at h
    obtain ⟨y, h1, h⟩ := Option.bind_eq_some_iff.1 h
    obtain ⟨ys', h2, h⟩ := Option.bind_eq_some_iff.1 h
    cases h
    simp only [evps, lowA_env h1, lowPs_env h2, Option.bind_some, lps]
/-- A part of a literal with its place. -/
def lowPl (place : Nat → Option (Nat × Nat)) : List (Nat × Operand) → Option (List (Nat × Nat × LArg))
  | [] => some []
  | (i, x) :: xs => (place i).bind fun p => (lowA x).bind fun y => (lowPl place xs).bind fun ys => some ((p.1, p.2, y) :: ys)
theorem lowPl_env {place : Nat → Option (Nat × Nat)} : ∀ {xs : List (Nat × Operand)} {ys : List (Nat × Nat × LArg)}, lowPl place xs = some ys → ∀ σ : Sg, ∃ ps, evps (penv σ) xs = some ps ∧ ∀ cells, ifill place cells ps = lfill cells (lparts σ ys)
  | [], ys, h, σ => by simp only [lowPl] at h; cases h; exact ⟨[], rfl, fun _ => rfl⟩
  | (i, x) :: xs, ys, h, σ => by
    simp only [lowPl] at h
    obtain ⟨⟨off, size⟩, h0, h⟩ := Option.bind_eq_some_iff.1 h
    obtain ⟨y, h1, h⟩ := Option.bind_eq_some_iff.1 h
    obtain ⟨ys', h2, h⟩ := Option.bind_eq_some_iff.1 h
    cases h
    obtain ⟨ps, g1, g2⟩ := lowPl_env h2 σ
    refine ⟨(i, la σ y) :: ps, by simp only [evps, lowA_env h1, g1, Option.bind_some], fun cells => ?_⟩
    simp only [ifill, h0, lparts, lfill, g2]
def lsOf (P : Program) (t : TypeId) : Option LS :=
  match P.underlying t with
  | some (.int _) => some .int
  | some .bool => some .bool
  | some .string => some .str
  | _ => none
theorem lsOf_scalar {P : Program} {t : TypeId} {k : LS} (h : lsOf P t = some k) (x : IV) : scalarT P t x = isLS k x := by
  unfold lsOf at h
  unfold scalarT
  cases hu : P.underlying t with
  | none => simp [hu] at h
  | some d => cases d <;> simp [hu] at h <;> (subst h; cases x <;> rfl)
def lowFields (P : Program) : List Field → Option (List (Nat × LS))
  | [] => some []
  | f :: fs => if f.name = "_" then none else (lsOf P f.type).bind fun k => (lowFields P fs).bind fun r => some ((f.offset, k) :: r)
theorem lowFields_eq {P : Program} : ∀ {fs : List Field} {l : List (Nat × LS)}, lowFields P fs = some l → ∀ xs ys, eqFields P fs xs ys = lfields l xs ys
  | [], l, h, xs, ys => by simp only [lowFields] at h; cases h; rfl
  | f :: fs, l, h, xs, ys => by
    simp only [lowFields] at h
    by_cases hn : f.name = "_"
    · rw [if_pos hn] at h; cases h
    · rw [if_neg hn] at h
      obtain ⟨k, h1, h⟩ := Option.bind_eq_some_iff.1 h
      obtain ⟨r, h2, h⟩ := Option.bind_eq_some_iff.1 h
      cases h
      simp only [eqFields, if_neg hn, lfields, lsOf_scalar h1, lowFields_eq h2]
      cases xs[f.offset]? <;> cases ys[f.offset]? <;> rfl
def lowEq (P : Program) (t : TypeId) : Option LEq :=
  match P.underlying t with
  | some .bool => some .bool
  | some (.pointer e) => match szOf P e with
    | some (_ + 1) => some .ptr
    | _ => none
  | some (.slice _) => some .slice
  | some (.map ..) => some .map
  | some (.func ..) => some .func
  | some (.interface _) => some .iface
  | some (.struct fs) => if P.stoodInHeld t || P.eqGuardType P.depth t then none else (lowFields P fs.toList).map .struct
  | _ => none
theorem lowEq_eq {P : Program} {t : TypeId} {e : LEq} (h : lowEq P t = some e) {x y : IV} {b : Bool} (hb : leq e x y = some b) (cst : Bool) (op : BinOp) (ho : op = .eql ∨ op = .neq) :
    ibin P op cst t x y = some (.bool (if op = .neq then !b else b)) := by
  have key : geq P cst t x y = true ∧ ieq P t x y = some b ∧ (∀ k a k' b, ¬ (x = .int k a ∧ y = .int k' b)) ∧ (∀ a b, ¬ (x = .str a ∧ y = .str b)) := by
    unfold lowEq at h
    split at h
    · rename_i hu
      cases h
      cases x <;> simp only [leq] at hb <;> first | (cases hb; done) | skip
      cases y <;> simp only [leq] at hb <;> first | (cases hb; done) | skip
      refine ⟨rfl, by simp only [ieq, hu]; exact hb, by simp, by simp⟩
    · rename_i e' hu
      split at h
      · rename_i n hs
        cases h
        cases x <;> simp only [leq] at hb <;> first | (cases hb; done) | skip
        all_goals cases y <;> simp only [leq] at hb <;> first | (cases hb; done) | skip
        all_goals refine ⟨rfl, by simp only [ieq, hu, hs]; exact hb, by simp, by simp⟩
      · cases h
    · rename_i hu
      cases h
      cases x <;> simp only [leq] at hb <;> first | (cases hb; done) | skip
      all_goals cases y <;> simp only [leq] at hb <;> first | (cases hb; done) | skip
      all_goals refine ⟨rfl, by simp only [ieq, hu]; exact hb, by simp, by simp⟩
    · rename_i hu
      cases h
      cases x <;> simp only [leq] at hb <;> first | (cases hb; done) | skip
      all_goals cases y <;> simp only [leq] at hb <;> first | (cases hb; done) | skip
      all_goals refine ⟨rfl, by simp only [ieq, hu]; exact hb, by simp, by simp⟩
    · rename_i hu
      cases h
      cases x <;> simp only [leq] at hb <;> first | (cases hb; done) | skip
      all_goals cases y <;> simp only [leq] at hb <;> first | (cases hb; done) | skip
      all_goals refine ⟨rfl, by simp only [ieq, hu]; exact hb, by simp, by simp⟩
    · rename_i hu
      cases h
      cases x <;> simp only [leq] at hb <;> first | (cases hb; done) | skip
      all_goals cases y <;> simp only [leq] at hb <;> first | (cases hb; done) | skip
      all_goals refine ⟨rfl, by simp only [ieq, hu]; exact hb, by simp, by simp⟩
    · rename_i fs hu
      split at h
      · cases h
      · rename_i hg
        simp only [Bool.or_eq_true, not_or, Bool.not_eq_true] at hg
        simp only [Option.map_eq_some_iff] at h
        obtain ⟨l, hl, rfl⟩ := h
        cases x <;> simp only [leq] at hb <;> first | (cases hb; done) | skip
        cases y <;> simp only [leq] at hb <;> first | (cases hb; done) | skip
        refine ⟨by simp [geq, hg.2], by simp only [ieq, hu, hg.1, lowFields_eq hl]; simpa using hb, by simp, by simp⟩
    · cases h
  obtain ⟨k1, k2, k3, k4⟩ := key
  unfold ibin
  split
  · rename_i k a k' b; exact absurd ⟨rfl, rfl⟩ (k3 k a k' b)
  · rename_i a b; exact absurd ⟨rfl, rfl⟩ (k4 a b)
  · rcases ho with rfl | rfl
    · simp [k1, k2]
    · simp [k1, k2]
end Go.Shade
