/- SHADE, part 25: from the model's operations to low ones. -/
import Derived.Test.YtdljmmdbpngchaaShadeL
namespace Go.Shade
open Go.RowKit
set_option linter.unusedSimpArgs false
set_option linter.unusedVariables false

def cellsOK (z : IV) (s : Nat) : Bool := !(isTuple z) && decide (z.cells.length = s) && z.cells.all IV.one
def lowConv (P : Program) (s d : TypeId) (x : LArg) : Option LOp :=
  match P.underlying s, P.underlying d with
  | some (.int _), some (.int k) => some (.cvt k x)
  | some .string, some .string => some (.s2s x)
  | some (.slice e), some .string => match P.underlying e, szOf P e with
    | some (.int .u8), some 1 => some (.b2s x)
    | _, _ => none
  | some .string, some (.slice e) => match P.underlying e, szOf P e with
    | some (.int .u8), some 1 => some (.s2b x)
    | _, _ => none
  | _, _ => none
def lowSl (P : Program) (t : TypeId) : Option LSl :=
  match P.underlying t with
  | some (.slice e) => (szOf P e).map .slice
  | some .string => some .str
  | some (.array n e) => (szOf P e).map (.arr n)
  | _ => none
def lowLen (P : Program) (t : TypeId) : Option LLen :=
  match P.underlying t with
  | some .string => some .str
  | some (.slice _) => some .slice
  | some (.array n _) => some (.arr n)
  | some (.map ..) => some .map
  | _ => none
def lowBin (P : Program) (op : BinOp) (t : TypeId) (x y : LArg) : Option LOp :=
  match P.underlying t with
  | some (.int _) => some (.bin op x y)
  | some .string => some (.bin op x y)
  | _ => match op with
    | .eql => (lowEq P t).map fun e => .eqv false e x y
    | .neq => (lowEq P t).map fun e => .eqv true e x y
    | _ => none
def lowField (P : Program) (t : TypeId) (f : Nat) (x : LArg) : Option LOp :=
  match P.underlying t with
  | some (.struct fs) => (fs[f]?).bind fun fd => match isAggT P fd.type with
    | some true => (szOf P fd.type).map fun n => .fldn x fd.offset n
    | some false => some (.fld1 x fd.offset)
    | none => none
  | _ => none
def lowFieldAddr (P : Program) (t : TypeId) (f : Nat) (x : LArg) : Option LOp :=
  match P.underlying t with
  | some (.struct fs) => (fs[f]?).bind fun fd => match szOf P fd.type with
    | some (_ + 1) => some (.off x fd.offset)
    | _ => none
  | _ => none
def lowIndexAddr (P : Program) (t : TypeId) (x i : LArg) : Option LOp :=
  match P.underlying t with
  | some (.slice e) => (szOf P e).map fun s => .ix s x i
  | some (.array n e) => (szOf P e).map fun s => .ixa n s x i
  | _ => none
def lowIndex (P : Program) (t : TypeId) (x i : LArg) : Option LOp :=
  match P.underlying t with
  | some .string => some (.ixs x i)
  | some (.array n e) => match isAggT P e, szOf P e with
    | some false, some 1 => some (.ixg1 n x i)
    | _, _ => none
  | _ => none
def lowLookup (P : Program) (t : TypeId) (ok : Bool) (x i : LArg) : Option LOp :=
  match P.underlying t with
  | some (.map kt et) => (lsOf P kt).bind fun k => (zeroOf P et).map fun z => .lkp k z ok x i
  | _ => none
def lowAssert (P : Program) (T : TypeId) (ok : Bool) (x : LArg) : Option LOp :=
  match P.underlying T with
  | some (.interface _) => none
  | some _ => (zeroOf P T).map fun z => .asrt T z ok x
  | none => none
def lowBuild (P : Program) (t : TypeId) (parts : List (Nat × Operand)) : Option LOp :=
  (zeroOf P t).bind fun z => if isTuple z then none else
  match P.underlying t with
  | some (.array _ e) => (szOf P e).bind fun s => (lowPl (fun i => some (i * s, s)) parts).map fun l => .bld z.cells l
  | some (.struct fields) => (fields.toList.mapM (fun f => (P.info? f.type).map fun i => (f.offset, i.size))).bind fun places =>
      (lowPl (places.toArray[·]?) parts).map fun l => .bld z.cells l
  | _ => none
def lowBuildSlice (P : Program) (t : TypeId) (len : Nat) (parts : List (Nat × Operand)) : Option LOp :=
  match P.underlying t with
  | some (.slice e) => (szOf P e).bind fun s =>
    if 16777216 < len * s ∨ s = 0 then none else (zeroOf P e).bind fun z => if cellsOK z s then (lowPs parts).map fun l => .bldS s len z.cells l else none
  | _ => none
def lowMakeSlice (P : Program) (t : TypeId) (l c : LArg) : Option LOp :=
  match P.underlying t with
  | some (.slice e) => (szOf P e).bind fun s => (byOf P e).bind fun b => (zeroOf P e).bind fun z => if cellsOK z s && decide (0 < s) then some (.mkS s b z.cells l c) else none
  | _ => none
def lowApp (P : Program) (t xT : TypeId) (s x : LArg) : Option LOp :=
  match P.underlying t, P.underlying xT with
  | some (.slice _), some (.int _) => none
  | some (.slice e), some _ => (szOf P e).bind fun sz => (byOf P e).bind fun by_ => (zeroOf P e).bind fun z =>
    if !(isTuple z) && decide (z.cells.length = sz) && decide (0 < sz) && decide (0 < by_) then some (.app sz by_ s x) else none
  | _, _ => none
def lowCopy (P : Program) (t : TypeId) (d x : LArg) : Option LOp :=
  match P.underlying t with
  | some (.slice e) => (szOf P e).map fun sz => .cpy sz d x
  | _ => none
def lowClear (P : Program) (t : TypeId) (d : LArg) : Option LOp :=
  match P.underlying t with
  | some (.map ..) => some (.clrM d)
  | some (.slice e) => (zeroOf P e).bind fun z => if !(isTuple z) && z.cells.all IV.one then some (.clrS z.cells d) else none
  | _ => none
def lowUpd (P : Program) (t : TypeId) (d k x : LArg) : Option LOp :=
  match P.underlying t with
  | some (.map kt _) => (lsOf P kt).map fun s => .upd s d k x
  | _ => none
def lowDel (P : Program) (t : TypeId) (d k : LArg) : Option LOp :=
  match P.underlying t with
  | some (.map kt _) => (lsOf P kt).map fun s => .del s d k
  | _ => none
def lowBox (P : Program) (x : LArg) : Option LOp := some (.box x)
def lowAlloc (P : Program) (t : TypeId) : Option LOp :=
  (zeroOf P t).bind fun z => if !(isTuple z) && z.cells.all IV.one then some (.zbox z) else none
def lowOp (P : Program) : Op → Option LOp
  | .move x => (lowA x).map .mv
  | .assign x => (lowA x).map .mv
  | .pick c a b => (lowA c).bind fun c => (lowA a).bind fun a => (lowA b).map fun b => .pick c a b
  | .load t a => (lowA a).bind fun a => match isAggT P t with
    | some true => (szOf P t).map fun n => .ldn n a
    | some false => some (.ld1 a)
    | none => none
  | .nilCheck x => (lowA x).map .chk
  | .binOp op t x y _ => (lowA x).bind fun x => (lowA y).bind fun y => lowBin P op t x y
  | .unOp op _ x => (lowA x).map (.un op)
  | .convert s d x => (lowA x).bind fun x => lowConv P s d x
  | .makeInterface t x => (lowA x).bind fun x => if isIface P t = some false then some (.mkI t x) else none
  | .makeFunc fn first cap => (lowAs first.toList).bind fun a => (lowAs cap.toList).map fun b => .mkF fn a b
  | .slice t x lo hi mx => (lowA x).bind fun x => (lowO lo).bind fun lo => (lowO hi).bind fun hi => (lowO mx).bind fun mx => (lowSl P t).map fun k => .slc k x lo hi mx
  | .fieldAddr t x f => (lowA x).bind fun x => lowFieldAddr P t f x
  | .field t x f => (lowA x).bind fun x => lowField P t f x
  | .indexAddr t x i => (lowA x).bind fun x => (lowA i).bind fun i => lowIndexAddr P t x i
  | .index t x i => (lowA x).bind fun x => (lowA i).bind fun i => lowIndex P t x i
  | .lookup t x i ok => (lowA x).bind fun x => (lowA i).bind fun i => lowLookup P t ok x i
  | .typeAssert x _ T ok => (lowA x).bind fun x => lowAssert P T ok x
  | .extract t i => (lowA t).map fun x => .ext x i
  | .build t parts => lowBuild P t parts.toList
  | .alloc t => lowAlloc P t
  | .box _ x => (lowA x).bind fun x => lowBox P x
  | .buildSlice t len parts => lowBuildSlice P t len parts.toList
  | .store t a x => (lowA a).bind fun a => (lowA x).bind fun x => (szOf P t).map fun n => .st n a x
  | .makeMap _ none => some .mkM
  | .makeMap t (some x) => (lowA x).bind fun x => match P.underlying t with
    | some (.map ..) => some (.mkMn x)
    | _ => none
  | .makeSlice t l c => (lowA l).bind fun l => (lowA c).bind fun c => lowMakeSlice P t l c
  | .mapUpdate t d k x => (lowA d).bind fun d => (lowA k).bind fun k => (lowA x).bind fun x => lowUpd P t d k x
  | .insert t d k x => (lowA d).bind fun d => (lowA k).bind fun k => (lowA x).bind fun x => lowUpd P t d k x
  | .call { callee := .builtin .len, args := ⟨[x]⟩, argTypes := ⟨t :: _⟩ } => (lowA x).bind fun x => (lowLen P t).map fun l => .len l x
  | .call { callee := .builtin .min, args := ⟨x :: ys⟩, .. } => (lowA x).bind fun x => (lowAs ys).map fun ys => .fold false x ys
  | .call { callee := .builtin .max, args := ⟨x :: ys⟩, .. } => (lowA x).bind fun x => (lowAs ys).map fun ys => .fold true x ys
  | .call { callee := .builtin .append, args := ⟨[s, x]⟩, argTypes := ⟨[t, xT]⟩ } => (lowA s).bind fun s => (lowA x).bind fun x => lowApp P t xT s x
  | .call { callee := .builtin .copy, args := ⟨[d, x]⟩, argTypes := ⟨[t, _]⟩ } => (lowA d).bind fun d => (lowA x).bind fun x => lowCopy P t d x
  | .call { callee := .builtin .clear, args := ⟨[d]⟩, argTypes := ⟨t :: _⟩ } => (lowA d).bind fun d => lowClear P t d
  | .call { callee := .builtin .delete, args := ⟨[d, k]⟩, argTypes := ⟨t :: _⟩ } => (lowA d).bind fun d => (lowA k).bind fun k => lowDel P t d k
  | .call { callee := .value f, args, .. } => (lowAs args.toList).bind fun as => (lowA f).bind fun y => match y with
    | .f g => if callable P g then some (.callF g as) else none
    | y => some (.callV y as)
  | _ => none

/-- What is shown of each. -/
def LowOk (P : Program) (cal : FuncId → Bool) (H : Heap) (σ : Sg) (op : Op) (lo : LOp) : Prop :=
  (isLE lo = false → ∀ v, lq H σ lo = some v → iq P H (penv σ) op = some v) ∧
  (isLE lo = true → ∀ r, le cal H σ lo = some r → iq P H (penv σ) op = none ∧ ie P H (penv σ) op = some r)
theorem LowOk.quiet {P : Program} {cal : FuncId → Bool} {H : Heap} {σ : Sg} {op : Op} {lo : LOp} (h : isLE lo = false) (k : ∀ v, lq H σ lo = some v → iq P H (penv σ) op = some v) : LowOk P cal H σ op lo :=
  ⟨fun _ => k, fun e => absurd e (by rw [h]; decide)⟩
theorem LowOk.eff {P : Program} {cal : FuncId → Bool} {H : Heap} {σ : Sg} {op : Op} {lo : LOp} (h : isLE lo = true) (k : ∀ r, le cal H σ lo = some r → iq P H (penv σ) op = none ∧ ie P H (penv σ) op = some r) : LowOk P cal H σ op lo :=
  ⟨fun e => absurd e (by rw [h]; decide), fun _ => k⟩
theorem lsl_isl {P : Program} {H : Heap} {e : TypeId} {s : Nat} (hs : szOf P e = some s) (x : IV) (n : Nat) : isl P H e x n = lsl H s x n := by
  cases x <;> simp [isl, lsl, hs]
theorem lxcells_eq {P : Program} {H : Heap} {e : TypeId} {s : Nat} (hs : szOf P e = some s) (x : IV) (n : Nat) : xcells P H e x n = lxcells H s x n := by
  cases x <;> simp [xcells, lxcells, lsl_isl hs]
theorem lload1_eq {P : Program} {H : Heap} {t : TypeId} (h : isAggT P t = some false) (b o : Nat) : iload P t H b o = lload1 H (.ptr b o) := by
  simp only [iload, lload1, h]; rfl
theorem lloadn_eq {P : Program} {H : Heap} {t : TypeId} {n : Nat} (h : isAggT P t = some true) (hn : szOf P t = some n) (b o : Nat) : iload P t H b o = lloadn H n (.ptr b o) := by
  simp only [iload, lloadn, h, hn, Option.bind_some]; rfl

section
variable {P : Program} {cal : FuncId → Bool} {H : Heap} {σ : Sg}
theorem ok_bin {op : BinOp} {t t' : TypeId} {x y : Operand} {x' y' : LArg} {lo : LOp} (hx : penv σ x = some (la σ x')) (hy : penv σ y = some (la σ y')) (h : lowBin P op t x' y' = some lo) : LowOk P cal H σ (.binOp op t x y t') lo := by
  have hi : iq P H (penv σ) (.binOp op t x y t') = ibin P op (isConst x || isConst y) t (la σ x') (la σ y') := by simp only [iq, hx, hy, Option.bind_some]
  have hb : lo = .bin op x' y' → LowOk P cal H σ (.binOp op t x y t') lo := by
    rintro rfl
    refine LowOk.quiet rfl fun v hv => ?_
    rw [hi]
    simp only [lq] at hv
    revert hv
    generalize la σ x' = a
    generalize la σ y' = b
    intro hv
    unfold lbin at hv
    split at hv
    · exact hv
    · exact hv
    · cases hv
  unfold lowBin at h
  split at h
  · exact hb (by cases h; rfl)
  · exact hb (by cases h; rfl)
  · split at h
    · simp only [Option.map_eq_some_iff] at h
      obtain ⟨e, he, rfl⟩ := h
      refine LowOk.quiet rfl fun v hv => ?_
      rw [hi]
      simp only [lq] at hv
      obtain ⟨b, hb, hv⟩ := Option.bind_eq_some_iff.1 hv
      rw [lowEq_eq he hb _ _ (.inl rfl)]
      simpa using hv
    · simp only [Option.map_eq_some_iff] at h
      obtain ⟨e, he, rfl⟩ := h
      refine LowOk.quiet rfl fun v hv => ?_
      rw [hi]
      simp only [lq] at hv
      obtain ⟨b, hb, hv⟩ := Option.bind_eq_some_iff.1 hv
      rw [lowEq_eq he hb _ _ (.inr rfl)]
      simpa using hv
    · cases h
theorem ok_conv {s d : TypeId} {x : Operand} {x' : LArg} {lo : LOp} (hx : penv σ x = some (la σ x')) (h : lowConv P s d x' = some lo) : LowOk P cal H σ (.convert s d x) lo := by
  have hi : iq P H (penv σ) (.convert s d x) = iconv P H s d (la σ x') := by simp only [iq, hx, Option.bind_some]
  have he : ie P H (penv σ) (.convert s d x) = ibytesOf P H s d (la σ x') := by simp only [ie, hx, Option.bind_some]
  unfold lowConv at h
  split at h
  · rename_i hs hd
    cases h
    refine LowOk.quiet rfl fun v hv => ?_
    rw [hi]
    simp only [lq] at hv
    unfold iconv
    split at hv
    · rename_i e; rw [hs, hd, e]; exact hv
    · cases hv
  · rename_i hs hd
    cases h
    refine LowOk.quiet rfl fun v hv => ?_
    rw [hi]
    simp only [lq] at hv
    unfold iconv
    split at hv
    · rename_i e; rw [hs, hd, e]; exact hv
    · cases hv
  · rename_i e hs hd
    split at h
    · rename_i he1 he2
      cases h
      refine LowOk.quiet rfl fun v hv => ?_
      rw [hi]
      simp only [lq] at hv
      unfold iconv
      split at hv
      · rename_i e'; rw [hs, hd, e']; simp only [he1]; exact hv
      · rename_i e'; rw [hs, hd, e']; simp only [he1, he2, Option.bind_some, if_true]
        rw [lsl_isl he2]; exact hv
      · cases hv
    · cases h
  · rename_i e hs hd
    split at h
    · rename_i he1 he2
      cases h
      refine LowOk.eff rfl fun r hr => ?_
      rw [hi, he]
      simp only [le] at hr
      split at hr
      · rename_i l e'
        rw [e']
        refine ⟨by unfold iconv; rw [hs, hd], ?_⟩
        unfold ibytesOf; rw [hs, hd]; simp only [he1, he2]; exact hr
      · cases hr
    · cases h
  · cases h

theorem oB {α β : Type} {a : Option α} {f : α → Option β} {r : β} (h : a.bind f = some r) : ∃ x, a = some x ∧ f x = some r := Option.bind_eq_some_iff.1 h
theorem oM {α β : Type} {a : Option α} {f : α → β} {r : β} (h : a.map f = some r) : ∃ x, a = some x ∧ f x = r := by simpa using h
theorem ok_field {t : TypeId} {f : Nat} {x : Operand} {x' : LArg} {lo : LOp} (hx : penv σ x = some (la σ x')) (h : lowField P t f x' = some lo) : LowOk P cal H σ (.field t x f) lo := by
  have hi : iq P H (penv σ) (.field t x f) = ifield P t (la σ x') f := by simp only [iq, hx, Option.bind_some]
  unfold lowField at h
  split at h
  · rename_i fs hu
    obtain ⟨fd, hf, h⟩ := oB h
    split at h
    · rename_i ha
      obtain ⟨n, hn, rfl⟩ := oM h
      refine LowOk.quiet rfl fun v hv => ?_
      rw [hi]; simp only [lq] at hv
      split at hv
      · rename_i cs e
        rw [e]; simp only [ifield, hu, hf, ipart, ha, hn, Option.bind_some]; exact hv
      · cases hv
    · rename_i ha
      cases h
      refine LowOk.quiet rfl fun v hv => ?_
      rw [hi]; simp only [lq] at hv
      split at hv
      · rename_i cs e
        rw [e]; simp only [ifield, hu, hf, ipart, ha]; exact hv
      · cases hv
    · cases h
  · cases h
theorem ok_fieldAddr {t : TypeId} {f : Nat} {x : Operand} {x' : LArg} {lo : LOp} (hx : penv σ x = some (la σ x')) (h : lowFieldAddr P t f x' = some lo) : LowOk P cal H σ (.fieldAddr t x f) lo := by
  have hi : iq P H (penv σ) (.fieldAddr t x f) = ifieldAddr P t (la σ x') f := by simp only [iq, hx, Option.bind_some]
  unfold lowFieldAddr at h
  split at h
  · rename_i fs hu
    obtain ⟨fd, hf, h⟩ := oB h
    split at h
    · rename_i n hn
      cases h
      refine LowOk.quiet rfl fun v hv => ?_
      rw [hi]; simp only [lq] at hv
      split at hv
      · rename_i b o e
        rw [e]; simp only [ifieldAddr, hu, hf, hn]; exact hv
      · cases hv
    · cases h
  · cases h
theorem ok_indexAddr {t : TypeId} {x i : Operand} {x' i' : LArg} {lo : LOp} (hx : penv σ x = some (la σ x')) (hj : penv σ i = some (la σ i')) (h : lowIndexAddr P t x' i' = some lo) : LowOk P cal H σ (.indexAddr t x i) lo := by
  have hi : iq P H (penv σ) (.indexAddr t x i) = iindexAddr P t (la σ x') (la σ i') := by simp only [iq, hx, hj, Option.bind_some]
  unfold lowIndexAddr at h
  split at h
  · rename_i e hu
    obtain ⟨s, hs, rfl⟩ := oM h
    refine LowOk.quiet rfl fun v hv => ?_
    rw [hi]; simp only [lq] at hv
    split at hv
    · rename_i e1 e2
      rw [e1, e2]; simp only [iindexAddr, hu, hs, Option.bind_some]; exact hv
    · cases hv
  · rename_i n e hu
    obtain ⟨s, hs, rfl⟩ := oM h
    refine LowOk.quiet rfl fun v hv => ?_
    rw [hi]; simp only [lq] at hv
    split at hv
    · rename_i e1 e2
      rw [e1, e2]; simp only [iindexAddr, hu, hs, Option.bind_some]; exact hv
    · cases hv
  · cases h
theorem ok_index {t : TypeId} {x i : Operand} {x' i' : LArg} {lo : LOp} (hx : penv σ x = some (la σ x')) (hj : penv σ i = some (la σ i')) (h : lowIndex P t x' i' = some lo) : LowOk P cal H σ (.index t x i) lo := by
  have hi : iq P H (penv σ) (.index t x i) = iindex P t (la σ x') (la σ i') := by simp only [iq, hx, hj, Option.bind_some]
  unfold lowIndex at h
  split at h
  · rename_i hu
    cases h
    refine LowOk.quiet rfl fun v hv => ?_
    rw [hi]; simp only [lq] at hv
    split at hv
    · rename_i e1 e2
      rw [e1, e2]; simp only [iindex, hu]; exact hv
    · cases hv
  · rename_i n e hu
    split at h
    · rename_i ha hs
      cases h
      refine LowOk.quiet rfl fun v hv => ?_
      rw [hi]; simp only [lq] at hv
      split at hv
      · rename_i e1 e2
        rw [e1, e2]; simp only [iindex, hu, hs, Option.bind_some, ipart, ha, Nat.mul_one]; exact hv
      · cases hv
    · cases h
  · cases h
theorem ok_lookup {t : TypeId} {ok : Bool} {x i : Operand} {x' i' : LArg} {lo : LOp} (hx : penv σ x = some (la σ x')) (hj : penv σ i = some (la σ i')) (h : lowLookup P t ok x' i' = some lo) : LowOk P cal H σ (.lookup t x i ok) lo := by
  have hi : iq P H (penv σ) (.lookup t x i ok) = ilookup P H t (la σ x') (la σ i') ok := by simp only [iq, hx, hj, Option.bind_some]
  unfold lowLookup at h
  split at h
  · rename_i kt et hu
    obtain ⟨k, hk, h⟩ := oB h
    obtain ⟨z, hz, rfl⟩ := oM h
    refine LowOk.quiet rfl fun v hv => ?_
    rw [hi]; simp only [lq, llookup] at hv
    simp only [ilookup, hu, lsOf_scalar hk, hz, Option.bind_some]
    exact hv
  · cases h
theorem ok_assert {t T : TypeId} {ok : Bool} {x : Operand} {x' : LArg} {lo : LOp} (hx : penv σ x = some (la σ x')) (h : lowAssert P T ok x' = some lo) : LowOk P cal H σ (.typeAssert x t T ok) lo := by
  have hi : iq P H (penv σ) (.typeAssert x t T ok) = iassert P (la σ x') T ok := by simp only [iq, hx, Option.bind_some]
  unfold lowAssert at h
  split at h
  · cases h
  · rename_i d hni hu
    obtain ⟨z, hz, rfl⟩ := oM h
    refine LowOk.quiet rfl fun v hv => ?_
    rw [hi]; simp only [lq] at hv
    split at hv
    · rename_i e
      rw [e]
      cases d <;> first | exact absurd rfl (hni _) | (simp only [iassert, hu, hz, Option.bind_some]; exact hv)
    · rename_i e
      rw [e]
      cases d <;> first | exact absurd rfl (hni _) | (simp only [iassert, hu, hz, Option.bind_some]; exact hv)
    · cases hv
  · cases h
theorem ok_slice {t : TypeId} {x : Operand} {lo hi mx : Option Operand} {x' : LArg} {lo' hi' mx' : Option LArg} {k : LSl} (hx : penv σ x = some (la σ x')) (h1 : oneOpt (penv σ) lo = some (lop? σ lo')) (h2 : oneOpt (penv σ) hi = some (lop? σ hi')) (h3 : oneOpt (penv σ) mx = some (lop? σ mx')) (h : lowSl P t = some k) :
    LowOk P cal H σ (.slice t x lo hi mx) (.slc k x' lo' hi' mx') := by
  have hi : iq P H (penv σ) (.slice t x lo hi mx) = islice P H t (la σ x') (lop? σ lo') (lop? σ hi') (lop? σ mx') := by simp only [iq, hx, h1, h2, h3, Option.bind_some]
  refine LowOk.quiet rfl fun v hv => ?_
  rw [hi]; simp only [lq] at hv
  revert hv
  generalize la σ x' = a
  generalize lop? σ lo' = l
  generalize lop? σ hi' = hh
  generalize lop? σ mx' = m
  intro hv
  unfold lowSl at h
  split at h
  · rename_i e hu
    obtain ⟨s, hs, rfl⟩ := oM h
    unfold lslice at hv
    split at hv
    · rename_i e1; cases e1; simp only [islice, hu, hs, Option.bind_some]; exact hv
    · rename_i e1; cases e1; simp only [islice, hu, hs, Option.bind_some]; exact hv
    · rename_i e1; cases e1
    · rename_i e1; cases e1
    · cases hv
  · rename_i hu
    cases h
    unfold lslice at hv
    split at hv
    · rename_i e1; cases e1
    · rename_i e1; cases e1
    · simp only [islice, hu]; exact hv
    · rename_i e1; cases e1
    · cases hv
  · rename_i n e hu
    obtain ⟨s, hs, rfl⟩ := oM h
    unfold lslice at hv
    split at hv
    · rename_i e1; cases e1
    · rename_i e1; cases e1
    · rename_i e1; cases e1
    · rename_i e1; cases e1; simp only [islice, hu, hs, Option.bind_some]; exact hv
    · cases hv
  · cases h
theorem ok_len {t : TypeId} {ts : List TypeId} {x : Operand} {x' : LArg} {l : LLen} (hx : penv σ x = some (la σ x')) (h : lowLen P t = some l) : LowOk P cal H σ (.call { callee := .builtin .len, args := ⟨[x]⟩, argTypes := ⟨t :: ts⟩ }) (.len l x') := by
  have hi : iq P H (penv σ) (.call { callee := .builtin .len, args := ⟨[x]⟩, argTypes := ⟨t :: ts⟩ }) = ilen P H t (la σ x') := by simp only [iq, hx, Option.bind_some]
  refine LowOk.quiet rfl fun v hv => ?_
  rw [hi]; simp only [lq] at hv
  revert hv
  generalize la σ x' = a
  intro hv
  unfold lowLen at h
  split at h
  all_goals first | (cases h; done) | skip
  all_goals
    rename_i hu
    cases h
    cases a <;> simp only [llen] at hv <;> first | (cases hv; done) | (simp only [ilen, hu]; exact hv)
theorem ok_build {t : TypeId} {parts : Array (Nat × Operand)} {lo : LOp} (h : lowBuild P t parts.toList = some lo) : LowOk P cal H σ (.build t parts) lo := by
  have hi : iq P H (penv σ) (.build t parts) = (evps (penv σ) parts.toList).bind fun ps => ibuild P t ps := by simp only [iq]
  unfold lowBuild at h
  obtain ⟨z, hz, h⟩ := oB h
  split at h
  · cases h
  · rename_i htup
    split at h
    · rename_i n e hu
      obtain ⟨s, hs, h⟩ := oB h
      obtain ⟨l, hl, rfl⟩ := oM h
      refine LowOk.quiet rfl fun v hv => ?_
      obtain ⟨ps, g1, g2⟩ := lowPl_env hl σ
      rw [hi, g1]; simp only [lq] at hv
      simp only [Option.bind_some, ibuild, hz, if_neg htup, hu, hs, g2]
      exact hv
    · rename_i fields hu
      obtain ⟨pl, hp, h⟩ := oB h
      obtain ⟨l, hl, rfl⟩ := oM h
      refine LowOk.quiet rfl fun v hv => ?_
      obtain ⟨ps, g1, g2⟩ := lowPl_env hl σ
      rw [hi, g1]; simp only [lq] at hv
      simp only [Option.bind_some, ibuild, hz, if_neg htup, hu, hp, g2]
      exact hv
    · cases h
theorem ok_buildSlice {t : TypeId} {len : Nat} {parts : Array (Nat × Operand)} {lo : LOp} (h : lowBuildSlice P t len parts.toList = some lo) : LowOk P cal H σ (.buildSlice t len parts) lo := by
  have hi : ie P H (penv σ) (.buildSlice t len parts) = (evps (penv σ) parts.toList).bind fun ps => ibuildSlice P H t len ps := by simp only [ie]
  unfold lowBuildSlice at h
  split at h
  · rename_i e hu
    obtain ⟨s, hs, h⟩ := oB h
    split at h
    · cases h
    · rename_i hne
      obtain ⟨z, hz, h⟩ := oB h
      split at h
      · rename_i hc
        obtain ⟨l, hl, rfl⟩ := oM h
        refine LowOk.eff rfl fun r hr => ⟨rfl, ?_⟩
        rw [hi, lowPs_env hl σ]
        simp only [le] at hr
        obtain ⟨cells, h1, hr⟩ := oB hr
        simp only [cellsOK, Bool.and_eq_true, Bool.not_eq_true', decide_eq_true_eq] at hc
        have hzr : (if len = 0 then some [] else (zeroOf P e).bind fun z => if isTuple z = false ∧ z.cells.length = s ∧ z.cells.all IV.one = true then some (zrep len z.cells) else none) = some (zrep len z.cells) := by
          split
          · rename_i e0; subst e0; rfl
          · rw [hz, Option.bind_some, if_pos ⟨hc.1.1, hc.1.2, hc.2⟩]
        simp only [Option.bind_some, ibuildSlice, hu, hs, if_neg hne, hzr, h1]
        exact hr
      · cases h
  · cases h
theorem ok_makeSlice {t : TypeId} {l c : Operand} {l' c' : LArg} {lo : LOp} (hl : penv σ l = some (la σ l')) (hc : penv σ c = some (la σ c')) (h : lowMakeSlice P t l' c' = some lo) : LowOk P cal H σ (.makeSlice t l c) lo := by
  have hi : ie P H (penv σ) (.makeSlice t l c) = imakeSlice P H t (la σ l') (la σ c') := by simp only [ie, hl, hc, Option.bind_some]
  unfold lowMakeSlice at h
  split at h
  · rename_i e hu
    obtain ⟨s, hs, h⟩ := oB h
    obtain ⟨b, hb, h⟩ := oB h
    obtain ⟨z, hz, h⟩ := oB h
    split at h
    · rename_i hok
      cases h
      simp only [cellsOK, Bool.and_eq_true, Bool.not_eq_true', decide_eq_true_eq] at hok
      refine LowOk.eff rfl fun r hr => ⟨rfl, ?_⟩
      rw [hi]
      simp only [le] at hr
      split at hr
      · rename_i e1 e2
        split at hr
        · rename_i hcond
          rw [e1, e2]
          simp only [imakeSlice, hu, hs, hb, hz, Option.bind_some]
          rw [if_pos ⟨hok.1.1.1, hok.1.1.2, hok.1.2, hok.2, hcond⟩]
          exact hr
        · cases hr
      · cases hr
    · cases h
  · cases h
theorem ok_app {t xT : TypeId} {s x : Operand} {s' x' : LArg} {lo : LOp} (hs : penv σ s = some (la σ s')) (hx : penv σ x = some (la σ x')) (h : lowApp P t xT s' x' = some lo) : LowOk P cal H σ (.call { callee := .builtin .append, args := ⟨[s, x]⟩, argTypes := ⟨[t, xT]⟩ }) lo := by
  have hi : ie P H (penv σ) (.call { callee := .builtin .append, args := ⟨[s, x]⟩, argTypes := ⟨[t, xT]⟩ }) = iappend P H t xT (la σ s') (la σ x') := by simp only [ie, hs, hx, Option.bind_some]
  unfold lowApp at h
  split at h
  · cases h
  · rename_i e d hni hu hux
    obtain ⟨sz, hsz, h⟩ := oB h
    obtain ⟨by_, hby, h⟩ := oB h
    obtain ⟨z, hz, h⟩ := oB h
    split at h
    · rename_i hok
      cases h
      simp only [Bool.and_eq_true, Bool.not_eq_true', decide_eq_true_eq] at hok
      refine LowOk.eff rfl fun r hr => ⟨rfl, ?_⟩
      rw [hi]
      simp only [le] at hr
      have hfr : ∀ (H : Heap) (old new : List IV) (k : Nat), ifresh P e sz by_ H old new k = lfresh sz by_ H old new k := by
        intro H old new k
        simp only [ifresh, lfresh, hz, Option.bind_some, hok.1.1.1, hok.1.1.2, true_and]
      have heq : iappend P H t xT (la σ s') (la σ x') = lappend H sz by_ (la σ s') (la σ x') := by
        unfold iappend lappend
        have hni' : ∀ k, d ≠ .int k := fun k hk => hni k hk
        rw [hu, hux]
        cases d <;> first
          | exact absurd rfl (hni' _)
          | (simp only [hsz, hby, Option.bind_some, hok.1.2, hok.2, and_true, hfr, lsl_isl hsz, lxcells_eq hsz]; rfl)
      rw [heq]; exact hr
    · cases h
  · cases h
theorem ok_copy {t xT : TypeId} {s x : Operand} {s' x' : LArg} {lo : LOp} (hs : penv σ s = some (la σ s')) (hx : penv σ x = some (la σ x')) (h : lowCopy P t s' x' = some lo) : LowOk P cal H σ (.call { callee := .builtin .copy, args := ⟨[s, x]⟩, argTypes := ⟨[t, xT]⟩ }) lo := by
  have hi : ie P H (penv σ) (.call { callee := .builtin .copy, args := ⟨[s, x]⟩, argTypes := ⟨[t, xT]⟩ }) = icopy P H t (la σ s') (la σ x') := by simp only [ie, hs, hx, Option.bind_some]
  unfold lowCopy at h
  split at h
  · rename_i e hu
    obtain ⟨sz, hsz, rfl⟩ := oM h
    refine LowOk.eff rfl fun r hr => ⟨rfl, ?_⟩
    rw [hi]
    simp only [le] at hr
    have heq : icopy P H t (la σ s') (la σ x') = lcopy H sz (la σ s') (la σ x') := by
      unfold icopy lcopy
      rw [hu]
      simp only [hsz, Option.bind_some, lxcells_eq hsz]
      rfl
    rw [heq]; exact hr
  · cases h
theorem ok_clear {t : TypeId} {ts : List TypeId} {d : Operand} {d' : LArg} {lo : LOp} (hd : penv σ d = some (la σ d')) (h : lowClear P t d' = some lo) : LowOk P cal H σ (.call { callee := .builtin .clear, args := ⟨[d]⟩, argTypes := ⟨t :: ts⟩ }) lo := by
  have hi : ie P H (penv σ) (.call { callee := .builtin .clear, args := ⟨[d]⟩, argTypes := ⟨t :: ts⟩ }) = iclear P H t (la σ d') := by simp only [ie, hd, Option.bind_some]
  unfold lowClear at h
  split at h
  · rename_i kt et hu
    cases h
    refine LowOk.eff rfl fun r hr => ⟨rfl, ?_⟩
    rw [hi]; simp only [le] at hr
    split at hr
    · rename_i e; rw [e]; simp only [iclear, hu]; exact hr
    · rename_i e; rw [e]; simp only [iclear, hu]; exact hr
    · cases hr
  · rename_i e hu
    obtain ⟨z, hz, h⟩ := oB h
    split at h
    · rename_i hok
      cases h
      simp only [Bool.and_eq_true, Bool.not_eq_true'] at hok
      refine LowOk.eff rfl fun r hr => ⟨rfl, ?_⟩
      rw [hi]; simp only [le] at hr
      split at hr
      · rename_i e'; rw [e']; simp only [iclear, hu]; exact hr
      · rename_i b o n lb ex sz e'
        rw [e']
        simp only [iclear, hu, hz, Option.bind_some, hok.1, hok.2, true_and]
        exact hr
      · cases hr
    · cases h
  · cases h
theorem ok_upd {t : TypeId} {d k x : LArg} {lo : LOp} (h : lowUpd P t d k x = some lo) : ∃ s, lo = .upd s d k x ∧ ∀ a b c, iupdate P H t a b c = lupdate H s a b c := by
  unfold lowUpd at h
  split at h
  · rename_i kt et hu
    obtain ⟨s, hs, rfl⟩ := oM h
    refine ⟨s, rfl, fun a b c => ?_⟩
    unfold iupdate lupdate
    rw [hu]
    cases a <;> first | rfl | (simp only [lsOf_scalar hs]; done) | (simp only [lsOf_scalar hs]; rfl)
  · cases h
theorem ok_del {t : TypeId} {d k : LArg} {lo : LOp} (h : lowDel P t d k = some lo) : ∃ s, lo = .del s d k ∧ ∀ a b, idelete P H t a b = ldelete H s a b := by
  unfold lowDel at h
  split at h
  · rename_i kt et hu
    obtain ⟨s, hs, rfl⟩ := oM h
    refine ⟨s, rfl, fun a b => ?_⟩
    unfold idelete ldelete
    rw [hu]
    cases a <;> first | rfl | (simp only [lsOf_scalar hs]; done) | (simp only [lsOf_scalar hs]; rfl)
  · cases h
end
end Go.Shade
