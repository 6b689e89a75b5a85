/- SHADE, part 30: the rules by which low code is computed with 'simp'. -/
import Derived.Test.YtdljmmdbpngchaaShadeL4
import Derived.WalkKit
namespace Go.Shade
open Go.RowKit
set_option linter.unusedSimpArgs false
set_option linter.unusedVariables false

/-- What follows a value that is first made plain. -/
def ob {α β : Type} (o : Option α) (f : α → Option β) : Option β := o.bind f
@[congr] theorem ob_congr {α β : Type} {o o' : Option α} {f : α → Option β} (h : o = o') : ob o f = ob o' f := by rw [h]
@[go_sem ↓] theorem ob_some {α β : Type} {v : α} {f : α → Option β} : ob (some v) f = f v := id rfl
@[go_sem ↓] theorem ob_none {α β : Type} {f : α → Option β} : ob none f = none := id rfl
theorem ob_ob {α β γ : Type} {o : Option α} {f : α → Option β} {g : β → Option γ} : ob (ob o f) g = ob o fun x => ob (f x) g := Option.bind_assoc ..
theorem ob_eq {α β : Type} {o : Option α} {f : α → Option β} : ob o f = o.bind f := id rfl
@[congr] theorem lops_congr {cal : FuncId → Bool} {φ : Oracle} {l : List LO} {σ : Sg} {H H' : Heap} (h : H = H') : lops cal φ l σ H = lops cal φ l σ H' := by rw [h]
@[congr] theorem ldraw_congr {cal : FuncId → Bool} {φ : Oracle} {l : List LO} {ps : List (Nat × Nat)} {σ : Sg} {H H' : Heap} (h : H = H') : ldraw cal φ l ps σ H = ldraw cal φ l ps σ H' := by rw [h]
@[congr] theorem lxd_congr {cal : FuncId → Bool} {φ : Oracle} {c : LC} {σ : Sg} {H H' : Heap} (h : H = H') : lxd cal φ c σ H = lxd cal φ c σ H' := by rw [h]
@[congr] theorem pThen_congr {r r' : Option (IX × Sg × Heap)} {f : PBody} (h : r = r') : pThen r f = pThen r' f := by rw [h]
@[congr] theorem lIf_congr {v v' : IV} {a b : Option (IX × Sg × Heap)} (h : v = v') : lIf v a b = lIf v' a b := by rw [h]
/-- A choice whose branches wait. -/
def gd {α : Type} (b : Bool) (x y : Option α) : Option α := if b = true then x else y
@[congr] theorem gd_congr {α : Type} {b b' : Bool} {x y : Option α} (h : b = b') : gd b x y = gd b' x y := by rw [h]
@[go_sem ↓] theorem gd_true {α : Type} {x y : Option α} : gd true x y = x := id rfl
@[go_sem ↓] theorem gd_false {α : Type} {x y : Option α} : gd false x y = y := id rfl
@[go_sem] theorem lIf_gd {t : Bool} {a b : Option (IX × Sg × Heap)} : lIf (.bool t) a b = gd t a b := id rfl

section
variable {cal : FuncId → Bool} {φ : Oracle} {σ : Sg} {H : Heap} {ps : List LO} {d : Nat} {d' : Option Nat} {op : LOp}
@[go_sem] theorem lops_nil : lops cal φ [] σ H = some (σ, H) := id rfl
@[go_sem] theorem isB_tt : isB (.bool true) true = true := id rfl
@[go_sem] theorem isB_tf : isB (.bool true) false = false := id rfl
@[go_sem] theorem isB_ft : isB (.bool false) true = false := id rfl
@[go_sem] theorem isB_ff : isB (.bool false) false = true := id rfl
@[go_sem] theorem lops_g {t : Nat} {w : Bool} : lops cal φ (⟨d', op, some (t, w)⟩ :: ps) σ H = gd (isB (lk σ t) w) (lops cal φ (⟨d', op, none⟩ :: ps) σ H) (lops cal φ ps (pput σ d' (.tuple [])) H) := by
  unfold gd
  simp only [lops, lopV]
  split <;> rfl
theorem lops_q (h : isLE op = false) : lops cal φ (⟨some d, op, none⟩ :: ps) σ H = ob (lq H σ op) fun v => lops cal φ ps ((d, v) :: σ) H := by
  simp only [lops, lopV, lstepV, lstep, h, Bool.false_eq_true, if_false, ob, pput]
  cases lq H σ op <;> rfl
theorem lops_e (h : isLE op = true) : lops cal φ (⟨d', op, none⟩ :: ps) σ H = ob (lstepV φ H (le cal H σ op)) fun r => lops cal φ ps (pput σ d' r.1) r.2 := by
  simp only [lops, lopV, lstep, h, if_true, ob]
-- quiet ones
@[go_sem] theorem lops_mv {x : LArg} : lops cal φ (⟨some d, .mv x, none⟩ :: ps) σ H = ob (some (la σ x)) fun v => lops cal φ ps ((d, v) :: σ) H := lops_q rfl
def lpick (c a b : IV) : Option IV := match c with
  | .bool true => some a
  | .bool false => some b
  | _ => none
@[go_sem] theorem lpick_true {a b : IV} : lpick (.bool true) a b = some a := id rfl
@[go_sem] theorem lpick_false {a b : IV} : lpick (.bool false) a b = some b := id rfl
@[go_sem] theorem lops_pick {c a b : LArg} : lops cal φ (⟨some d, .pick c a b, none⟩ :: ps) σ H = ob (lpick (la σ c) (la σ a) (la σ b)) fun v => lops cal φ ps ((d, v) :: σ) H := by rw [lops_q rfl]; rfl
@[go_sem] theorem lops_ld1 {a : LArg} : lops cal φ (⟨some d, .ld1 a, none⟩ :: ps) σ H = ob (lload1 H (la σ a)) fun v => lops cal φ ps ((d, v) :: σ) H := lops_q rfl
@[go_sem] theorem lops_ldn {n : Nat} {a : LArg} : lops cal φ (⟨some d, .ldn n a, none⟩ :: ps) σ H = ob (lloadn H n (la σ a)) fun v => lops cal φ ps ((d, v) :: σ) H := lops_q rfl
def lchk (v : IV) : Option IV := match v with
  | .ptr b o => some (.ptr b o)
  | .iface t v => some (.iface t v)
  | .func (.func f) a b => some (.func (.func f) a b)
  | _ => none
@[go_sem] theorem lchk_ptr {b o : Nat} : lchk (.ptr b o) = some (.ptr b o) := id rfl
@[go_sem] theorem lchk_iface {t : TypeId} {v : IV} : lchk (.iface t v) = some (.iface t v) := id rfl
@[go_sem] theorem lchk_func {f : FuncId} {a b : List IV} : lchk (.func (.func f) a b) = some (.func (.func f) a b) := id rfl
@[go_sem] theorem lops_chk {x : LArg} : lops cal φ (⟨some d, .chk x, none⟩ :: ps) σ H = ob (lchk (la σ x)) fun v => lops cal φ ps ((d, v) :: σ) H := by rw [lops_q rfl]; rfl
@[go_sem] theorem lops_bin {o : BinOp} {x y : LArg} : lops cal φ (⟨some d, .bin o x y, none⟩ :: ps) σ H = ob (lbin o (la σ x) (la σ y)) fun v => lops cal φ ps ((d, v) :: σ) H := lops_q rfl
def leqv (neg : Bool) (r : Option Bool) : Option IV := r.bind fun b => some (.bool (if neg then !b else b))
@[go_sem] theorem leqv_t {b : Bool} : leqv true (some b) = some (.bool (!b)) := id rfl
@[go_sem] theorem leqv_f {b : Bool} : leqv false (some b) = some (.bool b) := id rfl
@[go_sem] theorem lops_eqv {n : Bool} {e : LEq} {x y : LArg} : lops cal φ (⟨some d, .eqv n e x y, none⟩ :: ps) σ H = ob (leqv n (leq e (la σ x) (la σ y))) fun v => lops cal φ ps ((d, v) :: σ) H := lops_q rfl
@[go_sem] theorem lops_un {o : UnOp} {x : LArg} : lops cal φ (⟨some d, .un o x, none⟩ :: ps) σ H = ob (iun o (la σ x)) fun v => lops cal φ ps ((d, v) :: σ) H := lops_q rfl
@[go_sem] theorem iun_not {b : Bool} : iun .not (.bool b) = some (.bool (!b)) := id rfl
@[go_sem] theorem iun_neg {k : IntKind} {n : Int} : iun .neg (.int k n) = some (.int k (k.wrap (0 - n))) := id rfl
def lcvt (k : IntKind) (v : IV) : Option IV := match v with
  | .int _ n => some (.int k (k.wrap n))
  | _ => none
@[go_sem] theorem lcvt_int {k k' : IntKind} {n : Int} : lcvt k (.int k' n) = some (.int k (k.wrap n)) := id rfl
@[go_sem] theorem lops_cvt {k : IntKind} {x : LArg} : lops cal φ (⟨some d, .cvt k x, none⟩ :: ps) σ H = ob (lcvt k (la σ x)) fun v => lops cal φ ps ((d, v) :: σ) H := by rw [lops_q rfl]; rfl
def ls2s (v : IV) : Option IV := match v with
  | .str s => some (.str s)
  | _ => none
@[go_sem] theorem ls2s_str {s : List UInt8} : ls2s (.str s) = some (.str s) := id rfl
@[go_sem] theorem lops_s2s {x : LArg} : lops cal φ (⟨some d, .s2s x, none⟩ :: ps) σ H = ob (ls2s (la σ x)) fun v => lops cal φ ps ((d, v) :: σ) H := by rw [lops_q rfl]; rfl
def lb2s (H : Heap) (v : IV) : Option IV := match v with
  | .nilSlice => some (.str [])
  | .slice b o n lb ex sz => (lsl H 1 (.slice b o n lb ex sz) n).bind fun cs => (ibytes cs).bind fun l => some (.str l)
  | _ => none
@[go_sem] theorem lops_b2s {x : LArg} : lops cal φ (⟨some d, .b2s x, none⟩ :: ps) σ H = ob (lb2s H (la σ x)) fun v => lops cal φ ps ((d, v) :: σ) H := by rw [lops_q rfl]; rfl
@[go_sem] theorem lops_mkI {t : TypeId} {x : LArg} : lops cal φ (⟨some d, .mkI t x, none⟩ :: ps) σ H = ob (some (.iface t (la σ x))) fun v => lops cal φ ps ((d, v) :: σ) H := lops_q rfl
@[go_sem] theorem lops_mkF {f : Fn} {a b : List LArg} : lops cal φ (⟨some d, .mkF f a b, none⟩ :: ps) σ H = ob (some (.func f (las σ a) (las σ b))) fun v => lops cal φ ps ((d, v) :: σ) H := lops_q rfl
@[go_sem] theorem lops_slc {k : LSl} {x : LArg} {l h m : Option LArg} : lops cal φ (⟨some d, .slc k x l h m, none⟩ :: ps) σ H = ob (lslice H k (la σ x) (lop? σ l) (lop? σ h) (lop? σ m)) fun v => lops cal φ ps ((d, v) :: σ) H := lops_q rfl
def loff (v : IV) (k : Nat) : Option IV := match v with
  | .ptr b o => some (.ptr b (o + k))
  | _ => none
@[go_sem] theorem loff_ptr {b o k : Nat} : loff (.ptr b o) k = some (.ptr b (o + k)) := id rfl
@[go_sem] theorem lops_off {x : LArg} {k : Nat} : lops cal φ (⟨some d, .off x k, none⟩ :: ps) σ H = ob (loff (la σ x) k) fun v => lops cal φ ps ((d, v) :: σ) H := by rw [lops_q rfl]; rfl
def lfld1 (v : IV) (o : Nat) : Option IV := match v with
  | .agg cs => cs[o]?
  | _ => none
@[go_sem] theorem lfld1_agg {cs : List IV} {o : Nat} : lfld1 (.agg cs) o = cs[o]? := id rfl
@[go_sem] theorem lops_fld1 {x : LArg} {o : Nat} : lops cal φ (⟨some d, .fld1 x o, none⟩ :: ps) σ H = ob (lfld1 (la σ x) o) fun v => lops cal φ ps ((d, v) :: σ) H := by rw [lops_q rfl]; rfl
def lfldn (v : IV) (o n : Nat) : Option IV := match v with
  | .agg cs => if o + n ≤ cs.length then some (.agg ((cs.drop o).take n)) else none
  | _ => none
theorem lfldn_agg {cs : List IV} {o n : Nat} : lfldn (.agg cs) o n = if o + n ≤ cs.length then some (.agg ((cs.drop o).take n)) else none := id rfl
@[go_sem] theorem lops_fldn {x : LArg} {o n : Nat} : lops cal φ (⟨some d, .fldn x o n, none⟩ :: ps) σ H = ob (lfldn (la σ x) o n) fun v => lops cal φ ps ((d, v) :: σ) H := by rw [lops_q rfl]; rfl
def lix (s : Nat) (x i : IV) : Option IV := match x, i with
  | .slice b o n _ _ _, .int _ j => if 0 ≤ j ∧ j < n then some (.ptr b (o + j.toNat * s)) else none
  | _, _ => none
@[go_sem] theorem lix_slice {s b o n lb sz : Nat} {ex : Bool} {k : IntKind} {j : Int} : lix s (.slice b o n lb ex sz) (.int k j) = if 0 ≤ j ∧ j < n then some (.ptr b (o + j.toNat * s)) else none := id rfl
@[go_sem] theorem lops_ix {s : Nat} {x i : LArg} : lops cal φ (⟨some d, .ix s x i, none⟩ :: ps) σ H = ob (lix s (la σ x) (la σ i)) fun v => lops cal φ ps ((d, v) :: σ) H := by rw [lops_q rfl]; rfl
def lixa (n s : Nat) (x i : IV) : Option IV := match x, i with
  | .ptr b o, .int _ j => if 0 ≤ j ∧ j < n then some (.ptr b (o + j.toNat * s)) else none
  | _, _ => none
theorem lixa_ptr {n s b o : Nat} {k : IntKind} {j : Int} : lixa n s (.ptr b o) (.int k j) = if 0 ≤ j ∧ j < n then some (.ptr b (o + j.toNat * s)) else none := id rfl
@[go_sem] theorem lops_ixa {n s : Nat} {x i : LArg} : lops cal φ (⟨some d, .ixa n s x i, none⟩ :: ps) σ H = ob (lixa n s (la σ x) (la σ i)) fun v => lops cal φ ps ((d, v) :: σ) H := by rw [lops_q rfl]; rfl
def lixs (x i : IV) : Option IV := match x, i with
  | .str s, .int _ j => if 0 ≤ j then (s[j.toNat]?).bind fun c => some (.int .u8 c.toNat) else none
  | _, _ => none
theorem lixs_str {s : List UInt8} {k : IntKind} {j : Int} : lixs (.str s) (.int k j) = if 0 ≤ j then (s[j.toNat]?).bind fun c => some (.int .u8 c.toNat) else none := id rfl
@[go_sem] theorem lops_ixs {x i : LArg} : lops cal φ (⟨some d, .ixs x i, none⟩ :: ps) σ H = ob (lixs (la σ x) (la σ i)) fun v => lops cal φ ps ((d, v) :: σ) H := by rw [lops_q rfl]; rfl
@[go_sem] theorem lops_lkp {k : LS} {z : IV} {ok : Bool} {x i : LArg} : lops cal φ (⟨some d, .lkp k z ok x i, none⟩ :: ps) σ H = ob (llookup H k z ok (la σ x) (la σ i)) fun v => lops cal φ ps ((d, v) :: σ) H := lops_q rfl
@[go_sem] theorem iextract_tuple {vs : List IV} {i : Nat} : iextract (.tuple vs) i = vs[i]? := id rfl
@[go_sem] theorem lops_ext {x : LArg} {i : Nat} : lops cal φ (⟨some d, .ext x i, none⟩ :: ps) σ H = ob (iextract (la σ x) i) fun v => lops cal φ ps ((d, v) :: σ) H := lops_q rfl
@[go_sem] theorem lops_bld {z : List IV} {l : List (Nat × Nat × LArg)} : lops cal φ (⟨some d, .bld z l, none⟩ :: ps) σ H = ob (ob (lfill z (lparts σ l)) fun r => some (.agg r)) fun v => lops cal φ ps ((d, v) :: σ) H := lops_q rfl
@[go_sem] theorem lops_len {l : LLen} {x : LArg} : lops cal φ (⟨some d, .len l x, none⟩ :: ps) σ H = ob (llen H l (la σ x)) fun v => lops cal φ ps ((d, v) :: σ) H := lops_q rfl
@[go_sem] theorem llen_str {s : List UInt8} : llen H .str (.str s) = some (.int .i64 s.length) := id rfl
@[go_sem] theorem llen_slice {b o n lb sz : Nat} {ex : Bool} : llen H .slice (.slice b o n lb ex sz) = some (.int .i64 n) := id rfl
@[go_sem] theorem llen_nil : llen H .slice .nilSlice = some (.int .i64 0) := id rfl
@[go_sem] theorem lops_fold {m : Bool} {x : LArg} {ys : List LArg} : lops cal φ (⟨some d, .fold m x ys, none⟩ :: ps) σ H = ob (ifold (if m then imax2 else imin2) (la σ x) (las σ ys)) fun v => lops cal φ ps ((d, v) :: σ) H := lops_q rfl
-- those that change the heap
def lbox (H : Heap) (v : IV) : Option (IV × Heap) := if isTuple v = false ∧ v.cells.all IV.one = true then some (.ptr H.length 0, H ++ [.row v.cells false]) else none
@[go_sem] theorem lops_box {x : LArg} : lops cal φ (⟨some d, .box x, none⟩ :: ps) σ H = ob (lbox H (la σ x)) fun r => lops cal φ ps ((d, r.1) :: σ) r.2 := by
  rw [lops_e rfl]
  simp only [le, lbox, ibox, ob]
  split <;> rfl
theorem lbox_one {v : IV} (h : v.one = true) : lbox H v = some (.ptr H.length 0, H ++ [.row [v] false]) := by
  cases v <;> first | rfl | (simp [IV.one] at h)
theorem lbox_agg {cs : List IV} (h : cs.all IV.one = true) : lbox H (.agg cs) = some (.ptr H.length 0, H ++ [.row cs false]) := by
  simp only [lbox, isTuple, IV.cells, h, and_self, if_true]
theorem one_int {k : IntKind} {n : Int} : IV.one (.int k n) = true := id rfl
theorem one_bool {b : Bool} : IV.one (.bool b) = true := id rfl
theorem one_str {s : List UInt8} : IV.one (.str s) = true := id rfl
theorem one_ptr {b o : Nat} : IV.one (.ptr b o) = true := id rfl
theorem one_nilPtr : IV.one .nilPtr = true := id rfl
theorem one_slice {b o n lb sz : Nat} {ex : Bool} : IV.one (.slice b o n lb ex sz) = true := id rfl
theorem one_nilSlice : IV.one .nilSlice = true := id rfl
theorem one_map {r : Nat} : IV.one (.map r) = true := id rfl
theorem one_nilMap : IV.one .nilMap = true := id rfl
theorem one_func {f : Fn} {a b : List IV} : IV.one (.func f a b) = true := id rfl
theorem one_nilFunc : IV.one .nilFunc = true := id rfl
theorem one_iface {t : TypeId} {v : IV} : IV.one (.iface t v) = true := id rfl
theorem one_nilIface : IV.one .nilIface = true := id rfl
/-- What lies at a place of the heap. -/
def og1 (o : Option IObj) (i : Nat) : Option IV := match o with
  | some (.row cs _) => cs[i]?
  | _ => none
def ogn (o : Option IObj) (i n : Nat) : Option IV := match o with
  | some (.row cs _) => if i + n ≤ cs.length then some (.agg ((cs.drop i).take n)) else none
  | _ => none
theorem og1_row {cs : List IV} {ro : Bool} {i : Nat} : og1 (some (.row cs ro)) i = cs[i]? := id rfl
theorem ogn_row {cs : List IV} {ro : Bool} {i n : Nat} : ogn (some (.row cs ro)) i n = if i + n ≤ cs.length then some (.agg ((cs.drop i).take n)) else none := id rfl
theorem lload1_ptr {b o : Nat} : lload1 H (.ptr b o) = og1 (H[b]?) o := id rfl
theorem lloadn_ptr {b o n : Nat} : lloadn H n (.ptr b o) = ogn (H[b]?) o n := id rfl
def putO (o : Option IObj) (b i n : Nat) (x : IV) (H : Heap) : Option Heap := match o with
  | some (.row cs false) => if isTuple x = false ∧ x.cells.length = n ∧ i + x.cells.length ≤ cs.length ∧ x.cells.all IV.one = true then some (H.set b (.row (putAt cs i x.cells) false)) else none
  | _ => none
theorem lstore_ptr {b o n : Nat} {x : IV} : lstore H n (.ptr b o) x = putO (H[b]?) b o n x H := id rfl
theorem putO_one {b i : Nat} {x : IV} {cs : List IV} (h : x.one = true) (hi : i < cs.length) : putO (some (.row cs false)) b i 1 x H = some (H.set b (.row (cs.set i x) false)) := by
  have hc : x.cells = [x] := by cases x <;> first | rfl | (simp [IV.one] at h)
  have ht : isTuple x = false := by cases x <;> first | rfl | (simp [IV.one] at h)
  unfold putO
  simp only [hc, ht]
  rw [if_pos (by simp [h]; omega)]
  rfl
theorem putO_all {b n : Nat} {xs cs : List IV} (h : xs.all IV.one = true) (hn : xs.length = n) (hc : cs.length = n) : putO (some (.row cs false)) b 0 n (.agg xs) H = some (H.set b (.row xs false)) := by
  unfold putO
  simp only [IV.cells, isTuple]
  rw [if_pos ⟨trivial, hn, by omega, h⟩]
  refine congrArg (fun l => some (H.set b (.row l false))) ?_
  apply List.ext_getElem?
  intro j
  rw [putAt_get (by omega)]
  by_cases e : j < xs.length
  · rw [if_pos (by omega)]; simp
  · rw [if_neg (by omega), List.getElem?_eq_none (by omega), List.getElem?_eq_none (by omega)]
theorem at_new {X : Heap} : (H ++ X)[H.length]? = X[0]? := by rw [List.getElem?_append_right (Nat.le_refl _), Nat.sub_self]
theorem at_newk {X : Heap} {k : Nat} : (H ++ X)[H.length + k]? = X[k]? := by rw [List.getElem?_append_right (by omega), Nat.add_sub_cancel_left]
theorem set_new {X : Heap} {o : IObj} : (H ++ X).set H.length o = H ++ X.set 0 o := by rw [List.set_append_right _ _ (Nat.le_refl _), Nat.sub_self]
theorem set_newk {X : Heap} {k : Nat} {o : IObj} : (H ++ X).set (H.length + k) o = H ++ X.set k o := by rw [List.set_append_right _ _ (by omega), Nat.add_sub_cancel_left]
theorem len_new {X : Heap} : (H ++ X).length = H.length + X.length := List.length_append
attribute [go_sem] lbox_one lbox_agg one_int one_bool one_str one_ptr one_nilPtr one_slice one_nilSlice one_map one_nilMap one_func one_nilFunc one_iface one_nilIface og1_row ogn_row lload1_ptr lloadn_ptr lstore_ptr putO_one putO_all at_new at_newk set_new set_newk len_new List.append_assoc List.cons_append List.nil_append List.length_cons List.length_nil List.set_cons_zero List.set_cons_succ List.all_cons List.all_nil List.drop_zero List.drop_succ_cons List.take_succ_cons List.take_zero
@[go_sem] theorem lops_zbox {z : IV} : lops cal φ (⟨some d, .zbox z, none⟩ :: ps) σ H = lops cal φ ps ((d, .ptr H.length 0) :: σ) (H ++ [.row z.cells false]) := lops_e rfl
def lbldS (H : Heap) (s n : Nat) (z : List IV) (l : List (Nat × IV)) : Option (IV × Heap) := (ifill (fun i => some (i * s, s)) (zrep n z) l).bind fun cells =>
    if cells.all IV.one = true ∧ cells.length = n * s then some (.slice H.length 0 n n true s, H ++ [.row cells false]) else none
@[go_sem] theorem lops_bldS {s n : Nat} {z : List IV} {l : List (Nat × LArg)} : lops cal φ (⟨some d, .bldS s n z l, none⟩ :: ps) σ H = ob (lbldS H s n z (lps σ l)) fun r => lops cal φ ps ((d, r.1) :: σ) r.2 := by
  rw [lops_e rfl]
  simp only [le, lbldS, ob]
  cases ifill (fun i => some (i * s, s)) (zrep n z) (lps σ l) with
  | none => rfl
  | some c =>
    simp only [Option.bind_some]
    split <;> rfl
@[go_sem] theorem lops_st {n : Nat} {a x : LArg} : lops cal φ (⟨none, .st n a x, none⟩ :: ps) σ H = ob (lstore H n (la σ a) (la σ x)) fun H' => lops cal φ ps σ H' := by
  rw [lops_e rfl]
  simp only [le, ob]
  cases lstore H n (la σ a) (la σ x) <;> rfl
@[go_sem] theorem lops_mkM : lops cal φ (⟨some d, .mkM, none⟩ :: ps) σ H = lops cal φ ps ((d, .map H.length) :: σ) (H ++ [.map [] 0]) := lops_e rfl
def lapp (H : Heap) (s b : Nat) (d x : IV) : Option (IV × Heap) := match lappend H s b d x with
  | some (.val v, H') => some (v, H')
  | _ => none
theorem lappend_val {s b : Nat} {d x : IV} {r : INext × Heap} (h : lappend H s b d x = some r) : ∃ v H', r = (.val v, H') := by
  unfold lappend at h
  obtain ⟨n, _, h⟩ := oB h
  have fr : ∀ {H : Heap} {old new : List IV} {k : Nat}, lfresh s b H old new k = some r → ∃ v H', r = (.val v, H') := by
    intro H old new k h
    unfold lfresh at h
    split at h
    · cases h; exact ⟨_, _, rfl⟩
    · cases h
  split at h
  · split at h
    · cases h; exact ⟨_, _, rfl⟩
    · cases h; exact ⟨_, _, rfl⟩
    · cases h
  · obtain ⟨new, _, h⟩ := oB h
    split at h
    · split at h
      · exact fr h
      · split at h
        · split at h
          · split at h
            · cases h; exact ⟨_, _, rfl⟩
            · cases h
          · cases h
        · obtain ⟨old, _, h⟩ := oB h
          split at h
          · exact fr h
          · split at h
            · split at h
              · exact fr h
              · cases h
            · cases h
      · cases h
    · cases h
@[go_sem] theorem lops_app {s b : Nat} {x y : LArg} : lops cal φ (⟨some d, .app s b x y, none⟩ :: ps) σ H = ob (lapp H s b (la σ x) (la σ y)) fun r => lops cal φ ps ((d, r.1) :: σ) r.2 := by
  rw [lops_e rfl]
  simp only [le, ob, lapp]
  cases h : lappend H s b (la σ x) (la σ y) with
  | none => rfl
  | some r => obtain ⟨v, H', rfl⟩ := lappend_val h; rfl
@[go_sem] theorem lops_callF {g : FuncId} {as : List LArg} : lops cal φ (⟨d', .callF g as, none⟩ :: ps) σ H = ob (φ g (las σ as) H) fun r => lops cal φ ps (pput σ d' r.1) r.2 := by
  rw [lops_e rfl]; rfl
def lcallV (cal : FuncId → Bool) (φ : Oracle) (H : Heap) (f : IV) (as : List IV) : Option (IV × Heap) := match f with
  | .func (.func g) first cap => if cal g = true then φ g (first ++ as ++ cap) H else none
  | _ => none
theorem lcallV_func {g : FuncId} {first cap as : List IV} (h : cal g = true) : lcallV cal φ H (.func (.func g) first cap) as = φ g (first ++ as ++ cap) H := by simp only [lcallV, h, if_true]
@[go_sem] theorem lops_callV {f : LArg} {as : List LArg} : lops cal φ (⟨d', .callV f as, none⟩ :: ps) σ H = ob (lcallV cal φ H (la σ f) (las σ as)) fun r => lops cal φ ps (pput σ d' r.1) r.2 := by
  rw [lops_e rfl]
  simp only [le, ob, lcallV]
  cases la σ f with
  | func fn first cap =>
    cases fn with
    | func g => simp only; split <;> rfl
    | _ => rfl
  | _ => rfl
-- slots
@[go_sem] theorem lk_hit {v : IV} {r : Sg} {t : Nat} : lk ((t, v) :: r) t = v := by simp [lk]
@[go_sem] theorem lk_miss {v : IV} {r : Sg} {s t : Nat} (h : (s == t) = false) : lk ((s, v) :: r) t = lk r t := by simp [lk, h]
@[go_sem] theorem la_t {n : Nat} : la σ (.t n) = lk σ n := id rfl
@[go_sem] theorem la_k {v : IV} : la σ (.k v) = v := id rfl
@[go_sem] theorem la_f {g : FuncId} : la σ (.f g) = .func (.func g) [] [] := id rfl
@[go_sem] theorem las_nil : las σ [] = [] := id rfl
@[go_sem] theorem las_cons {x : LArg} {xs : List LArg} : las σ (x :: xs) = la σ x :: las σ xs := id rfl
@[go_sem] theorem lopt_none : lop? σ none = none := id rfl
@[go_sem] theorem lopt_some {x : LArg} : lop? σ (some x) = some (la σ x) := id rfl
@[go_sem] theorem lparts_nil : lparts σ [] = [] := id rfl
@[go_sem] theorem lparts_cons {o s : Nat} {x : LArg} {r : List (Nat × Nat × LArg)} : lparts σ ((o, s, x) :: r) = (o, s, la σ x) :: lparts σ r := id rfl
@[go_sem] theorem lps_nil : lps σ [] = [] := id rfl
@[go_sem] theorem lps_cons {o : Nat} {x : LArg} {r : List (Nat × LArg)} : lps σ ((o, x) :: r) = (o, la σ x) :: lps σ r := id rfl
@[go_sem] theorem pput_some {v : IV} : pput σ (some d) v = (d, v) :: σ := id rfl
@[go_sem] theorem pput_none {v : IV} : pput σ none v = σ := id rfl
-- code
@[go_sem] theorem xReg {l : List LO} : lxd cal φ (.reg l) σ H = ob (lops cal φ l σ H) fun r => some (.normal, r.1, r.2) := lxd_reg
@[go_sem] theorem xDrw0 {l : List LO} : lxd cal φ (.drw l []) σ H = ob (lops cal φ l σ H) fun r => some (.normal, r.1, r.2) := lxd_drw
@[go_sem] theorem xSeq {a b : LC} : lxd cal φ (.seq a b) σ H = pThen (lxd cal φ a σ H) (lxd cal φ b) := lxd_seq
@[go_sem] theorem xCond {c : LArg} {a b : LC} : lxd cal φ (.cond c a b) σ H = lIf (la σ c) (lxd cal φ a σ H) (lxd cal φ b σ H) := lxd_cond
@[go_sem] theorem xBlock {id : Nat} {a : LC} : lxd cal φ (.block id a) σ H = pBlock id (lxd cal φ a σ H) := lxd_block
@[go_sem] theorem pBlock_hit {id : Nat} : pBlock id (some (.exit id, σ, H)) = some (.normal, σ, H) := by rw [pBlock_exit, if_pos rfl]
@[go_sem] theorem pBlock_miss {id id' : Nat} (h : (id' == id) = false) : pBlock id (some (.exit id', σ, H)) = some (.exit id', σ, H) := by rw [pBlock_exit, if_neg (by simpa using h)]
@[go_sem] theorem lbackRet {rs : List LRes} : lback rs (some (.ret, σ, H)) = ob (lresults σ H rs) fun vs => some (pack vs, H) := id rfl
@[go_sem] theorem lbackNormal {rs : List LRes} : lback rs (some (.normal, σ, H)) = ob (lresults σ H rs) fun vs => some (pack vs, H) := id rfl
@[go_sem] theorem lres_nil : lresults σ H [] = some [] := id rfl
@[go_sem] theorem lres_cons {r : LRes} {rs : List LRes} : lresults σ H (r :: rs) = ob (lresult σ H r) fun v => ob (lresults σ H rs) fun vs => some (v :: vs) := id rfl
@[go_sem] theorem lres_tmp {t : Nat} : lresult σ H (.tmp t) = some (lk σ t) := id rfl
@[go_sem] theorem lres_cell {t : Nat} : lresult σ H (.cell1 t) = lload1 H (lk σ t) := id rfl
@[go_sem] theorem pack_one {v : IV} : pack [v] = v := id rfl
@[go_sem] theorem pack_two {a b : IV} : pack [a, b] = .tuple [a, b] := id rfl
@[go_sem] theorem pack_three {a b c : IV} : pack [a, b, c] = .tuple [a, b, c] := id rfl
@[go_sem] theorem pack_zero : pack [] = .tuple [] := id rfl
-- numbers
theorem lbin_int {o : BinOp} {k : IntKind} {a b : Int} (h : o ≠ .shl ∧ o ≠ .shr) : lbin o (.int k a) (.int k b) = iarith o k a b := by
  unfold lbin
  obtain ⟨h1, h2⟩ := h
  cases o <;> simp_all
@[go_sem] theorem lbin_add {k : IntKind} {a b : Int} : lbin .add (.int k a) (.int k b) = some (.int k (k.wrap (a + b))) := by simp [lbin, iarith]
@[go_sem] theorem lbin_sub {k : IntKind} {a b : Int} : lbin .sub (.int k a) (.int k b) = some (.int k (k.wrap (a - b))) := by simp [lbin, iarith]
@[go_sem] theorem lbin_mul {k : IntKind} {a b : Int} : lbin .mul (.int k a) (.int k b) = some (.int k (k.wrap (a * b))) := by simp [lbin, iarith]
@[go_sem] theorem lbin_quo {k : IntKind} {a b : Int} (h : b ≠ 0) : lbin .quo (.int k a) (.int k b) = some (.int k (k.wrap (a.tdiv b))) := by simp [lbin, iarith, h]
@[go_sem] theorem lbin_rem {k : IntKind} {a b : Int} (h : b ≠ 0) : lbin .rem (.int k a) (.int k b) = some (.int k (a.tmod b)) := by simp [lbin, iarith, h]
@[go_sem] theorem lbin_shl {k k' : IntKind} {a b : Int} (h : ¬ b < 0) : lbin .shl (.int k a) (.int k' b) = some (.int k (k.wrap (a * 2 ^ (min b.toNat k.bits)))) := by simp [lbin, ishift, h]
@[go_sem] theorem lbin_shr {k k' : IntKind} {a b : Int} (h : ¬ b < 0) : lbin .shr (.int k a) (.int k' b) = some (.int k (a.fdiv (2 ^ (min b.toNat k.bits)))) := by simp [lbin, ishift, h]
@[go_sem] theorem lbin_eql {k : IntKind} {a b : Int} : lbin .eql (.int k a) (.int k b) = some (.bool (decide (a = b))) := by simp [lbin, iarith]; rfl
@[go_sem] theorem lbin_neq {k : IntKind} {a b : Int} : lbin .neq (.int k a) (.int k b) = some (.bool (!decide (a = b))) := by simp [lbin, iarith]; rfl
@[go_sem] theorem lbin_lss {k : IntKind} {a b : Int} : lbin .lss (.int k a) (.int k b) = some (.bool (decide (a < b))) := by simp [lbin, iarith]
@[go_sem] theorem lbin_leq {k : IntKind} {a b : Int} : lbin .leq (.int k a) (.int k b) = some (.bool (decide (a ≤ b))) := by simp [lbin, iarith]
@[go_sem] theorem lbin_gtr {k : IntKind} {a b : Int} : lbin .gtr (.int k a) (.int k b) = some (.bool (decide (b < a))) := by simp [lbin, iarith]
@[go_sem] theorem lbin_geq {k : IntKind} {a b : Int} : lbin .geq (.int k a) (.int k b) = some (.bool (decide (b ≤ a))) := by simp [lbin, iarith]
theorem beqDec {a b : List UInt8} : (a == b) = decide (a = b) := by
  by_cases h : a = b
  · subst h; simp
  · rw [decide_eq_false h]; simpa using h
@[go_sem] theorem lbin_seq {a b : List UInt8} : lbin .eql (.str a) (.str b) = some (.bool (decide (a = b))) := by simp only [lbin, istr, beqDec]
@[go_sem] theorem lbin_sneq {a b : List UInt8} : lbin .neq (.str a) (.str b) = some (.bool (!decide (a = b))) := by simp only [lbin, istr, beqDec]
@[go_sem] theorem leq_bool {a b : Bool} : leq .bool (.bool a) (.bool b) = some (a == b) := id rfl
end
theorem ini_nil {i : Nat} : initFrom i [] = [] := id rfl
theorem ini_cons {i : Nat} {v : IV} {vs : List IV} : initFrom i (v :: vs) = (i, v) :: initFrom (i + 1) vs := id rfl
attribute [go_sem] Bool.not_true Bool.not_false Bool.true_and Bool.false_and Bool.and_true Bool.and_false List.getElem?_cons_succ List.getElem?_cons_zero ini_nil ini_cons lxd_skip lxd_exit lxd_ret pThen_normal pThen_ret pThen_exit pBlock_normal pBlock_ret
end Go.Shade
