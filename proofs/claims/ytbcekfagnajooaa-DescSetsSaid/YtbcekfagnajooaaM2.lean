/- SHADE, part 27: low code, without rounds. -/
import Derived.Test.YtbcekfagnajooaaM1
import Derived.WalkKit
import Derived.KernelRfl
namespace Go.Shade
open Go.RowKit
set_option linter.unusedSimpArgs false
set_option linter.unusedVariables false

theorem lexec_mono {cal : FuncId → Bool} {φ : Oracle} {n k : Nat} (hn : n ≤ k) : ∀ (c : LC) (σ : Sg) (H : Heap), LeF (lexec cal φ n c σ H) (lexec cal φ k c σ H) := by
  intro c
  induction c with
  | seq c d ihc ihd =>
    intro σ H
    refine (ihc σ H).bind fun r => ?_
    obtain ⟨x, σ', H'⟩ := r
    cases x with
    | normal => exact ihd σ' H'
    | exit id => exact LeF.refl _
    | ret => exact LeF.refl _
  | cond c a b iha ihb =>
    intro σ H
    simp only [lexec]
    split
    · exact iha σ H
    · exact ihb σ H
    · exact LeF.refl _
  | block id c ih =>
    intro σ H
    exact (ih σ H).bind fun r => LeF.refl _
  | loop c ih =>
    intro σ H
    simp only [lexec]
    exact piter_mono ih n k hn σ H
  | _ => intro σ H; exact LeF.refl _

noncomputable def lxd (cal : FuncId → Bool) (φ : Oracle) (c : LC) : PBody := fun σ H => lim fun n => lexec cal φ n c σ H
theorem lxd_rising (cal : FuncId → Bool) (φ : Oracle) (c : LC) (σ : Sg) (H : Heap) : Rising fun n => lexec cal φ n c σ H := fun n k h => lexec_mono h c σ H
theorem lxd_some {cal : FuncId → Bool} {φ : Oracle} {c : LC} {σ : Sg} {H : Heap} {r : IX × Sg × Heap} : lxd cal φ c σ H = some r ↔ ∃ n, lexec cal φ n c σ H = some r := lim_some (lxd_rising cal φ c σ H)
section
variable {cal : FuncId → Bool} {φ : Oracle} {σ : Sg} {H : Heap}
theorem lxd_const {c : LC} {r : Option (IX × Sg × Heap)} (h : ∀ n, lexec cal φ n c σ H = r) : lxd cal φ c σ H = r :=
  lim_eq (lxd_rising cal φ c σ H) fun v => ⟨fun e => ⟨0, by rw [h, e]⟩, fun ⟨n, hn⟩ => by rw [← hn, h]⟩
theorem lxd_skip : lxd cal φ .skip σ H = some (.normal, σ, H) := lxd_const fun _ => rfl
theorem lxd_reg {l : List LO} : lxd cal φ (.reg l) σ H = (lops cal φ l σ H).bind fun r => some (.normal, r.1, r.2) := lxd_const fun _ => rfl
theorem lxd_drw {l : List LO} {ps : List (Nat × Nat)} : lxd cal φ (.drw l ps) σ H = (ldraw cal φ l ps σ H).bind fun r => some (.normal, r.1, r.2) := lxd_const fun _ => rfl
theorem lxd_exit {id : Nat} : lxd cal φ (.exit id) σ H = some (.exit id, σ, H) := lxd_const fun _ => rfl
theorem lxd_ret : lxd cal φ .ret σ H = some (.ret, σ, H) := lxd_const fun _ => rfl
theorem lxd_seq {a b : LC} : lxd cal φ (.seq a b) σ H = pThen (lxd cal φ a σ H) (lxd cal φ b) := by
  refine lim_eq (lxd_rising cal φ (.seq a b) σ H) fun v => ?_
  have he : ∀ n, lexec cal φ n (.seq a b) σ H = pThen (lexec cal φ n a σ H) (lexec cal φ n b) := fun _ => rfl
  rw [pThen_some]
  constructor
  · rintro (⟨σ', H', h1, h2⟩ | ⟨h1, h2⟩)
    · obtain ⟨n, hn⟩ := lxd_some.1 h1
      obtain ⟨k, hk⟩ := lxd_some.1 h2
      refine ⟨max n k, ?_⟩
      rw [he, pThen_some]
      exact .inl ⟨σ', H', lxd_rising cal φ a σ H n _ (Nat.le_max_left _ _) _ hn, lxd_rising cal φ b σ' H' k _ (Nat.le_max_right _ _) _ hk⟩
    · obtain ⟨n, hn⟩ := lxd_some.1 h1
      exact ⟨n, by rw [he, pThen_some]; exact .inr ⟨hn, h2⟩⟩
  · rintro ⟨n, hn⟩
    rw [he, pThen_some] at hn
    rcases hn with ⟨σ', H', h1, h2⟩ | ⟨h1, h2⟩
    · exact .inl ⟨σ', H', lxd_some.2 ⟨n, h1⟩, lxd_some.2 ⟨n, h2⟩⟩
    · exact .inr ⟨lxd_some.2 ⟨n, h1⟩, h2⟩
theorem lxd_block {id : Nat} {a : LC} : lxd cal φ (.block id a) σ H = pBlock id (lxd cal φ a σ H) := by
  refine lim_eq (lxd_rising cal φ (.block id a) σ H) fun v => ?_
  have he : ∀ n, lexec cal φ n (.block id a) σ H = pBlock id (lexec cal φ n a σ H) := fun _ => rfl
  constructor
  · intro h
    obtain ⟨q, h1, h2⟩ := Option.bind_eq_some_iff.1 h
    obtain ⟨n, hn⟩ := lxd_some.1 h1
    exact ⟨n, by rw [he]; unfold pBlock; rw [hn]; exact h2⟩
  · rintro ⟨n, hn⟩
    rw [he] at hn
    obtain ⟨q, h1, h2⟩ := Option.bind_eq_some_iff.1 hn
    unfold pBlock
    rw [lxd_some.2 ⟨n, h1⟩]; exact h2
theorem lxd_loop {a : LC} : lxd cal φ (.loop a) σ H = pThen (lxd cal φ a σ H) (lxd cal φ (.loop a)) := by
  refine lim_eq (lxd_rising cal φ (.loop a) σ H) fun v => ?_
  have hi : ∀ n k σ H, piter (lexec cal φ n a) (k + 1) σ H = pThen (lexec cal φ n a σ H) (piter (lexec cal φ n a) k) := fun _ _ _ _ => rfl
  rw [pThen_some]
  constructor
  · rintro (⟨σ', H', h1, h2⟩ | ⟨h1, h2⟩)
    · obtain ⟨n, hn⟩ := lxd_some.1 h1
      obtain ⟨k, hk⟩ := lxd_some.1 h2
      refine ⟨max n k + 1, ?_⟩
      show piter (lexec cal φ (max n k + 1) a) (max n k + 1) σ H = some v
      rw [hi, pThen_some]
      refine .inl ⟨σ', H', lxd_rising cal φ a σ H n _ (by omega) _ hn, ?_⟩
      exact piter_mono (fun σ H => lxd_rising cal φ a σ H k (max n k + 1) (by omega)) k (max n k) (by omega) σ' H' v hk
    · obtain ⟨n, hn⟩ := lxd_some.1 h1
      refine ⟨n + 1, ?_⟩
      show piter (lexec cal φ (n + 1) a) (n + 1) σ H = some v
      rw [hi, pThen_some]
      exact .inr ⟨lxd_rising cal φ a σ H n _ (by omega) _ hn, h2⟩
  · rintro ⟨n, hn⟩
    have hn : piter (lexec cal φ n a) n σ H = some v := hn
    cases n with
    | zero => simp [piter] at hn
    | succ n =>
      rw [hi, pThen_some] at hn
      rcases hn with ⟨σ', H', h1, h2⟩ | ⟨h1, h2⟩
      · refine .inl ⟨σ', H', lxd_some.2 ⟨n + 1, h1⟩, lxd_some.2 ⟨n + 1, ?_⟩⟩
        show piter (lexec cal φ (n + 1) a) (n + 1) σ' H' = some v
        exact piter_mono (fun σ H => LeF.refl _) n (n + 1) (by omega) σ' H' v h2
      · exact .inr ⟨lxd_some.2 ⟨n + 1, h1⟩, h2⟩
theorem lxd_bad : lxd cal φ .bad σ H = none := lxd_const fun _ => rfl
def lIf (v : IV) (a b : Option (IX × Sg × Heap)) : Option (IX × Sg × Heap) := match v with
  | .bool t => if t then a else b
  | _ => none
theorem lIf_bool {t : Bool} {a b : Option (IX × Sg × Heap)} : lIf (.bool t) a b = if t = true then a else b := rfl
theorem lxd_cond {c : LArg} {a b : LC} : lxd cal φ (.cond c a b) σ H = lIf (la σ c) (lxd cal φ a σ H) (lxd cal φ b σ H) := by
  cases hv : la σ c with
  | bool t =>
    cases t with
    | true => unfold lxd; simp only [lexec, hv, lIf, if_true]
    | false => unfold lxd; simp only [lexec, hv, lIf, Bool.false_eq_true, if_false]
  | _ => exact lxd_const fun n => by simp only [lexec, hv]; rfl
end

/-! ### functions -/
inductive LRes where
  | tmp (t : Nat)
  | cell1 (x : Nat)
  | celln (x n : Nat)
  deriving Inhabited
structure LFun where
  pc : LC
  rs : List LRes
  n : Nat
  deriving Inhabited
def lresult (σ : Sg) (H : Heap) : LRes → Option IV
  | .tmp t => some (lk σ t)
  | .cell1 x => lload1 H (lk σ x)
  | .celln x n => lloadn H n (lk σ x)
def lresults (σ : Sg) (H : Heap) : List LRes → Option (List IV)
  | [] => some []
  | r :: rs => (lresult σ H r).bind fun v => (lresults σ H rs).bind fun vs => some (v :: vs)
def lback (rs : List LRes) (r : Option (IX × Sg × Heap)) : Option (IV × Heap) := r.bind fun q => match q with
  | (.exit _, _, _) => none
  | (_, σ, H) => (lresults σ H rs).bind fun vs => some (pack vs, H)
theorem lback_ret {rs : List LRes} {σ : Sg} {H : Heap} : lback rs (some (.ret, σ, H)) = (lresults σ H rs).bind fun vs => some (pack vs, H) := rfl
theorem lback_normal {rs : List LRes} {σ : Sg} {H : Heap} : lback rs (some (.normal, σ, H)) = (lresults σ H rs).bind fun vs => some (pack vs, H) := rfl
theorem lback_none {rs : List LRes} : lback rs none = none := rfl
noncomputable def lrun (cal : FuncId → Bool) (φ : Oracle) (lf : LFun) (args : List IV) (H : Heap) : Option (IV × Heap) := lback lf.rs (lxd cal φ lf.pc (initFrom 0 args) H)
def lowRes (P : Program) : ResultVar → Option LRes
  | .tmp t => some (.tmp t)
  | .cell x t => match isAggT P t with
    | some true => (szOf P t).map fun n => .celln x n
    | some false => some (.cell1 x)
    | none => none
def lowRess (P : Program) : List ResultVar → Option (List LRes)
  | [] => some []
  | r :: rs => (lowRes P r).bind fun x => (lowRess P rs).bind fun xs => some (x :: xs)
theorem lowRes_le {P : Program} {r : ResultVar} {x : LRes} (h : lowRes P r = some x) (σ : Sg) (H : Heap) : presult P σ H r = lresult σ H x := by
  cases r with
  | tmp t => simp only [lowRes] at h; cases h; rfl
  | cell y t =>
    simp only [lowRes] at h
    split at h
    · rename_i ha
      obtain ⟨n, hn, rfl⟩ := oM h
      simp only [presult, lresult]
      cases lk σ y <;> first | rfl | (simp only [lloadn_eq ha hn])
    · rename_i ha
      cases h
      simp only [presult, lresult]
      cases lk σ y <;> first | rfl | (simp only [lload1_eq ha])
    · cases h
theorem lowRess_le {P : Program} : ∀ {rs : List ResultVar} {xs : List LRes}, lowRess P rs = some xs → ∀ (σ : Sg) (H : Heap), presults P σ H rs = lresults σ H xs
  | [], xs, h, σ, H => by simp only [lowRess] at h; cases h; rfl
  | r :: rs, xs, h, σ, H => by
    simp only [lowRess] at h
    obtain ⟨x, h1, h⟩ := oB h
    obtain ⟨xs', h2, h⟩ := oB h
    cases h
    simp only [presults, lresults, lowRes_le h1, lowRess_le h2]
def lowF (P : Program) (fn : Func) : Option LFun := (compileF P fn).bind fun pf => (lowRess P pf.rs).bind fun rs => some ⟨lowC P pf.pc, rs, pf.n⟩
theorem low_xd {P : Program} {cal : FuncId → Bool} {φ : Oracle} (hcal : ∀ g, cal g = true → callable P g = true) (c : PC) (σ : Sg) (H : Heap) : LeF (lxd cal φ (lowC P c) σ H) (pxd P φ c σ H) := by
  intro r hr
  obtain ⟨n, hn⟩ := lxd_some.1 hr
  exact pxd_some.2 ⟨n, low_exec hcal c σ H r hn⟩
/-- What a function's low code comes to, the function does. -/
theorem low_den {P : Program} {T : Table} {cal : FuncId → Bool} (hcal : ∀ g, cal g = true → callable P g = true) {f : FuncId} {fn : Func} {lf : LFun} (h : T f = none) (hf : P.funcs[f]? = some fn) (hc : lowF P fn = some lf) {args : List IV} {H : Heap} (hl : args.length ≤ lf.n) {r : IV × Heap} (hr : lrun cal (den P T) lf args H = some r) :
    den P T f args H = some r := by
  unfold lowF at hc
  obtain ⟨pf, h1, hc⟩ := oB hc
  obtain ⟨rs, h2, hc⟩ := oB hc
  cases hc
  rw [den_pbody h hf h1 args H hl]
  unfold lrun lback at hr
  unfold pback
  obtain ⟨q, g1, g2⟩ := oB hr
  rw [low_xd hcal pf.pc _ _ _ g1]
  obtain ⟨x, σ, H'⟩ := q
  cases x with
  | normal => simp only [Option.bind_some, lowRess_le h2]; exact g2
  | ret => simp only [Option.bind_some, lowRess_le h2]; exact g2
  | exit id => cases g2
end Go.Shade
/- SHADE, part 30: the rules by which low code is computed with 'simp'. -/
namespace Go.Shade
open Go.RowKit
set_option linter.unusedSimpArgs false
set_option linter.unusedVariables false

/-- What follows a value that is first made plain. -/
def ob {α β : Type} (o : Option α) (f : α → Option β) : Option β := o.bind f
@[congr] theorem ob_congr {α β : Type} {o o' : Option α} {f : α → Option β} (h : o = o') : ob o f = ob o' f := by rw [h]
@[go_sem ↓] theorem ob_some {α β : Type} {v : α} {f : α → Option β} : ob (some v) f = f v := id rfl
@[go_sem ↓] theorem ob_none {α β : Type} {f : α → Option β} : ob none f = none := id rfl
theorem ob_ob {α β γ : Type} {o : Option α} {f : α → Option β} {g : β → Option γ} : ob (ob o f) g = ob o fun x => ob (f x) g := Option.bind_assoc ..
theorem ob_eq {α β : Type} {o : Option α} {f : α → Option β} : ob o f = o.bind f := id rfl
@[congr] theorem lops_congr {cal : FuncId → Bool} {φ : Oracle} {l : List LO} {σ : Sg} {H H' : Heap} (h : H = H') : lops cal φ l σ H = lops cal φ l σ H' := by rw [h]
@[congr] theorem ldraw_congr {cal : FuncId → Bool} {φ : Oracle} {l : List LO} {ps : List (Nat × Nat)} {σ : Sg} {H H' : Heap} (h : H = H') : ldraw cal φ l ps σ H = ldraw cal φ l ps σ H' := by rw [h]
@[congr] theorem lxd_congr {cal : FuncId → Bool} {φ : Oracle} {c : LC} {σ : Sg} {H H' : Heap} (h : H = H') : lxd cal φ c σ H = lxd cal φ c σ H' := by rw [h]
@[congr] theorem pThen_congr {r r' : Option (IX × Sg × Heap)} {f : PBody} (h : r = r') : pThen r f = pThen r' f := by rw [h]
@[congr] theorem lIf_congr {v v' : IV} {a b : Option (IX × Sg × Heap)} (h : v = v') : lIf v a b = lIf v' a b := by rw [h]
/-- A choice whose branches wait. -/
def gd {α : Type} (b : Bool) (x y : Option α) : Option α := if b = true then x else y
@[congr] theorem gd_congr {α : Type} {b b' : Bool} {x y : Option α} (h : b = b') : gd b x y = gd b' x y := by rw [h]
@[go_sem ↓] theorem gd_true {α : Type} {x y : Option α} : gd true x y = x := id rfl
@[go_sem ↓] theorem gd_false {α : Type} {x y : Option α} : gd false x y = y := id rfl
@[go_sem] theorem lIf_gd {t : Bool} {a b : Option (IX × Sg × Heap)} : lIf (.bool t) a b = gd t a b := id rfl

section
variable {cal : FuncId → Bool} {φ : Oracle} {σ : Sg} {H : Heap} {ps : List LO} {d : Nat} {d' : Option Nat} {op : LOp}
@[go_sem] theorem lops_nil : lops cal φ [] σ H = some (σ, H) := id rfl
@[go_sem] theorem isB_tt : isB (.bool true) true = true := id rfl
@[go_sem] theorem isB_tf : isB (.bool true) false = false := id rfl
@[go_sem] theorem isB_ft : isB (.bool false) true = false := id rfl
@[go_sem] theorem isB_ff : isB (.bool false) false = true := id rfl
@[go_sem] theorem lops_g {t : Nat} {w : Bool} : lops cal φ (⟨d', op, some (t, w)⟩ :: ps) σ H = gd (isB (lk σ t) w) (lops cal φ (⟨d', op, none⟩ :: ps) σ H) (lops cal φ ps (pput σ d' (.tuple [])) H) := by
  unfold gd
  simp only [lops, lopV]
  split <;> rfl
theorem lops_q (h : isLE op = false) : lops cal φ (⟨some d, op, none⟩ :: ps) σ H = ob (lq H σ op) fun v => lops cal φ ps ((d, v) :: σ) H := by
  simp only [lops, lopV, lstepV, lstep, h, Bool.false_eq_true, if_false, ob, pput]
  cases lq H σ op <;> rfl
theorem lops_e (h : isLE op = true) : lops cal φ (⟨d', op, none⟩ :: ps) σ H = ob (lstepV φ H (le cal H σ op)) fun r => lops cal φ ps (pput σ d' r.1) r.2 := by
  simp only [lops, lopV, lstep, h, if_true, ob]
-- quiet ones
@[go_sem] theorem lops_mv {x : LArg} : lops cal φ (⟨some d, .mv x, none⟩ :: ps) σ H = ob (some (la σ x)) fun v => lops cal φ ps ((d, v) :: σ) H := lops_q rfl
def lpick (c a b : IV) : Option IV := match c with
  | .bool true => some a
  | .bool false => some b
  | _ => none
@[go_sem] theorem lpick_true {a b : IV} : lpick (.bool true) a b = some a := id rfl
@[go_sem] theorem lpick_false {a b : IV} : lpick (.bool false) a b = some b := id rfl
@[go_sem] theorem lops_pick {c a b : LArg} : lops cal φ (⟨some d, .pick c a b, none⟩ :: ps) σ H = ob (lpick (la σ c) (la σ a) (la σ b)) fun v => lops cal φ ps ((d, v) :: σ) H := by rw [lops_q rfl]; rfl
@[go_sem] theorem lops_ld1 {a : LArg} : lops cal φ (⟨some d, .ld1 a, none⟩ :: ps) σ H = ob (lload1 H (la σ a)) fun v => lops cal φ ps ((d, v) :: σ) H := lops_q rfl
@[go_sem] theorem lops_ldn {n : Nat} {a : LArg} : lops cal φ (⟨some d, .ldn n a, none⟩ :: ps) σ H = ob (lloadn H n (la σ a)) fun v => lops cal φ ps ((d, v) :: σ) H := lops_q rfl
def lchk (v : IV) : Option IV := match v with
  | .ptr b o => some (.ptr b o)
  | .iface t v => some (.iface t v)
  | .func (.func f) a b => some (.func (.func f) a b)
  | _ => none
@[go_sem] theorem lchk_ptr {b o : Nat} : lchk (.ptr b o) = some (.ptr b o) := id rfl
@[go_sem] theorem lchk_iface {t : TypeId} {v : IV} : lchk (.iface t v) = some (.iface t v) := id rfl
@[go_sem] theorem lchk_func {f : FuncId} {a b : List IV} : lchk (.func (.func f) a b) = some (.func (.func f) a b) := id rfl
@[go_sem] theorem lops_chk {x : LArg} : lops cal φ (⟨some d, .chk x, none⟩ :: ps) σ H = ob (lchk (la σ x)) fun v => lops cal φ ps ((d, v) :: σ) H := by rw [lops_q rfl]; rfl
@[go_sem] theorem lops_bin {o : BinOp} {x y : LArg} : lops cal φ (⟨some d, .bin o x y, none⟩ :: ps) σ H = ob (lbin o (la σ x) (la σ y)) fun v => lops cal φ ps ((d, v) :: σ) H := lops_q rfl
def leqv (neg : Bool) (r : Option Bool) : Option IV := r.bind fun b => some (.bool (if neg then !b else b))
@[go_sem] theorem leqv_t {b : Bool} : leqv true (some b) = some (.bool (!b)) := id rfl
@[go_sem] theorem leqv_f {b : Bool} : leqv false (some b) = some (.bool b) := id rfl
@[go_sem] theorem lops_eqv {n : Bool} {e : LEq} {x y : LArg} : lops cal φ (⟨some d, .eqv n e x y, none⟩ :: ps) σ H = ob (leqv n (leq e (la σ x) (la σ y))) fun v => lops cal φ ps ((d, v) :: σ) H := lops_q rfl
@[go_sem] theorem lops_un {o : UnOp} {x : LArg} : lops cal φ (⟨some d, .un o x, none⟩ :: ps) σ H = ob (iun o (la σ x)) fun v => lops cal φ ps ((d, v) :: σ) H := lops_q rfl
@[go_sem] theorem iun_not {b : Bool} : iun .not (.bool b) = some (.bool (!b)) := id rfl
@[go_sem] theorem iun_neg {k : IntKind} {n : Int} : iun .neg (.int k n) = some (.int k (k.wrap (0 - n))) := id rfl
def lcvt (k : IntKind) (v : IV) : Option IV := match v with
  | .int _ n => some (.int k (k.wrap n))
  | _ => none
@[go_sem] theorem lcvt_int {k k' : IntKind} {n : Int} : lcvt k (.int k' n) = some (.int k (k.wrap n)) := id rfl
@[go_sem] theorem lops_cvt {k : IntKind} {x : LArg} : lops cal φ (⟨some d, .cvt k x, none⟩ :: ps) σ H = ob (lcvt k (la σ x)) fun v => lops cal φ ps ((d, v) :: σ) H := by rw [lops_q rfl]; rfl
def ls2s (v : IV) : Option IV := match v with
  | .str s => some (.str s)
  | _ => none
@[go_sem] theorem ls2s_str {s : List UInt8} : ls2s (.str s) = some (.str s) := id rfl
@[go_sem] theorem lops_s2s {x : LArg} : lops cal φ (⟨some d, .s2s x, none⟩ :: ps) σ H = ob (ls2s (la σ x)) fun v => lops cal φ ps ((d, v) :: σ) H := by rw [lops_q rfl]; rfl
def lb2s (H : Heap) (v : IV) : Option IV := match v with
  | .nilSlice => some (.str [])
  | .slice b o n lb ex sz => (lsl H 1 (.slice b o n lb ex sz) n).bind fun cs => (ibytes cs).bind fun l => some (.str l)
  | _ => none
@[go_sem] theorem lops_b2s {x : LArg} : lops cal φ (⟨some d, .b2s x, none⟩ :: ps) σ H = ob (lb2s H (la σ x)) fun v => lops cal φ ps ((d, v) :: σ) H := by rw [lops_q rfl]; rfl
@[go_sem] theorem lops_mkI {t : TypeId} {x : LArg} : lops cal φ (⟨some d, .mkI t x, none⟩ :: ps) σ H = ob (some (.iface t (la σ x))) fun v => lops cal φ ps ((d, v) :: σ) H := lops_q rfl
@[go_sem] theorem lops_mkF {f : Fn} {a b : List LArg} : lops cal φ (⟨some d, .mkF f a b, none⟩ :: ps) σ H = ob (some (.func f (las σ a) (las σ b))) fun v => lops cal φ ps ((d, v) :: σ) H := lops_q rfl
@[go_sem] theorem lops_slc {k : LSl} {x : LArg} {l h m : Option LArg} : lops cal φ (⟨some d, .slc k x l h m, none⟩ :: ps) σ H = ob (lslice H k (la σ x) (lop? σ l) (lop? σ h) (lop? σ m)) fun v => lops cal φ ps ((d, v) :: σ) H := lops_q rfl
def loff (v : IV) (k : Nat) : Option IV := match v with
  | .ptr b o => some (.ptr b (o + k))
  | _ => none
@[go_sem] theorem loff_ptr {b o k : Nat} : loff (.ptr b o) k = some (.ptr b (o + k)) := id rfl
@[go_sem] theorem lops_off {x : LArg} {k : Nat} : lops cal φ (⟨some d, .off x k, none⟩ :: ps) σ H = ob (loff (la σ x) k) fun v => lops cal φ ps ((d, v) :: σ) H := by rw [lops_q rfl]; rfl
def lfld1 (v : IV) (o : Nat) : Option IV := match v with
  | .agg cs => cs[o]?
  | _ => none
@[go_sem] theorem lfld1_agg {cs : List IV} {o : Nat} : lfld1 (.agg cs) o = cs[o]? := id rfl
@[go_sem] theorem lops_fld1 {x : LArg} {o : Nat} : lops cal φ (⟨some d, .fld1 x o, none⟩ :: ps) σ H = ob (lfld1 (la σ x) o) fun v => lops cal φ ps ((d, v) :: σ) H := by rw [lops_q rfl]; rfl
def lfldn (v : IV) (o n : Nat) : Option IV := match v with
  | .agg cs => if o + n ≤ cs.length then some (.agg ((cs.drop o).take n)) else none
  | _ => none
theorem lfldn_agg {cs : List IV} {o n : Nat} : lfldn (.agg cs) o n = if o + n ≤ cs.length then some (.agg ((cs.drop o).take n)) else none := id rfl
@[go_sem] theorem lops_fldn {x : LArg} {o n : Nat} : lops cal φ (⟨some d, .fldn x o n, none⟩ :: ps) σ H = ob (lfldn (la σ x) o n) fun v => lops cal φ ps ((d, v) :: σ) H := by rw [lops_q rfl]; rfl
def lix (s : Nat) (x i : IV) : Option IV := match x, i with
  | .slice b o n _ _ _, .int _ j => if 0 ≤ j ∧ j < n then some (.ptr b (o + j.toNat * s)) else none
  | _, _ => none
@[go_sem] theorem lix_slice {s b o n lb sz : Nat} {ex : Bool} {k : IntKind} {j : Int} : lix s (.slice b o n lb ex sz) (.int k j) = if 0 ≤ j ∧ j < n then some (.ptr b (o + j.toNat * s)) else none := id rfl
@[go_sem] theorem lops_ix {s : Nat} {x i : LArg} : lops cal φ (⟨some d, .ix s x i, none⟩ :: ps) σ H = ob (lix s (la σ x) (la σ i)) fun v => lops cal φ ps ((d, v) :: σ) H := by rw [lops_q rfl]; rfl
def lixa (n s : Nat) (x i : IV) : Option IV := match x, i with
  | .ptr b o, .int _ j => if 0 ≤ j ∧ j < n then some (.ptr b (o + j.toNat * s)) else none
  | _, _ => none
theorem lixa_ptr {n s b o : Nat} {k : IntKind} {j : Int} : lixa n s (.ptr b o) (.int k j) = if 0 ≤ j ∧ j < n then some (.ptr b (o + j.toNat * s)) else none := id rfl
@[go_sem] theorem lops_ixa {n s : Nat} {x i : LArg} : lops cal φ (⟨some d, .ixa n s x i, none⟩ :: ps) σ H = ob (lixa n s (la σ x) (la σ i)) fun v => lops cal φ ps ((d, v) :: σ) H := by rw [lops_q rfl]; rfl
def lixs (x i : IV) : Option IV := match x, i with
  | .str s, .int _ j => if 0 ≤ j then (s[j.toNat]?).bind fun c => some (.int .u8 c.toNat) else none
  | _, _ => none
theorem lixs_str {s : List UInt8} {k : IntKind} {j : Int} : lixs (.str s) (.int k j) = if 0 ≤ j then (s[j.toNat]?).bind fun c => some (.int .u8 c.toNat) else none := id rfl
@[go_sem] theorem lops_ixs {x i : LArg} : lops cal φ (⟨some d, .ixs x i, none⟩ :: ps) σ H = ob (lixs (la σ x) (la σ i)) fun v => lops cal φ ps ((d, v) :: σ) H := by rw [lops_q rfl]; rfl
@[go_sem] theorem lops_lkp {k : LS} {z : IV} {ok : Bool} {x i : LArg} : lops cal φ (⟨some d, .lkp k z ok x i, none⟩ :: ps) σ H = ob (llookup H k z ok (la σ x) (la σ i)) fun v => lops cal φ ps ((d, v) :: σ) H := lops_q rfl
@[go_sem] theorem iextract_tuple {vs : List IV} {i : Nat} : iextract (.tuple vs) i = vs[i]? := id rfl
@[go_sem] theorem lops_ext {x : LArg} {i : Nat} : lops cal φ (⟨some d, .ext x i, none⟩ :: ps) σ H = ob (iextract (la σ x) i) fun v => lops cal φ ps ((d, v) :: σ) H := lops_q rfl
@[go_sem] theorem lops_bld {z : List IV} {l : List (Nat × Nat × LArg)} : lops cal φ (⟨some d, .bld z l, none⟩ :: ps) σ H = ob (ob (lfill z (lparts σ l)) fun r => some (.agg r)) fun v => lops cal φ ps ((d, v) :: σ) H := lops_q rfl
@[go_sem] theorem lops_ent {x : LArg} : lops cal φ (⟨some d, .ent x, none⟩ :: ps) σ H = ob (ientry H (la σ x)) fun v => lops cal φ ps ((d, v) :: σ) H := lops_q rfl
@[go_sem] theorem lops_len {l : LLen} {x : LArg} : lops cal φ (⟨some d, .len l x, none⟩ :: ps) σ H = ob (llen H l (la σ x)) fun v => lops cal φ ps ((d, v) :: σ) H := lops_q rfl
@[go_sem] theorem llen_str {s : List UInt8} : llen H .str (.str s) = some (.int .i64 s.length) := id rfl
@[go_sem] theorem llen_slice {b o n lb sz : Nat} {ex : Bool} : llen H .slice (.slice b o n lb ex sz) = some (.int .i64 n) := id rfl
@[go_sem] theorem llen_nil : llen H .slice .nilSlice = some (.int .i64 0) := id rfl
@[go_sem] theorem lops_fold {m : Bool} {x : LArg} {ys : List LArg} : lops cal φ (⟨some d, .fold m x ys, none⟩ :: ps) σ H = ob (ifold (if m then imax2 else imin2) (la σ x) (las σ ys)) fun v => lops cal φ ps ((d, v) :: σ) H := lops_q rfl
-- those that change the heap
def lbox (H : Heap) (v : IV) : Option (IV × Heap) := if isTuple v = false ∧ v.cells.all IV.one = true then some (.ptr H.length 0, H ++ [.row v.cells false]) else none
@[go_sem] theorem lops_box {x : LArg} : lops cal φ (⟨some d, .box x, none⟩ :: ps) σ H = ob (lbox H (la σ x)) fun r => lops cal φ ps ((d, r.1) :: σ) r.2 := by
  rw [lops_e rfl]
  simp only [le, lbox, ibox, ob]
  split <;> rfl
theorem lbox_one {v : IV} (h : v.one = true) : lbox H v = some (.ptr H.length 0, H ++ [.row [v] false]) := by
  cases v <;> first | rfl | (simp [IV.one] at h)
theorem lbox_agg {cs : List IV} (h : cs.all IV.one = true) : lbox H (.agg cs) = some (.ptr H.length 0, H ++ [.row cs false]) := by
  simp only [lbox, isTuple, IV.cells, h, and_self, if_true]
theorem one_int {k : IntKind} {n : Int} : IV.one (.int k n) = true := id rfl
theorem one_bool {b : Bool} : IV.one (.bool b) = true := id rfl
theorem one_str {s : List UInt8} : IV.one (.str s) = true := id rfl
theorem one_ptr {b o : Nat} : IV.one (.ptr b o) = true := id rfl
theorem one_nilPtr : IV.one .nilPtr = true := id rfl
theorem one_slice {b o n lb sz : Nat} {ex : Bool} : IV.one (.slice b o n lb ex sz) = true := id rfl
theorem one_nilSlice : IV.one .nilSlice = true := id rfl
theorem one_map {r : Nat} : IV.one (.map r) = true := id rfl
theorem one_nilMap : IV.one .nilMap = true := id rfl
theorem one_func {f : Fn} {a b : List IV} : IV.one (.func f a b) = true := id rfl
theorem one_nilFunc : IV.one .nilFunc = true := id rfl
theorem one_iface {t : TypeId} {v : IV} : IV.one (.iface t v) = true := id rfl
theorem one_nilIface : IV.one .nilIface = true := id rfl
/-- What lies at a place of the heap. -/
def og1 (o : Option IObj) (i : Nat) : Option IV := match o with
  | some (.row cs _) => cs[i]?
  | _ => none
def ogn (o : Option IObj) (i n : Nat) : Option IV := match o with
  | some (.row cs _) => if i + n ≤ cs.length then some (.agg ((cs.drop i).take n)) else none
  | _ => none
theorem og1_row {cs : List IV} {ro : Bool} {i : Nat} : og1 (some (.row cs ro)) i = cs[i]? := id rfl
theorem ogn_row {cs : List IV} {ro : Bool} {i n : Nat} : ogn (some (.row cs ro)) i n = if i + n ≤ cs.length then some (.agg ((cs.drop i).take n)) else none := id rfl
theorem lload1_ptr {b o : Nat} : lload1 H (.ptr b o) = og1 (H[b]?) o := id rfl
theorem lloadn_ptr {b o n : Nat} : lloadn H n (.ptr b o) = ogn (H[b]?) o n := id rfl
def putO (o : Option IObj) (b i n : Nat) (x : IV) (H : Heap) : Option Heap := match o with
  | some (.row cs false) => if isTuple x = false ∧ x.cells.length = n ∧ i + x.cells.length ≤ cs.length ∧ x.cells.all IV.one = true then some (H.set b (.row (putAt cs i x.cells) false)) else none
  | _ => none
theorem lstore_ptr {b o n : Nat} {x : IV} : lstore H n (.ptr b o) x = putO (H[b]?) b o n x H := id rfl
theorem putO_one {b i : Nat} {x : IV} {cs : List IV} (h : x.one = true) (hi : i < cs.length) : putO (some (.row cs false)) b i 1 x H = some (H.set b (.row (cs.set i x) false)) := by
  have hc : x.cells = [x] := by cases x <;> first | rfl | (simp [IV.one] at h)
  have ht : isTuple x = false := by cases x <;> first | rfl | (simp [IV.one] at h)
  unfold putO
  simp only [hc, ht]
  rw [if_pos (by simp [h]; omega)]
  rfl
theorem putO_all {b n : Nat} {xs cs : List IV} (h : xs.all IV.one = true) (hn : xs.length = n) (hc : cs.length = n) : putO (some (.row cs false)) b 0 n (.agg xs) H = some (H.set b (.row xs false)) := by
  unfold putO
  simp only [IV.cells, isTuple]
  rw [if_pos ⟨trivial, hn, by omega, h⟩]
  refine congrArg (fun l => some (H.set b (.row l false))) ?_
  apply List.ext_getElem?
  intro j
  rw [putAt_get (by omega)]
  by_cases e : j < xs.length
  · rw [if_pos (by omega)]; simp
  · rw [if_neg (by omega), List.getElem?_eq_none (by omega), List.getElem?_eq_none (by omega)]
theorem at_new {X : Heap} : (H ++ X)[H.length]? = X[0]? := by rw [List.getElem?_append_right (Nat.le_refl _), Nat.sub_self]
theorem at_newk {X : Heap} {k : Nat} : (H ++ X)[H.length + k]? = X[k]? := by rw [List.getElem?_append_right (by omega), Nat.add_sub_cancel_left]
theorem set_new {X : Heap} {o : IObj} : (H ++ X).set H.length o = H ++ X.set 0 o := by rw [List.set_append_right _ _ (Nat.le_refl _), Nat.sub_self]
theorem set_newk {X : Heap} {k : Nat} {o : IObj} : (H ++ X).set (H.length + k) o = H ++ X.set k o := by rw [List.set_append_right _ _ (by omega), Nat.add_sub_cancel_left]
theorem len_new {X : Heap} : (H ++ X).length = H.length + X.length := List.length_append
attribute [go_sem] lbox_one lbox_agg one_int one_bool one_str one_ptr one_nilPtr one_slice one_nilSlice one_map one_nilMap one_func one_nilFunc one_iface one_nilIface og1_row ogn_row lload1_ptr lloadn_ptr lstore_ptr putO_one putO_all at_new at_newk set_new set_newk len_new List.append_assoc List.cons_append List.nil_append List.length_cons List.length_nil List.set_cons_zero List.set_cons_succ List.all_cons List.all_nil List.drop_zero List.drop_succ_cons List.take_succ_cons List.take_zero
@[go_sem] theorem lops_zbox {z : IV} : lops cal φ (⟨some d, .zbox z, none⟩ :: ps) σ H = lops cal φ ps ((d, .ptr H.length 0) :: σ) (H ++ [.row z.cells false]) := lops_e rfl
def lbldS (H : Heap) (s n : Nat) (z : List IV) (l : List (Nat × IV)) : Option (IV × Heap) := (ifill (fun i => some (i * s, s)) (zrep n z) l).bind fun cells =>
    if cells.all IV.one = true ∧ cells.length = n * s then some (.slice H.length 0 n n true s, H ++ [.row cells false]) else none
@[go_sem] theorem lops_bldS {s n : Nat} {z : List IV} {l : List (Nat × LArg)} : lops cal φ (⟨some d, .bldS s n z l, none⟩ :: ps) σ H = ob (lbldS H s n z (lps σ l)) fun r => lops cal φ ps ((d, r.1) :: σ) r.2 := by
  rw [lops_e rfl]
  simp only [le, lbldS, ob]
  cases ifill (fun i => some (i * s, s)) (zrep n z) (lps σ l) with
  | none => rfl
  | some c =>
    simp only [Option.bind_some]
    split <;> rfl
@[go_sem] theorem lops_st {n : Nat} {a x : LArg} : lops cal φ (⟨none, .st n a x, none⟩ :: ps) σ H = ob (lstore H n (la σ a) (la σ x)) fun H' => lops cal φ ps σ H' := by
  rw [lops_e rfl]
  simp only [le, ob]
  cases lstore H n (la σ a) (la σ x) <;> rfl
@[go_sem] theorem lops_mkM : lops cal φ (⟨some d, .mkM, none⟩ :: ps) σ H = lops cal φ ps ((d, .map H.length) :: σ) (H ++ [.map [] 0]) := lops_e rfl
def lapp (H : Heap) (s b : Nat) (d x : IV) : Option (IV × Heap) := match lappend H s b d x with
  | some (.val v, H') => some (v, H')
  | _ => none
theorem lappend_val {s b : Nat} {d x : IV} {r : INext × Heap} (h : lappend H s b d x = some r) : ∃ v H', r = (.val v, H') := by
  unfold lappend at h
  obtain ⟨n, _, h⟩ := oB h
  have fr : ∀ {H : Heap} {old new : List IV} {k : Nat}, lfresh s b H old new k = some r → ∃ v H', r = (.val v, H') := by
    intro H old new k h
    unfold lfresh at h
    split at h
    · cases h; exact ⟨_, _, rfl⟩
    · cases h
  split at h
  · split at h
    · cases h; exact ⟨_, _, rfl⟩
    · cases h; exact ⟨_, _, rfl⟩
    · cases h
  · obtain ⟨new, _, h⟩ := oB h
    split at h
    · split at h
      · exact fr h
      · split at h
        · split at h
          · split at h
            · cases h; exact ⟨_, _, rfl⟩
            · cases h
          · cases h
        · obtain ⟨old, _, h⟩ := oB h
          split at h
          · exact fr h
          · split at h
            · split at h
              · exact fr h
              · cases h
            · cases h
      · cases h
    · cases h
@[go_sem] theorem lops_app {s b : Nat} {x y : LArg} : lops cal φ (⟨some d, .app s b x y, none⟩ :: ps) σ H = ob (lapp H s b (la σ x) (la σ y)) fun r => lops cal φ ps ((d, r.1) :: σ) r.2 := by
  rw [lops_e rfl]
  simp only [le, ob, lapp]
  cases h : lappend H s b (la σ x) (la σ y) with
  | none => rfl
  | some r => obtain ⟨v, H', rfl⟩ := lappend_val h; rfl
@[go_sem] theorem lops_callF {g : FuncId} {as : List LArg} : lops cal φ (⟨d', .callF g as, none⟩ :: ps) σ H = ob (φ g (las σ as) H) fun r => lops cal φ ps (pput σ d' r.1) r.2 := by
  rw [lops_e rfl]; rfl
def lcallV (cal : FuncId → Bool) (φ : Oracle) (H : Heap) (f : IV) (as : List IV) : Option (IV × Heap) := match f with
  | .func (.func g) first cap => if cal g = true then φ g (first ++ as ++ cap) H else none
  | _ => none
theorem lcallV_func {g : FuncId} {first cap as : List IV} (h : cal g = true) : lcallV cal φ H (.func (.func g) first cap) as = φ g (first ++ as ++ cap) H := by simp only [lcallV, h, if_true]
@[go_sem] theorem lops_callV {f : LArg} {as : List LArg} : lops cal φ (⟨d', .callV f as, none⟩ :: ps) σ H = ob (lcallV cal φ H (la σ f) (las σ as)) fun r => lops cal φ ps (pput σ d' r.1) r.2 := by
  rw [lops_e rfl]
  simp only [le, ob, lcallV]
  cases la σ f with
  | func fn first cap =>
    cases fn with
    | func g => simp only; split <;> rfl
    | _ => rfl
  | _ => rfl
-- slots
@[go_sem] theorem lk_hit {v : IV} {r : Sg} {t : Nat} : lk ((t, v) :: r) t = v := by simp [lk]
@[go_sem] theorem lk_miss {v : IV} {r : Sg} {s t : Nat} (h : (s == t) = false) : lk ((s, v) :: r) t = lk r t := by simp [lk, h]
@[go_sem] theorem la_t {n : Nat} : la σ (.t n) = lk σ n := id rfl
@[go_sem] theorem la_k {v : IV} : la σ (.k v) = v := id rfl
@[go_sem] theorem la_f {g : FuncId} : la σ (.f g) = .func (.func g) [] [] := id rfl
@[go_sem] theorem las_nil : las σ [] = [] := id rfl
@[go_sem] theorem las_cons {x : LArg} {xs : List LArg} : las σ (x :: xs) = la σ x :: las σ xs := id rfl
@[go_sem] theorem lopt_none : lop? σ none = none := id rfl
@[go_sem] theorem lopt_some {x : LArg} : lop? σ (some x) = some (la σ x) := id rfl
@[go_sem] theorem lparts_nil : lparts σ [] = [] := id rfl
@[go_sem] theorem lparts_cons {o s : Nat} {x : LArg} {r : List (Nat × Nat × LArg)} : lparts σ ((o, s, x) :: r) = (o, s, la σ x) :: lparts σ r := id rfl
@[go_sem] theorem lps_nil : lps σ [] = [] := id rfl
@[go_sem] theorem lps_cons {o : Nat} {x : LArg} {r : List (Nat × LArg)} : lps σ ((o, x) :: r) = (o, la σ x) :: lps σ r := id rfl
@[go_sem] theorem pput_some {v : IV} : pput σ (some d) v = (d, v) :: σ := id rfl
@[go_sem] theorem pput_none {v : IV} : pput σ none v = σ := id rfl
-- code
@[go_sem] theorem xReg {l : List LO} : lxd cal φ (.reg l) σ H = ob (lops cal φ l σ H) fun r => some (.normal, r.1, r.2) := lxd_reg
@[go_sem] theorem xDrw0 {l : List LO} : lxd cal φ (.drw l []) σ H = ob (lops cal φ l σ H) fun r => some (.normal, r.1, r.2) := lxd_drw
@[go_sem] theorem xSeq {a b : LC} : lxd cal φ (.seq a b) σ H = pThen (lxd cal φ a σ H) (lxd cal φ b) := lxd_seq
@[go_sem] theorem xCond {c : LArg} {a b : LC} : lxd cal φ (.cond c a b) σ H = lIf (la σ c) (lxd cal φ a σ H) (lxd cal φ b σ H) := lxd_cond
@[go_sem] theorem xBlock {id : Nat} {a : LC} : lxd cal φ (.block id a) σ H = pBlock id (lxd cal φ a σ H) := lxd_block
@[go_sem] theorem pBlock_hit {id : Nat} : pBlock id (some (.exit id, σ, H)) = some (.normal, σ, H) := by rw [pBlock_exit, if_pos rfl]
@[go_sem] theorem pBlock_miss {id id' : Nat} (h : (id' == id) = false) : pBlock id (some (.exit id', σ, H)) = some (.exit id', σ, H) := by rw [pBlock_exit, if_neg (by simpa using h)]
@[go_sem] theorem lbackRet {rs : List LRes} : lback rs (some (.ret, σ, H)) = ob (lresults σ H rs) fun vs => some (pack vs, H) := id rfl
@[go_sem] theorem lbackNormal {rs : List LRes} : lback rs (some (.normal, σ, H)) = ob (lresults σ H rs) fun vs => some (pack vs, H) := id rfl
@[go_sem] theorem lres_nil : lresults σ H [] = some [] := id rfl
@[go_sem] theorem lres_cons {r : LRes} {rs : List LRes} : lresults σ H (r :: rs) = ob (lresult σ H r) fun v => ob (lresults σ H rs) fun vs => some (v :: vs) := id rfl
@[go_sem] theorem lres_tmp {t : Nat} : lresult σ H (.tmp t) = some (lk σ t) := id rfl
@[go_sem] theorem lres_cell {t : Nat} : lresult σ H (.cell1 t) = lload1 H (lk σ t) := id rfl
@[go_sem] theorem pack_one {v : IV} : pack [v] = v := id rfl
@[go_sem] theorem pack_two {a b : IV} : pack [a, b] = .tuple [a, b] := id rfl
@[go_sem] theorem pack_three {a b c : IV} : pack [a, b, c] = .tuple [a, b, c] := id rfl
@[go_sem] theorem pack_zero : pack [] = .tuple [] := id rfl
-- numbers
theorem lbin_int {o : BinOp} {k : IntKind} {a b : Int} (h : o ≠ .shl ∧ o ≠ .shr) : lbin o (.int k a) (.int k b) = iarith o k a b := by
  unfold lbin
  obtain ⟨h1, h2⟩ := h
  cases o <;> simp_all
@[go_sem] theorem lbin_add {k : IntKind} {a b : Int} : lbin .add (.int k a) (.int k b) = some (.int k (k.wrap (a + b))) := by simp [lbin, iarith]
@[go_sem] theorem lbin_sub {k : IntKind} {a b : Int} : lbin .sub (.int k a) (.int k b) = some (.int k (k.wrap (a - b))) := by simp [lbin, iarith]
@[go_sem] theorem lbin_mul {k : IntKind} {a b : Int} : lbin .mul (.int k a) (.int k b) = some (.int k (k.wrap (a * b))) := by simp [lbin, iarith]
@[go_sem] theorem lbin_quo {k : IntKind} {a b : Int} (h : b ≠ 0) : lbin .quo (.int k a) (.int k b) = some (.int k (k.wrap (a.tdiv b))) := by simp [lbin, iarith, h]
@[go_sem] theorem lbin_rem {k : IntKind} {a b : Int} (h : b ≠ 0) : lbin .rem (.int k a) (.int k b) = some (.int k (a.tmod b)) := by simp [lbin, iarith, h]
@[go_sem] theorem lbin_shl {k k' : IntKind} {a b : Int} (h : ¬ b < 0) : lbin .shl (.int k a) (.int k' b) = some (.int k (k.wrap (a * 2 ^ (min b.toNat k.bits)))) := by simp [lbin, ishift, h]
@[go_sem] theorem lbin_shr {k k' : IntKind} {a b : Int} (h : ¬ b < 0) : lbin .shr (.int k a) (.int k' b) = some (.int k (a.fdiv (2 ^ (min b.toNat k.bits)))) := by simp [lbin, ishift, h]
@[go_sem] theorem lbin_eql {k : IntKind} {a b : Int} : lbin .eql (.int k a) (.int k b) = some (.bool (decide (a = b))) := by simp [lbin, iarith]; rfl
@[go_sem] theorem lbin_neq {k : IntKind} {a b : Int} : lbin .neq (.int k a) (.int k b) = some (.bool (!decide (a = b))) := by simp [lbin, iarith]; rfl
@[go_sem] theorem lbin_lss {k : IntKind} {a b : Int} : lbin .lss (.int k a) (.int k b) = some (.bool (decide (a < b))) := by simp [lbin, iarith]
@[go_sem] theorem lbin_leq {k : IntKind} {a b : Int} : lbin .leq (.int k a) (.int k b) = some (.bool (decide (a ≤ b))) := by simp [lbin, iarith]
@[go_sem] theorem lbin_gtr {k : IntKind} {a b : Int} : lbin .gtr (.int k a) (.int k b) = some (.bool (decide (b < a))) := by simp [lbin, iarith]
@[go_sem] theorem lbin_geq {k : IntKind} {a b : Int} : lbin .geq (.int k a) (.int k b) = some (.bool (decide (b ≤ a))) := by simp [lbin, iarith]
theorem beqDec {a b : List UInt8} : (a == b) = decide (a = b) := by
  by_cases h : a = b
  · subst h; simp
  · rw [decide_eq_false h]; simpa using h
@[go_sem] theorem lbin_seq {a b : List UInt8} : lbin .eql (.str a) (.str b) = some (.bool (decide (a = b))) := by simp only [lbin, istr, beqDec]
@[go_sem] theorem lbin_sneq {a b : List UInt8} : lbin .neq (.str a) (.str b) = some (.bool (!decide (a = b))) := by simp only [lbin, istr, beqDec]
@[go_sem] theorem leq_bool {a b : Bool} : leq .bool (.bool a) (.bool b) = some (a == b) := id rfl
end
theorem ini_nil {i : Nat} : initFrom i [] = [] := id rfl
theorem ini_cons {i : Nat} {v : IV} {vs : List IV} : initFrom i (v :: vs) = (i, v) :: initFrom (i + 1) vs := id rfl
attribute [go_sem] Bool.not_true Bool.not_false Bool.true_and Bool.false_and Bool.and_true Bool.and_false List.getElem?_cons_succ List.getElem?_cons_zero ini_nil ini_cons lxd_skip lxd_exit lxd_ret pThen_normal pThen_ret pThen_exit pBlock_normal pBlock_ret
end Go.Shade
/- SHADE, part 31: an ideal heap may be put in another order, and what isn't wanted let go; tables that grow. -/
namespace Go.Shade
open Go.RowKit
set_option linter.unusedSimpArgs false
set_option linter.unusedVariables false

mutual
/-- A value with its places renamed. -/
def ren (f : Nat → Nat) : IV → IV
  | .ptr b o => .ptr (f b) o
  | .slice b o n lb ex sz => .slice (f b) o n lb ex sz
  | .map r => .map (f r)
  | .func g a b => .func g (rens f a) (rens f b)
  | .iface t v => .iface t (ren f v)
  | .agg cs => .agg (rens f cs)
  | .tuple vs => .tuple (rens f vs)
  | .bool b => .bool b
  | .int k n => .int k n
  | .str s => .str s
  | .nilPtr => .nilPtr
  | .nilSlice => .nilSlice
  | .nilMap => .nilMap
  | .nilFunc => .nilFunc
  | .nilIface => .nilIface
def rens (f : Nat → Nat) : List IV → List IV
  | [] => []
  | v :: vs => ren f v :: rens f vs
end
mutual
/-- All places lie below n. -/
def inB (n : Nat) : IV → Bool
  | .ptr b _ => decide (b < n)
  | .slice b .. => decide (b < n)
  | .map r => decide (r < n)
  | .func _ a b => inBs n a && inBs n b
  | .iface _ v => inB n v
  | .agg cs => inBs n cs
  | .tuple vs => inBs n vs
  | _ => true
def inBs (n : Nat) : List IV → Bool
  | [] => true
  | v :: vs => inB n v && inBs n vs
end
def sub (n : Nat) (f : Nat → Nat) (m : Mp) : Mp := fun i => if i < n then m (f i) else none
mutual
theorem VR_ren {n : Nat} {f : Nat → Nat} {m : Mp} : ∀ (v : IV) (u : Value), inB n v = true → VR m (ren f v) u → VR (sub n f m) v u
  | .ptr b o, u, hb, h => by
    simp only [inB, decide_eq_true_eq] at hb
    simp only [ren, VR] at h ⊢
    obtain ⟨l, h1, h2⟩ := h
    exact ⟨l, by simp only [sub, if_pos hb]; exact h1, h2⟩
  | .slice b o k lb ex sz, u, hb, h => by
    simp only [inB, decide_eq_true_eq] at hb
    simp only [ren, VR] at h ⊢
    obtain ⟨l, o', c, sp, h1, h2⟩ := h
    exact ⟨l, o', c, sp, by simp only [sub, if_pos hb]; exact h1, h2⟩
  | .map r, u, hb, h => by
    simp only [inB, decide_eq_true_eq] at hb
    simp only [ren, VR] at h ⊢
    obtain ⟨l, h1, h2⟩ := h
    exact ⟨l, by simp only [sub, if_pos hb]; exact h1, h2⟩
  | .func g a b, u, hb, h => by
    simp only [inB, Bool.and_eq_true] at hb
    simp only [ren, VR] at h ⊢
    obtain ⟨a', b', h1, h2, h3⟩ := h
    exact ⟨a', b', h1, VRs_ren a _ hb.1 h2, VRs_ren b _ hb.2 h3⟩
  | .iface t v, u, hb, h => by
    simp only [inB] at hb
    simp only [ren, VR] at h ⊢
    obtain ⟨y, h1, h2⟩ := h
    exact ⟨y, h1, VR_ren v y hb h2⟩
  | .agg cs, u, hb, h => by
    simp only [inB] at hb
    simp only [ren, VR] at h ⊢
    obtain ⟨a, h1, h2⟩ := h
    exact ⟨a, h1, VRs_ren cs _ hb h2⟩
  | .tuple cs, u, hb, h => by
    simp only [inB] at hb
    simp only [ren, VR] at h ⊢
    obtain ⟨a, h1, h2⟩ := h
    exact ⟨a, h1, VRs_ren cs _ hb h2⟩
  | .bool b, u, _, h => by simpa [ren, VR] using h
  | .int k i, u, _, h => by simpa [ren, VR] using h
  | .str s, u, _, h => by simpa [ren, VR] using h
  | .nilPtr, u, _, h => by simpa [ren, VR] using h
  | .nilSlice, u, _, h => by simpa [ren, VR] using h
  | .nilMap, u, _, h => by simpa [ren, VR] using h
  | .nilFunc, u, _, h => by simpa [ren, VR] using h
  | .nilIface, u, _, h => by simpa [ren, VR] using h
theorem VRs_ren {n : Nat} {f : Nat → Nat} {m : Mp} : ∀ (vs : List IV) (us : List Value), inBs n vs = true → VRs m (rens f vs) us → VRs (sub n f m) vs us
  | [], us, _, h => by simpa [rens, VRs] using h
  | v :: vs, us, hb, h => by
    simp only [inBs, Bool.and_eq_true] at hb
    simp only [rens, VRs] at h ⊢
    obtain ⟨u, us', h1, h2, h3⟩ := h
    exact ⟨u, us', h1, VR_ren v u hb.1 h2, VRs_ren vs us' hb.2 h3⟩
end
theorem rens_get {f : Nat → Nat} : ∀ {vs : List IV} {i : Nat} {v : IV}, vs[i]? = some v → (rens f vs)[i]? = some (ren f v)
  | [], i, v, h => by simp at h
  | x :: vs, 0, v, h => by simp at h; subst h; rfl
  | x :: vs, i + 1, v, h => by simp only [List.getElem?_cons_succ] at h; simp only [rens, List.getElem?_cons_succ]; exact rens_get h
theorem rens_length {f : Nat → Nat} : ∀ {vs : List IV}, (rens f vs).length = vs.length
  | [] => rfl
  | _ :: vs => by simp [rens, rens_length (vs := vs)]
theorem inBs_get {n : Nat} : ∀ {vs : List IV} {i : Nat} {v : IV}, inBs n vs = true → vs[i]? = some v → inB n v = true
  | [], i, v, _, h => by simp at h
  | x :: vs, 0, v, hb, h => by simp only [inBs, Bool.and_eq_true] at hb; simp at h; subst h; exact hb.1
  | x :: vs, i + 1, v, hb, h => by simp only [inBs, Bool.and_eq_true] at hb; simp only [List.getElem?_cons_succ] at h; exact inBs_get hb.2 h
theorem ren_one {f : Nat → Nat} (v : IV) : (ren f v).one = v.one := by cases v <;> rfl
def renO (f : Nat → Nat) : IObj → IObj
  | .row cs ro => .row (rens f cs) ro
  | .map es c => .map (es.map fun e => (ren f e.1, ren f e.2.1, e.2.2)) c
  | .iter r s e a => .iter (r.map f) s e a
  | .dead => .dead
def inBO (n : Nat) : IObj → Bool
  | .row cs _ => inBs n cs
  | .map es _ => es.all fun e => inB n e.1 && inB n e.2.1
  | .iter r _ _ _ => match r with
    | some k => decide (k < n)
    | none => true
  | .dead => true
theorem Good_ren {B0 n : Nat} {f : Nat → Nat} {m : Mp} {w : World} {i : Nat} {o : IObj} (hi : i < n) (hb : inBO n o = true) (h : Good B0 m w (f i) (renO f o)) : Good B0 (sub n f m) w i o := by
  have hm : ∀ l, m (f i) = some l → sub n f m i = some l := fun l hl => by simp only [sub, if_pos hi]; exact hl
  cases o with
  | row cs ro =>
    simp only [inBO] at hb
    cases ro with
    | false =>
      obtain ⟨l, C, e, fr, h1, h2, h3, h4, h5, h6, h7⟩ := h
      refine ⟨l, C, e, fr, hm _ h1, h2, h3, by rw [rens_length] at h4; exact h4, h5, h6, fun j v hj => ?_⟩
      obtain ⟨g1, u, g2, g3⟩ := h7 j _ (rens_get hj)
      exact ⟨by rw [ren_one] at g1; exact g1, u, g2, VR_ren v u (inBs_get hb hj) g3⟩
    | true =>
      obtain ⟨l, h1, h2⟩ := h
      refine ⟨l, hm _ h1, fun hne => ?_⟩
      obtain ⟨C, e, fr, h3, h4, h7⟩ := h2 (by intro e; apply hne; have := congrArg List.length e; rw [rens_length] at this; exact List.length_eq_zero_iff.1 this)
      refine ⟨C, e, fr, h3, h4, fun j v hj => ?_⟩
      obtain ⟨g1, u, g2, g3⟩ := h7 j _ (rens_get hj)
      exact ⟨by rw [ren_one] at g1; exact g1, u, g2, VR_ren v u (inBs_get hb hj) g3⟩
  | map es c =>
    obtain ⟨l, es', h1, h2, h3, h4, h5⟩ := h
    refine ⟨l, es', hm _ h1, h2, h3, by simpa using h4, fun j x hj => ?_⟩
    obtain ⟨e, g1, g2, g3, g4⟩ := h5 j (ren f x.1, ren f x.2.1, x.2.2) (by simp [hj])
    have hx : inB n x.1 = true ∧ inB n x.2.1 = true := by
      simp only [inBO, List.all_eq_true] at hb
      have := hb x (List.mem_of_getElem? hj)
      simpa using this
    exact ⟨e, g1, VR_ren _ _ hx.1 g2, VR_ren _ _ hx.2 g3, g4⟩
  | iter r s e a =>
    obtain ⟨l, r', h1, h0, h2, h3, h4⟩ := h
    refine ⟨l, r', hm _ h1, h0, h2, h3, ?_⟩
    rcases h4 with ⟨h5, h6⟩ | ⟨k, lk, h5, h6, h7⟩
    · cases r with
      | none => exact .inl ⟨rfl, h6⟩
      | some k => cases h5
    · cases r with
      | none => cases h5
      | some k' =>
        simp only [Option.map_some, Option.some.injEq] at h5
        subst h5
        simp only [inBO, decide_eq_true_eq] at hb
        exact .inr ⟨k', lk, rfl, by simp only [sub, if_pos hb]; exact h6, h7⟩
  | dead => trivial
theorem Rel.gc {B0 : Nat} {w0 w : World} {m : Mp} {H K : Heap} (h : Rel B0 w0 m H w) (f : Nat → Nat) (hk : ∀ (i : Nat) o, K[i]? = some o → inBO K.length o = true ∧ H[f i]? = some (renO f o))
    (hinj : ∀ i j, i < K.length → j < K.length → i ≠ j → f i ≠ f j) : Rel B0 w0 (sub K.length f m) K w := by
  refine ⟨h.below, h.base, fun i l hi => ?_, fun i o hi => ?_, fun i j o p li lj hi hj ho hp hne hmi hmj => ?_⟩
  · simp only [sub] at hi
    split at hi
    · assumption
    · cases hi
  · obtain ⟨h1, h2⟩ := hk i o hi
    exact Good_ren (List.getElem?_eq_some_iff.1 hi).1 h1 (h.good _ _ h2)
  · obtain ⟨h1, h2⟩ := hk i o hi
    obtain ⟨h3, h4⟩ := hk j p hj
    have hil := (List.getElem?_eq_some_iff.1 hi).1
    have hjl := (List.getElem?_eq_some_iff.1 hj).1
    simp only [sub, if_pos hil] at hmi
    simp only [sub, if_pos hjl] at hmj
    have hh : ∀ {q : IObj}, q.held = true → (renO f q).held = true := by
      intro q hq; cases q with
      | row cs ro => cases ro <;> first | rfl | (simp [IObj.held] at hq)
      | map es c => rfl
      | iter r s e a => rfl
      | dead => simp [IObj.held] at hq
    exact h.inj _ _ _ _ li lj h2 h4 (hh ho) (hh hp) (hinj i j hil hjl hne) hmi hmj
/-- A call's outcome in another order. -/
theorem SimCall.gc {P : Program} {g : FuncId} {args : List IV} {H H' K : Heap} {r r' : IV} (h : SimCall P g args H r H') (f : Nat → Nat) (hf : ∀ i, i < H.length → f i = i) (hle : H.length ≤ K.length)
    (hk : ∀ (i : Nat) o, K[i]? = some o → inBO K.length o = true ∧ H'[f i]? = some (renO f o)) (hinj : ∀ i j, i < K.length → j < K.length → i ≠ j → f i ≠ f j) (hr : r = ren f r') (hb : inB K.length r' = true) : SimCall P g args H r' K := by
  intro B0 w0 w m us hR hA
  refine (h B0 w0 w m us hR hA).mono ?_
  rintro e w' ⟨m', u, he, hext, hR', hu⟩
  refine ⟨sub K.length f m', u, he, fun i l hi => ?_, hR'.gc f hk hinj, VR_ren r' u hb (hr ▸ hu)⟩
  have hlt := hR.dom i l hi
  simp only [sub, if_pos (Nat.lt_of_lt_of_le hlt hle), hf i hlt]
  exact hext i l hi

mutual
theorem VR_inB {n : Nat} {m : Mp} (hd : ∀ i l, m i = some l → i < n) : ∀ (v : IV) (u : Value), VR m v u → inB n v = true
  | .ptr b o, u, h => by
    simp only [VR] at h
    obtain ⟨l, h1, _⟩ := h
    simp only [inB, decide_eq_true_eq]; exact hd _ _ h1
  | .slice b o k lb ex sz, u, h => by
    simp only [VR] at h
    obtain ⟨l, o', c, sp, h1, _⟩ := h
    simp only [inB, decide_eq_true_eq]; exact hd _ _ h1
  | .map r, u, h => by
    simp only [VR] at h
    obtain ⟨l, h1, _⟩ := h
    simp only [inB, decide_eq_true_eq]; exact hd _ _ h1
  | .func g a b, u, h => by
    simp only [VR] at h
    obtain ⟨a', b', _, h2, h3⟩ := h
    simp only [inB, VRs_inB hd a _ h2, VRs_inB hd b _ h3, Bool.and_self]
  | .iface t v, u, h => by
    simp only [VR] at h
    obtain ⟨y, _, h2⟩ := h
    simp only [inB]; exact VR_inB hd v y h2
  | .agg cs, u, h => by
    simp only [VR] at h
    obtain ⟨a, _, h2⟩ := h
    simp only [inB]; exact VRs_inB hd cs _ h2
  | .tuple cs, u, h => by
    simp only [VR] at h
    obtain ⟨a, _, h2⟩ := h
    simp only [inB]; exact VRs_inB hd cs _ h2
  | .bool b, u, _ => rfl
  | .int k i, u, _ => rfl
  | .str s, u, _ => rfl
  | .nilPtr, u, _ => rfl
  | .nilSlice, u, _ => rfl
  | .nilMap, u, _ => rfl
  | .nilFunc, u, _ => rfl
  | .nilIface, u, _ => rfl
theorem VRs_inB {n : Nat} {m : Mp} (hd : ∀ i l, m i = some l → i < n) : ∀ (vs : List IV) (us : List Value), VRs m vs us → inBs n vs = true
  | [], us, _ => rfl
  | v :: vs, us, h => by
    simp only [VRs] at h
    obtain ⟨u, us', _, h2, h3⟩ := h
    simp only [inBs, VR_inB hd v u h2, VRs_inB hd vs us' h3, Bool.and_self]
end
mutual
theorem ren_id {n : Nat} {f : Nat → Nat} (hf : ∀ i, i < n → f i = i) : ∀ (v : IV), inB n v = true → ren f v = v
  | .ptr b o, h => by simp only [inB, decide_eq_true_eq] at h; simp only [ren, hf b h]
  | .slice b o k lb ex sz, h => by simp only [inB, decide_eq_true_eq] at h; simp only [ren, hf b h]
  | .map r, h => by simp only [inB, decide_eq_true_eq] at h; simp only [ren, hf r h]
  | .func g a b, h => by
    simp only [inB, Bool.and_eq_true] at h
    simp only [ren, rens_id hf a h.1, rens_id hf b h.2]
  | .iface t v, h => by simp only [inB] at h; simp only [ren, ren_id hf v h]
  | .agg cs, h => by simp only [inB] at h; simp only [ren, rens_id hf cs h]
  | .tuple cs, h => by simp only [inB] at h; simp only [ren, rens_id hf cs h]
  | .bool b, _ => rfl
  | .int k i, _ => rfl
  | .str s, _ => rfl
  | .nilPtr, _ => rfl
  | .nilSlice, _ => rfl
  | .nilMap, _ => rfl
  | .nilFunc, _ => rfl
  | .nilIface, _ => rfl
theorem rens_id {n : Nat} {f : Nat → Nat} (hf : ∀ i, i < n → f i = i) : ∀ (vs : List IV), inBs n vs = true → rens f vs = vs
  | [], _ => rfl
  | v :: vs, h => by
    simp only [inBs, Bool.and_eq_true] at h
    simp only [rens, ren_id hf v h.1, rens_id hf vs h.2]
end
mutual
theorem inB_le {n k : Nat} (h : n ≤ k) : ∀ (v : IV), inB n v = true → inB k v = true
  | .ptr b o, hv => by simp only [inB, decide_eq_true_eq] at hv ⊢; omega
  | .slice b o _ lb ex sz, hv => by simp only [inB, decide_eq_true_eq] at hv ⊢; omega
  | .map r, hv => by simp only [inB, decide_eq_true_eq] at hv ⊢; omega
  | .func g a b, hv => by
    simp only [inB, Bool.and_eq_true] at hv ⊢
    exact ⟨inBs_le h a hv.1, inBs_le h b hv.2⟩
  | .iface t v, hv => by simp only [inB] at hv ⊢; exact inB_le h v hv
  | .agg cs, hv => by simp only [inB] at hv ⊢; exact inBs_le h cs hv
  | .tuple cs, hv => by simp only [inB] at hv ⊢; exact inBs_le h cs hv
  | .bool b, _ => rfl
  | .int k i, _ => rfl
  | .str s, _ => rfl
  | .nilPtr, _ => rfl
  | .nilSlice, _ => rfl
  | .nilMap, _ => rfl
  | .nilFunc, _ => rfl
  | .nilIface, _ => rfl
theorem inBs_le {n k : Nat} (h : n ≤ k) : ∀ (vs : List IV), inBs n vs = true → inBs k vs = true
  | [], _ => rfl
  | v :: vs, hv => by
    simp only [inBs, Bool.and_eq_true] at hv ⊢
    exact ⟨inB_le h v hv.1, inBs_le h vs hv.2⟩
end
theorem inBs_of {n : Nat} : ∀ {vs : List IV}, (∀ (i : Nat) v, vs[i]? = some v → inB n v = true) → inBs n vs = true
  | [], _ => rfl
  | v :: vs, h => by
    simp only [inBs, Bool.and_eq_true]
    exact ⟨h 0 v rfl, inBs_of fun i x hx => h (i + 1) x (by simpa using hx)⟩
theorem Good.inBO {B0 n : Nat} {m : Mp} {w : World} {i : Nat} {o : IObj} (hd : ∀ i l, m i = some l → i < n) (h : Good B0 m w i o) : Shade.inBO n o = true := by
  cases o with
  | row cs ro =>
    cases ro with
    | false =>
      obtain ⟨l, C, e, fr, h1, h2, h3, h4, h5, h6, h7⟩ := h
      exact inBs_of fun j v hj => by obtain ⟨_, u, _, h9⟩ := h7 j v hj; exact VR_inB hd v u h9
    | true =>
      obtain ⟨l, h1, h2⟩ := h
      refine inBs_of fun j v hj => ?_
      obtain ⟨C, e, fr, _, _, h7⟩ := h2 (by intro e; subst e; simp at hj)
      obtain ⟨_, u, _, h9⟩ := h7 j v hj; exact VR_inB hd v u h9
  | map es c =>
    obtain ⟨l, es', h1, h2, h3, h4, h5⟩ := h
    simp only [Shade.inBO, List.all_eq_true, Bool.and_eq_true]
    intro x hx
    obtain ⟨j, hj⟩ := List.mem_iff_getElem?.1 hx
    obtain ⟨e, _, g2, g3, _⟩ := h5 j x hj
    exact ⟨VR_inB hd _ _ g2, VR_inB hd _ _ g3⟩
  | iter r s e a =>
    obtain ⟨l, r', h1, h0, h2, h3, h4⟩ := h
    rcases h4 with ⟨rfl, h6⟩ | ⟨k, lk, rfl, h6, h7⟩
    · rfl
    · exact decide_eq_true (hd _ _ h6)
  | dead => rfl
theorem renO_id {n : Nat} {f : Nat → Nat} (hf : ∀ i, i < n → f i = i) {o : IObj} (h : inBO n o = true) : renO f o = o := by
  cases o with
  | row cs ro => simp only [inBO] at h; simp only [renO, rens_id hf cs h]
  | map es c =>
    simp only [inBO, List.all_eq_true, Bool.and_eq_true] at h
    simp only [renO]
    congr 1
    have : es.map (fun e => (ren f e.1, ren f e.2.1, e.2.2)) = es.map id := by
      apply List.map_congr_left
      intro x hx
      obtain ⟨h1, h2⟩ := h x hx
      simp only [ren_id hf _ h1, ren_id hf _ h2]; rfl
    rw [this, List.map_id]
  | iter r s e a =>
    cases r with
    | none => rfl
    | some k =>
      simp only [inBO, decide_eq_true_eq] at h
      simp only [renO, Option.map_some, hf k h]
  | dead => rfl
theorem inBO_le {n k : Nat} (h : n ≤ k) {o : IObj} (ho : inBO n o = true) : inBO k o = true := by
  cases o with
  | row cs ro => exact inBs_le h cs ho
  | map es c =>
    simp only [inBO, List.all_eq_true, Bool.and_eq_true] at ho ⊢
    intro x hx
    exact ⟨inB_le h _ (ho x hx).1, inB_le h _ (ho x hx).2⟩
  | iter r s e a =>
    cases r with
    | none => rfl
    | some k => simp only [inBO, decide_eq_true_eq] at ho ⊢; omega
  | dead => rfl
/-- A call's outcome, cleaned: what was there as it was, or as is told; new rows in a new order. -/
theorem SimCall.clean {P : Program} {g : FuncId} {args : List IV} {H H1 K : Heap} {r r' : IV} (h : SimCall P g args H r H1) (f : Nat → Nat) (hf : ∀ i, i < H.length → f i = i) (hle : H.length ≤ K.length)
    (hk : ∀ (i : Nat) o, K[i]? = some o → (i < H.length ∧ H[i]? = some o ∧ H1[i]? = some o) ∨ (inBO K.length o = true ∧ H1[f i]? = some (renO f o))) (hinj : ∀ i j, i < K.length → j < K.length → i ≠ j → f i ≠ f j) (hr : r = ren f r') (hb : inB K.length r' = true) : SimCall P g args H r' K := by
  intro B0 w0 w m us hR hA
  refine (h B0 w0 w m us hR hA).mono ?_
  rintro e w' ⟨m', u, he, hext, hR', hu⟩
  have hk' : ∀ (i : Nat) o, K[i]? = some o → inBO K.length o = true ∧ H1[f i]? = some (renO f o) := by
    intro i o hi
    rcases hk i o hi with ⟨h1, h2, h3⟩ | h4
    · have hb := (hR.good i o h2).inBO hR.dom
      exact ⟨inBO_le hle hb, by rw [hf i h1, renO_id hf hb]; exact h3⟩
    · exact h4
  refine ⟨Shade.sub K.length f m', u, he, fun i l hi => ?_, hR'.gc f hk' hinj, VR_ren r' u hb (hr ▸ hu)⟩
  have hlt := hR.dom i l hi
  simp only [Shade.sub, if_pos (Nat.lt_of_lt_of_le hlt hle), hf i hlt]
  exact hext i l hi
/-- Nothing new is wanted. -/
theorem SimCall.drop {P : Program} {g : FuncId} {args : List IV} {H H1 : Heap} {r : IV} (h : SimCall P g args H r H1) (hk : ∀ (i : Nat) o, H[i]? = some o → H1[i]? = some o) (hb : inB 0 r = true) : SimCall P g args H r H :=
  h.clean id (fun _ _ => rfl) (Nat.le_refl _) (fun i o hi => .inl ⟨(List.getElem?_eq_some_iff.1 hi).1, hi, hk i o hi⟩) (fun _ _ _ _ h => h) (ren_id (n := 0) (fun _ h => absurd h (by omega)) r hb).symm (inB_le (Nat.zero_le _) r hb)
/-- One new row, without places in it. -/
theorem SimCall.one {P : Program} {g : FuncId} {args : List IV} {H H1 : Heap} {r r' : IV} {q : Nat} {cs : List IV} (h : SimCall P g args H r H1) (hk : ∀ (i : Nat) o, H[i]? = some o → H1[i]? = some o) (hq : H1[q]? = some (.row cs false)) (hge : H.length ≤ q) (hc : inBs 0 cs = true)
    (hr : r = ren (fun i => if i = H.length then q else i) r') (hb : inB (H.length + 1) r' = true) : SimCall P g args H r' (H ++ [.row cs false]) := by
  refine h.clean (fun i => if i = H.length then q else i) (fun i hi => if_neg (by omega)) (by simp) (fun i o hi => ?_) (fun i j hi hj hne => ?_) hr (by simpa using hb)
  · rw [List.getElem?_append] at hi
    split at hi
    · rename_i hlt; exact .inl ⟨hlt, hi, hk i o hi⟩
    · right
      have hz : i - H.length = 0 := by
        rcases Nat.eq_zero_or_pos (i - H.length) with e | e
        · exact e
        · rw [List.getElem?_eq_none (by simp; omega)] at hi; exact absurd hi (by simp)
      rw [hz] at hi; simp at hi; subst hi
      have hi' : i = H.length := by omega
      subst hi'
      refine ⟨inBs_le (Nat.zero_le _) cs hc, ?_⟩
      simp only [if_true, renO]
      rw [rens_id (n := 0) (fun _ h => absurd h (by omega)) cs hc]; exact hq
  · simp at hi hj
    by_cases e1 : i = H.length
    · rw [if_pos e1, if_neg (by omega)]; omega
    · rw [if_neg e1]
      by_cases e2 : j = H.length
      · rw [if_pos e2]; omega
      · rw [if_neg e2]; exact hne

theorem ren_idf : ∀ (v : IV), inB 0 v = true → ren (fun i => i) v = v := fun v h => ren_id (n := 0) (fun _ h => absurd h (by omega)) v h
/-- One row of what was there is changed. -/
theorem SimCall.upd {P : Program} {g : FuncId} {args : List IV} {H H1 : Heap} {r : IV} {p : Nat} {o : IObj} (h : SimCall P g args H r H1) (hk : ∀ (i : Nat) x, (H.set p o)[i]? = some x → H1[i]? = some x) (ho : inBO H.length o = true) (hb : inB H.length r = true) : SimCall P g args H r (H.set p o) := by
  refine h.clean (fun i => i) (fun _ _ => rfl) (by simp) (fun i x hi => ?_) (fun _ _ _ _ h => h) (ren_id (n := H.length) (fun _ _ => rfl) r hb).symm (by simpa using hb)
  by_cases e : p = i
  · subst e
    right
    have hi' := hi
    rw [List.getElem?_set, if_pos rfl] at hi'
    split at hi'
    · cases hi'
      refine ⟨by simpa using ho, ?_⟩
      rw [renO_id (n := H.length) (fun _ _ => rfl) ho]; exact hk _ _ hi
    · cases hi'
  · left
    have hi' := hi
    rw [List.getElem?_set_ne e] at hi'
    exact ⟨(List.getElem?_eq_some_iff.1 hi').1, hi', hk i x hi⟩

/-! ### tables -/
def ext (T : Table) (f : FuncId) (g : List IV → Heap → Option (IV × Heap)) : Table := fun x => if x = f then some g else T x
theorem soundExt {P : Program} {T : Table} {f : FuncId} {g : List IV → Heap → Option (IV × Heap)} (hT : SoundT P T) (h : ∀ args H r H', g args H = some (r, H') → SimCall P f args H r H') : SoundT P (ext T f g) := by
  intro x g' hx args H r H' e
  unfold ext at hx
  split at hx
  · rename_i e1; subst e1; cases hx; exact h args H r H' e
  · exact hT x g' hx args H r H' e
open Classical in
/-- A summary that is told by a relation. -/
noncomputable def tab (S : List IV → Heap → IV × Heap → Prop) : List IV → Heap → Option (IV × Heap) := fun args H => if h : ∃ x, S args H x then some (Classical.choose h) else none
theorem tab_eq {S : List IV → Heap → IV × Heap → Prop} {args : List IV} {H : Heap} {x : IV × Heap} (hf : ∀ x y, S args H x → S args H y → x = y) (h : S args H x) : tab S args H = some x := by
  unfold tab
  have hex : ∃ x, S args H x := ⟨x, h⟩
  rw [dif_pos hex, hf _ _ (Classical.choose_spec hex) h]
theorem tab_some {S : List IV → Heap → IV × Heap → Prop} {args : List IV} {H : Heap} {x : IV × Heap} (h : tab S args H = some x) : S args H x := by
  unfold tab at h
  split at h
  · rename_i hex; cases h; exact Classical.choose_spec hex
  · cases h
theorem SimCall.weak {P : Program} {g : FuncId} {args : List IV} {H H' : Heap} {r r' : IV} (h : SimCall P g args H r H') (hr : ∀ m u, VR m r u → VR m r' u) : SimCall P g args H r' H' := by
  intro B0 w0 w m us hR hA
  refine (h B0 w0 w m us hR hA).mono ?_
  rintro e w' ⟨m', u, he, hext, hR', hu⟩
  exact ⟨m', u, he, hext, hR', hr m' u hu⟩
theorem VR_exact {m : Mp} {b o n lb sz : Nat} {ex : Bool} {u : Value} (h : VR m (.slice b o n lb ex sz) u) : VR m (.slice b o n lb false sz) u := by
  simp only [VR] at h ⊢
  obtain ⟨l, o', c, sp, h1, h2, h3, h4, h5, h6, h7⟩ := h
  exact ⟨l, o', c, sp, h1, h2, h3, h4, (fun h => by cases h), h6, h7⟩
/-- From a function's low code, run with enough rounds, to a call. -/
theorem sim_low {P : Program} {T : Table} {cal : FuncId → Bool} (hT : SoundT P T) (hm : P.follows .mixedOrders = true) (hcal : ∀ g, cal g = true → callable P g = true) {f : FuncId} {fn : Func} {lf : LFun} (h : T f = none) (hf : P.funcs[f]? = some fn) (hc : lowF P fn = some lf) {args : List IV} {H H' : Heap} {r : IV} (hl : args.length ≤ lf.n) (hr : lrun cal (den P T) lf args H = some (r, H')) : SimCall P f args H r H' :=
  sound_den hT hm f args H r H' (low_den hcal h hf hc hl hr)
end Go.Shade
/- SHADE, part 32: low code with what follows handed on: it unfolds by itself to plain functions. -/
namespace Go.Shade
open Go.RowKit
set_option linter.unusedSimpArgs false
set_option linter.unusedVariables false

def lstV (H : Heap) (n : Nat) (a x : IV) : Option (IV × Heap) := match lstore H n a x with
  | some H' => some (.tuple [], H')
  | none => none
def lupdV (H : Heap) (k : LS) (d i x : IV) : Option (IV × Heap) := match lupdate H k d i x with
  | some H' => some (.tuple [], H')
  | none => none
def ldelV (H : Heap) (k : LS) (d i : IV) : Option (IV × Heap) := match ldelete H k d i with
  | some H' => some (.tuple [], H')
  | none => none
def lmkMn (H : Heap) (x : IV) : Option (IV × Heap) := match x with
  | .int .. => some (.map H.length, H ++ [.map [] 0])
  | _ => none
def lmkS (H : Heap) (s b : Nat) (z : List IV) (l c : IV) : Option (IV × Heap) := match l, c with
  | .int _ l, .int _ c => if 0 ≤ l ∧ l ≤ c ∧ b * c ≤ 281474976710656 ∧ c ≤ 9223372036854775807 then some (.slice H.length 0 l.toNat c.toNat true s, H ++ [.row (zrep c.toNat z) false]) else none
  | _, _ => none
def ls2b (H : Heap) (x : IV) : Option (IV × Heap) := match x with
  | .str l => some (.slice H.length 0 l.length l.length false 1, H ++ [.row (l.map fun b => .int .u8 b.toNat) false])
  | _ => none
def lcpy (H : Heap) (s : Nat) (d x : IV) : Option (IV × Heap) := match lcopy H s d x with
  | some (.val v, H') => some (v, H')
  | _ => none
def lclrM (H : Heap) (d : IV) : Option (IV × Heap) := match d with
  | .nilMap => some (.tuple [], H)
  | .map r => match H[r]? with
    | some (.map _ clock) => some (.tuple [], H.set r (.map [] clock))
    | _ => none
  | _ => none
def lclrS (H : Heap) (z : List IV) (d : IV) : Option (IV × Heap) := match d with
  | .nilSlice => some (.tuple [], H)
  | .slice b o n lb _ _ =>
    if n = 0 then some (.tuple [], H) else
    match H[b]? with
    | some (.row cs false) => if o + (zrep n z).length ≤ cs.length then some (.tuple [], H.set b (.row (putAt cs o (zrep n z)) false)) else none
    | _ => none
  | _ => none
/-- What changes the heap, as a value and a heap. -/
def leV (cal : FuncId → Bool) (φ : Oracle) (H : Heap) (σ : Sg) : LOp → Option (IV × Heap)
  | .box x => lbox H (la σ x)
  | .zbox z => some (.ptr H.length 0, H ++ [.row z.cells false])
  | .bldS s n z parts => lbldS H s n z (lps σ parts)
  | .st n a x => lstV H n (la σ a) (la σ x)
  | .mkM => some (.map H.length, H ++ [.map [] 0])
  | .mkMn x => lmkMn H (la σ x)
  | .mkS s b z l c => lmkS H s b z (la σ l) (la σ c)
  | .upd k d i x => lupdV H k (la σ d) (la σ i) (la σ x)
  | .s2b x => ls2b H (la σ x)
  | .app s b d x => lapp H s b (la σ d) (la σ x)
  | .cpy s d x => lcpy H s (la σ d) (la σ x)
  | .clrM d => lclrM H (la σ d)
  | .clrS z d => lclrS H z (la σ d)
  | .del k d i => ldelV H k (la σ d) (la σ i)
  | .callF g args => φ g (las σ args) H
  | .callV f args => lcallV cal φ H (la σ f) (las σ args)
  | _ => none
theorem lcopy_val {H : Heap} {s : Nat} {d x : IV} {r : INext × Heap} (h : lcopy H s d x = some r) : ∃ v H', r = (.val v, H') := by
  unfold lcopy at h
  obtain ⟨nx, _, h⟩ := oB h
  obtain ⟨nd, _, h⟩ := oB h
  split at h
  · cases h
  · cases h; exact ⟨_, _, rfl⟩
  · split at h
    · cases h; exact ⟨_, _, rfl⟩
    · obtain ⟨new, _, h⟩ := oB h
      split at h
      · split at h
        · cases h; exact ⟨_, _, rfl⟩
        · cases h
      · cases h
  · cases h
theorem leV_eq {cal : FuncId → Bool} {φ : Oracle} {H : Heap} {σ : Sg} {op : LOp} (h : isLE op = true) : leV cal φ H σ op = lstepV φ H (le cal H σ op) := by
  cases op <;> simp only [isLE] at h <;> first | (cases h; done) | skip
  · simp only [leV, le, lbox, ibox]; split <;> rfl
  · rfl
  · rename_i s n z parts
    simp only [leV, le, lbldS]
    cases ifill (fun i => some (i * s, s)) (zrep n z) (lps σ parts) with
    | none => rfl
    | some c => simp only [Option.bind_some]; split <;> rfl
  · rename_i n a x
    simp only [leV, le, lstV]
    cases lstore H n (la σ a) (la σ x) <;> rfl
  · rfl
  · rename_i x
    simp only [leV, le, lmkMn]
    cases la σ x <;> rfl
  · rename_i s b z l c
    simp only [leV, le, lmkS]
    cases la σ l <;> cases la σ c <;> first | rfl | (simp only; split <;> rfl)
  · rename_i k d i x
    simp only [leV, le, lupdV]
    cases lupdate H k (la σ d) (la σ i) (la σ x) <;> rfl
  · rename_i x
    simp only [leV, le, ls2b]
    cases la σ x <;> rfl
  · rename_i s b d x
    simp only [leV, le, lapp]
    cases h : lappend H s b (la σ d) (la σ x) with
    | none => rfl
    | some r => obtain ⟨v, H', rfl⟩ := lappend_val h; rfl
  · rename_i s d x
    simp only [leV, le, lcpy]
    cases h : lcopy H s (la σ d) (la σ x) with
    | none => rfl
    | some r => obtain ⟨v, H', rfl⟩ := lcopy_val h; rfl
  · rename_i d
    simp only [leV, le, lclrM]
    cases la σ d <;> first | rfl | skip
    rename_i r
    simp only
    generalize H[r]? = q
    rcases q with _ | o
    · rfl
    · cases o <;> rfl
  · rename_i z d
    simp only [leV, le, lclrS]
    cases la σ d <;> first | rfl | skip
    simp only
    split
    · rfl
    · rename_i b o n lb ex sz hn
      generalize H[b]? = q
      rcases q with _ | o'
      · rfl
      · cases o' with
        | row cs ro => cases ro <;> first | rfl | (simp only; split <;> rfl)
        | _ => rfl
  · rename_i k d i
    simp only [leV, le, ldelV]
    cases ldelete H k (la σ d) (la σ i) <;> rfl
  · rfl
  · rename_i f args
    simp only [leV, le, lcallV]
    cases la σ f with
    | func fn first cap =>
      cases fn with
      | func g => simp only; split <;> rfl
      | _ => rfl
    | _ => rfl

def gq (b : Bool) (x : Option IV) : Option IV := if b = true then x else some (.tuple [])
def ge (b : Bool) (H : Heap) (x : Option (IV × Heap)) : Option (IV × Heap) := if b = true then x else some (.tuple [], H)
def cnd {R : Type} (v : IV) (a b : Option R) : Option R := match v with
  | .bool true => a
  | .bool false => b
  | _ => none
section
variable {R : Type}
def lopK (cal : FuncId → Bool) (φ : Oracle) (p : LO) (σ : Sg) (H : Heap) (k : IV → Heap → Option R) : Option R :=
  match p.g with
  | none => bif isLE p.op then ob (leV cal φ H σ p.op) fun r => k r.1 r.2 else ob (lq H σ p.op) fun v => k v H
  | some (t, w) => bif isLE p.op then ob (ge (isB (lk σ t) w) H (leV cal φ H σ p.op)) fun r => k r.1 r.2 else ob (gq (isB (lk σ t) w) (lq H σ p.op)) fun v => k v H
def lopsK (cal : FuncId → Bool) (φ : Oracle) : List LO → Sg → Heap → (Sg → Heap → Option R) → Option R
  | [], σ, H, k => k σ H
  | p :: ps, σ, H, k => lopK cal φ p σ H fun v H' => lopsK cal φ ps (pput σ p.d v) H' k
def ltraceK (cal : FuncId → Bool) (φ : Oracle) : List LO → Sg → Heap → (List LRec → Sg → Heap → Option R) → Option R
  | [], σ, H, k => k [] σ H
  | p :: ps, σ, H, k => lopK cal φ p σ H fun v H' => ltraceK cal φ ps (pput σ p.d v) H' fun rs => k (⟨p, σ, H, v, H'⟩ :: rs)
def ckd (b : Bool) (x : Option R) : Option R := if b = true then x else none
abbrev KT (R : Type) := IX → Sg → Heap → Option R
def seqK (b : Sg → Heap → KT R → Option R) (k : KT R) : KT R
  | .normal, σ, H => b σ H k
  | .exit id, σ, H => k (.exit id) σ H
  | .ret, σ, H => k .ret σ H
def blockK (id : Nat) (k : KT R) : KT R
  | .normal, σ, H => k .normal σ H
  | .exit id', σ, H => bif Nat.beq id' id then k .normal σ H else k (.exit id') σ H
  | .ret, σ, H => k .ret σ H
def itK (body : Sg → Heap → KT R → Option R) : Nat → Sg → Heap → KT R → Option R
  | 0, _, _, _ => none
  | n + 1, σ, H, k => body σ H (seqK (itK body n) k)
def drwK (cal : FuncId → Bool) (φ : Oracle) (l : List LO) (ps : List (Nat × Nat)) (σ : Sg) (H : Heap) (k : Sg → Heap → Option R) : Option R :=
  match ps with
  | [] => lopsK cal φ l σ H k
  | p :: ps => ltraceK cal φ l σ H fun rs σ H => ckd ((p :: ps).all (llooseOk rs)) (k σ H)
def lxK (cal : FuncId → Bool) (φ : Oracle) (n : Nat) : LC → Sg → Heap → KT R → Option R
  | .skip, σ, H, k => k .normal σ H
  | .reg l, σ, H, k => lopsK cal φ l σ H (k .normal)
  | .drw l ps, σ, H, k => drwK cal φ l ps σ H (k .normal)
  | .seq a b, σ, H, k => lxK cal φ n a σ H (seqK (lxK cal φ n b) k)
  | .cond c a b, σ, H, k => cnd (la σ c) (lxK cal φ n a σ H k) (lxK cal φ n b σ H k)
  | .block id a, σ, H, k => lxK cal φ n a σ H (blockK id k)
  | .loop a, σ, H, k => itK (lxK cal φ n a) n σ H k
  | .exit id, σ, H, k => k (.exit id) σ H
  | .ret, σ, H, k => k .ret σ H
  | .bad, _, _, _ => none
theorem lxK_seq {cal : FuncId → Bool} {φ : Oracle} {n : Nat} {a b : LC} {σ : Sg} {H : Heap} {k : KT R} : lxK cal φ n (.seq a b) σ H k = lxK cal φ n a σ H (seqK (lxK cal φ n b) k) := id rfl
theorem lxK_block {cal : FuncId → Bool} {φ : Oracle} {n id : Nat} {a : LC} {σ : Sg} {H : Heap} {k : KT R} : lxK cal φ n (.block id a) σ H k = lxK cal φ n a σ H (blockK id k) := rfl
theorem lxK_loop {cal : FuncId → Bool} {φ : Oracle} {n : Nat} {a : LC} {σ : Sg} {H : Heap} {k : KT R} : lxK cal φ n (.loop a) σ H k = itK (lxK cal φ n a) n σ H k := id rfl
theorem itK_succ {b : Sg → Heap → KT R → Option R} {n : Nat} {σ : Sg} {H : Heap} {k : KT R} : itK b (n + 1) σ H k = b σ H (seqK (itK b n) k) := id rfl
/-- A place where ways meet. -/
def jn {A : Type} (f : A) (g : A → Option R) : Option R := g f

theorem lopK_eq {cal : FuncId → Bool} {φ : Oracle} (p : LO) (σ : Sg) (H : Heap) (k : IV → Heap → Option R) : lopK cal φ p σ H k = (lopV cal φ p σ H).bind fun r => k r.1 r.2 := by
  unfold lopK lopV lstep
  cases p.g with
  | none =>
    simp only
    cases hE : isLE p.op with
    | true => simp only [cond_true, if_true, leV_eq hE, ob]
    | false =>
      simp only [cond_false, Bool.false_eq_true, if_false, ob]
      cases lq H σ p.op <;> rfl
  | some q =>
    obtain ⟨t, w⟩ := q
    simp only
    cases hE : isLE p.op with
    | true =>
      simp only [cond_true, if_true, ob, ge]
      split
      · rw [leV_eq hE]
      · rfl
    | false =>
      simp only [cond_false, Bool.false_eq_true, if_false, ob, gq]
      split
      · cases lq H σ p.op <;> rfl
      · rfl
theorem lopsK_eq {cal : FuncId → Bool} {φ : Oracle} : ∀ (l : List LO) (σ : Sg) (H : Heap) (k : Sg → Heap → Option R), lopsK cal φ l σ H k = (lops cal φ l σ H).bind fun r => k r.1 r.2
  | [], σ, H, k => rfl
  | p :: ps, σ, H, k => by
    simp only [lopsK, lops, lopK_eq, Option.bind_assoc]
    congr 1
    funext r
    exact lopsK_eq ps _ _ k
theorem ltraceK_eq {cal : FuncId → Bool} {φ : Oracle} : ∀ (l : List LO) (σ : Sg) (H : Heap) (k : List LRec → Sg → Heap → Option R), ltraceK cal φ l σ H k = (ltrace cal φ l σ H).bind fun r => k r.1 r.2.1 r.2.2
  | [], σ, H, k => rfl
  | p :: ps, σ, H, k => by
    simp only [ltraceK, ltrace, lopK_eq, Option.bind_assoc]
    congr 1
    funext r
    rw [ltraceK_eq ps]
    rfl
theorem itK_eq {f : PBody} {b : Sg → Heap → (IX → Sg → Heap → Option R) → Option R} (h : ∀ σ H k, b σ H k = (f σ H).bind fun r => k r.1 r.2.1 r.2.2) : ∀ (n : Nat) (σ : Sg) (H : Heap) (k : IX → Sg → Heap → Option R), itK b n σ H k = (piter f n σ H).bind fun r => k r.1 r.2.1 r.2.2
  | 0, σ, H, k => rfl
  | n + 1, σ, H, k => by
    simp only [itK, piter, h, Option.bind_assoc]
    congr 1
    funext r
    obtain ⟨x, σ', H'⟩ := r
    cases x with
    | normal => exact itK_eq h n σ' H' k
    | exit id => rfl
    | ret => rfl
theorem lxK_eq {cal : FuncId → Bool} {φ : Oracle} {n : Nat} : ∀ (c : LC) (σ : Sg) (H : Heap) (k : IX → Sg → Heap → Option R), lxK cal φ n c σ H k = (lexec cal φ n c σ H).bind fun r => k r.1 r.2.1 r.2.2 := by
  intro c
  induction c with
  | skip => intro σ H k; rfl
  | reg l => intro σ H k; simp only [lxK, lexec, lopsK_eq, Option.bind_assoc]; rfl
  | drw l ps =>
    intro σ H k
    cases ps with
    | nil => simp only [lxK, lexec, drwK, ldraw, lopsK_eq, Option.bind_assoc]; rfl
    | cons p ps =>
      simp only [lxK, lexec, drwK, ldraw, ltraceK_eq, Option.bind_assoc]
      congr 1
      funext q
      unfold ckd
      split <;> rfl
  | seq a b iha ihb =>
    intro σ H k
    simp only [lxK, lexec, iha, Option.bind_assoc]
    congr 1
    funext r
    obtain ⟨x, σ', H'⟩ := r
    cases x with
    | normal => exact ihb σ' H' k
    | exit id => rfl
    | ret => rfl
  | cond c a b iha ihb =>
    intro σ H k
    simp only [lxK, lexec, cnd, iha, ihb]
    cases la σ c with
    | bool t => cases t <;> rfl
    | _ => rfl
  | block id a ih =>
    intro σ H k
    simp only [lxK, lexec, ih, Option.bind_assoc]
    congr 1
    funext r
    obtain ⟨x, σ', H'⟩ := r
    cases x with
    | normal => rfl
    | exit id' =>
      simp only [blockK]
      by_cases e : id' = id
      · subst e; rw [if_pos rfl, show Nat.beq id' id' = true from Nat.beq_refl id']; rfl
      · rw [if_neg e]
        have : Nat.beq id' id = false := by
          cases hb : Nat.beq id' id with
          | false => rfl
          | true => exact absurd (Nat.eq_of_beq_eq_true hb) e
        rw [this]; rfl
    | ret => rfl
  | loop a ih =>
    intro σ H k
    simp only [lxK, lexec]
    exact itK_eq ih n σ H k
  | exit id => intro σ H k; rfl
  | ret => intro σ H k; rfl
  | bad => intro σ H k; rfl
end
def resK : List LRes → List IV → Sg → Heap → Option (IV × Heap)
  | [], acc, σ, H => some (pack acc.reverse, H)
  | .tmp t :: rs, acc, σ, H => resK rs (lk σ t :: acc) σ H
  | .cell1 t :: rs, acc, σ, H => ob (lload1 H (lk σ t)) fun v => resK rs (v :: acc) σ H
  | .celln t n :: rs, acc, σ, H => ob (lloadn H n (lk σ t)) fun v => resK rs (v :: acc) σ H
theorem resK_eq : ∀ (rs : List LRes) (acc : List IV) (σ : Sg) (H : Heap), resK rs acc σ H = (lresults σ H rs).bind fun vs => some (pack (acc.reverse ++ vs), H)
  | [], acc, σ, H => by simp [resK, lresults]
  | r :: rs, acc, σ, H => by
    cases r <;> simp only [resK, lresults, lresult, ob, Option.bind_some, Option.bind_assoc, resK_eq rs, List.reverse_cons, List.append_assoc, List.cons_append, List.nil_append]
def endK (rs : List LRes) : IX → Sg → Heap → Option (IV × Heap)
  | .exit _, _, _ => none
  | .normal, σ, H => resK rs [] σ H
  | .ret, σ, H => resK rs [] σ H
def lrunK (cal : FuncId → Bool) (φ : Oracle) (n : Nat) (lf : LFun) (args : List IV) (H : Heap) : Option (IV × Heap) := lxK cal φ n lf.pc (initFrom 0 args) H (endK lf.rs)
theorem lrunK_le {cal : FuncId → Bool} {φ : Oracle} {n : Nat} {lf : LFun} {args : List IV} {H : Heap} {r : IV × Heap} (h : lrunK cal φ n lf args H = some r) : lrun cal φ lf args H = some r := by
  unfold lrunK at h
  rw [lxK_eq] at h
  obtain ⟨q, h1, h2⟩ := oB h
  unfold lrun
  rw [lxd_some.2 ⟨n, h1⟩]
  obtain ⟨x, σ, H'⟩ := q
  cases x with
  | normal => simp only [endK, resK_eq] at h2; simpa [lback] using h2
  | ret => simp only [endK, resK_eq] at h2; simpa [lback] using h2
  | exit id => simp [endK] at h2
/-! ### what follows, told by parts -/
section
variable {R : Type}
def kN (f : Sg → Heap → Option R) (k : KT R) : KT R
  | .normal, σ, H => f σ H
  | .exit id, σ, H => k (.exit id) σ H
  | .ret, σ, H => k .ret σ H
def kE (id : Nat) (f : Sg → Heap → Option R) (k : KT R) : KT R
  | .normal, σ, H => k .normal σ H
  | .exit id', σ, H => bif Nat.beq id' id then f σ H else k (.exit id') σ H
  | .ret, σ, H => k .ret σ H
def kR (f : Sg → Heap → Option R) (k : KT R) : KT R
  | .normal, σ, H => k .normal σ H
  | .exit id, σ, H => k (.exit id) σ H
  | .ret, σ, H => f σ H
theorem kN_mk {f : Sg → Heap → Option R} {k k' : KT R} (h : ∀ σ H, k .normal σ H = f σ H) (e : k = k') : k = kN f k' := by
  subst e; funext x σ H; cases x <;> first | exact h σ H | rfl
theorem kE_mk {id : Nat} {f : Sg → Heap → Option R} {k k' : KT R} (h : ∀ σ H, k (.exit id) σ H = f σ H) (e : k = k') : k = kE id f k' := by
  subst e; funext x σ H
  cases x with
  | exit id' =>
    simp only [kE]
    cases hb : Nat.beq id' id with
    | false => rfl
    | true => have := Nat.eq_of_beq_eq_true hb; subst this; exact h σ H
  | _ => rfl
theorem kR_mk {f : Sg → Heap → Option R} {k k' : KT R} (h : ∀ σ H, k .ret σ H = f σ H) (e : k = k') : k = kR f k' := by
  subst e; funext x σ H; cases x <;> first | exact h σ H | rfl
theorem seqK_mk {b : Sg → Heap → KT R → Option R} {k : KT R} {g : Sg → Heap → Option R} (h : ∀ σ H, b σ H k = g σ H) : seqK b k = kN g k := by
  funext x σ H; cases x <;> first | exact h σ H | rfl
end
def lzbox (H : Heap) (z : IV) : Option (IV × Heap) := some (.ptr H.length 0, H ++ [.row z.cells false])
def lmkM (H : Heap) : Option (IV × Heap) := some (.map H.length, H ++ [.map [] 0])
def lixg (n : Nat) (x i : IV) : Option IV := match x, i with
  | .agg cs, .int _ j => if 0 ≤ j ∧ j < n then cs[j.toNat]? else none
  | _, _ => none
def lbld (z : List IV) (parts : List (Nat × Nat × IV)) : Option IV := (lfill z parts).bind fun r => some (.agg r)
def lasrt (t : TypeId) (z : IV) (ok : Bool) (x : IV) : Option IV := match x with
  | .nilIface => if ok then some (.tuple [z, .bool false]) else none
  | .iface t' v => if t' = t then some (if ok then .tuple [v, .bool true] else v) else if ok then some (.tuple [z, .bool false]) else none
  | _ => none
/-! ### rules -/
theorem gq_true {x : Option IV} : gq true x = x := id rfl
theorem gq_false {x : Option IV} : gq false x = some (.tuple []) := id rfl
theorem ge_true {H : Heap} {x : Option (IV × Heap)} : ge true H x = x := id rfl
theorem ge_false {H : Heap} {x : Option (IV × Heap)} : ge false H x = some (.tuple [], H) := id rfl
theorem cnd_true {R : Type} {a b : Option R} : cnd (.bool true) a b = a := id rfl
theorem cnd_false {R : Type} {a b : Option R} : cnd (.bool false) a b = b := id rfl
@[congr] theorem gq_congr {b b' : Bool} {x : Option IV} (h : b = b') : gq b x = gq b' x := by rw [h]
@[congr] theorem ge_congr {b b' : Bool} {H : Heap} {x : Option (IV × Heap)} (h : b = b') : ge b H x = ge b' H x := by rw [h]
@[congr] theorem cnd_congr {R : Type} {v v' : IV} {a b : Option R} (h : v = v') : cnd v a b = cnd v' a b := by rw [h]
theorem jn_eq {R A : Type} {f : A} {g : A → Option R} : jn f g = g f := id rfl
theorem lzbox_eq {H : Heap} {z : IV} : lzbox H z = some (.ptr H.length 0, H ++ [.row z.cells false]) := id rfl
theorem cells_agg {cs : List IV} : IV.cells (.agg cs) = cs := id rfl
theorem cells_one {v : IV} (h : v.one = true) : v.cells = [v] := by cases v <;> first | rfl | (simp [IV.one] at h)
theorem lmkM_eq {H : Heap} : lmkM H = some (.map H.length, H ++ [.map [] 0]) := id rfl
theorem lstV_ptr {H : Heap} {n b o : Nat} {x : IV} : lstV H n (.ptr b o) x = ob (putO (H[b]?) b o n x H) fun H' => some (.tuple [], H') := by
  unfold lstV
  rw [lstore_ptr]
  cases putO (H[b]?) b o n x H <;> rfl
theorem ckd_true {R : Type} {x : Option R} : ckd true x = x := id rfl
attribute [go_sem ↓] gq_true gq_false ge_true ge_false cnd_true cnd_false
attribute [go_sem] lzbox_eq cells_agg cells_one lmkM_eq lstV_ptr Nat.zero_add Nat.add_zero ckd_true
end Go.Shade
/- SHADE, part 33: what a function builds by appending; slices that came in. -/
namespace Go.Shade
set_option linter.unusedSimpArgs false
set_option linter.unusedVariables false

/-- A slice of one's own: nil, or a whole row at B or above. -/
def Buf (B : Nat) (s : Nat) (H : Heap) (v : IV) (cs : List IV) : Prop :=
  (v = .nilSlice ∧ cs = []) ∨ ∃ r n ex, v = .slice r 0 n n ex s ∧ B ≤ r ∧ H[r]? = some (.row cs false) ∧ cs.length = n * s
def Keep (B : Nat) (H H' : Heap) : Prop := (∀ i, i < B → H'[i]? = H[i]?) ∧ H.length ≤ H'.length
theorem Keep.refl (B : Nat) (H : Heap) : Keep B H H := ⟨fun _ _ => rfl, Nat.le_refl _⟩
theorem Keep.trans {B : Nat} {H H' H'' : Heap} (h : Keep B H H') (k : Keep B H' H'') : Keep B H H'' := ⟨fun i hi => (k.1 i hi).trans (h.1 i hi), Nat.le_trans h.2 k.2⟩
theorem Keep.mono {B C : Nat} {H H' : Heap} (h : Keep B H H') (hc : C ≤ B) : Keep C H H' := ⟨fun i hi => h.1 i (by omega), h.2⟩
theorem Keep.push {B : Nat} (H X : Heap) (h : B ≤ H.length) : Keep B H (H ++ X) := ⟨fun i hi => List.getElem?_append_left (by omega), by simp⟩
theorem Keep.set {B : Nat} (H : Heap) {r : Nat} (o : IObj) (h : B ≤ r) : Keep B H (H.set r o) := ⟨fun i hi => List.getElem?_set_ne (by omega), by simp⟩
theorem Keep.get {B : Nat} {H H' : Heap} (h : Keep B H H') {i : Nat} {o : IObj} (hi : i < B) (e : H[i]? = some o) : H'[i]? = some o := (h.1 i hi).trans e
theorem Buf.keep {B C s : Nat} {H H' : Heap} {v : IV} {cs : List IV} (h : Buf B s H v cs) (k : Keep C H H') (hc : ∀ r n m ex, v = .slice r 0 n m ex s → r < C) : Buf B s H' v cs := by
  rcases h with h | ⟨r, n, ex, rfl, h1, h2, h3⟩
  · exact .inl h
  · exact .inr ⟨r, n, ex, rfl, h1, k.get (hc r n n ex rfl) h2, h3⟩
theorem Buf.len {B s : Nat} {H : Heap} {v : IV} {cs : List IV} (h : Buf B s H v cs) (hs : 0 < s) : ∃ n, xlen v = some n ∧ cs.length = n * s ∧ llen H .slice v = some (.int .i64 n) := by
  rcases h with ⟨rfl, rfl⟩ | ⟨r, n, ex, rfl, h1, h2, h3⟩
  · exact ⟨0, rfl, by simp, rfl⟩
  · exact ⟨n, rfl, h3, rfl⟩
theorem Buf.cells {B s : Nat} {H : Heap} {v : IV} {cs : List IV} (h : Buf B s H v cs) {n : Nat} (hn : xlen v = some n) : lsl H s v n = some cs := by
  rcases h with ⟨rfl, rfl⟩ | ⟨r, k, ex, rfl, h1, h2, h3⟩
  · simp only [xlen, Option.some.injEq] at hn; subst hn; rfl
  · simp only [xlen, Option.some.injEq] at hn; subst hn
    simp only [lsl, Nat.le_refl, if_true]
    split
    · rename_i e; subst e; simp at h3; subst h3; rfl
    · simp only [irow, h2, Nat.zero_add, h3, Nat.le_refl, if_true, List.drop_zero]
      rw [List.take_of_length_le (by omega)]
theorem lfresh_eq {s b : Nat} {H : Heap} {old new : List IV} {k : Nat} (h1 : k * b ≤ 140737488355328) (h2 : (old ++ new).length = k * s) : lfresh s b H old new k = some (.val (.slice H.length 0 k k false s), H ++ [.row (old ++ new) false]) := by
  unfold lfresh; rw [if_pos ⟨h1, h2⟩]
theorem app_buf {B s b : Nat} {H : Heap} {v x : IV} {cs new : List IV} {k : Nat} (h : Buf B s H v cs) (hB : B ≤ H.length) (hs : 0 < s) (hx : xlen x = some k) (hc : lxcells H s x k = some new) (hl : new.length = k * s) (h1 : new.all IV.one = true) (hb : (cs.length + new.length) * b ≤ 140737488355328) :
    ∃ v' H', lapp H s b v x = some (v', H') ∧ Buf B s H' v' (cs ++ new) ∧ Keep B H H' := by
  unfold lapp lappend
  rw [hx]
  simp only [Option.bind_some]
  by_cases h0 : k = 0
  · subst h0
    have hnew : new = [] := by simp at hl; exact hl
    subst hnew
    simp only [if_true, List.append_nil]
    rcases h with ⟨rfl, rfl⟩ | ⟨r, n, ex, rfl, g1, g2, g3⟩
    · exact ⟨_, _, rfl, .inl ⟨rfl, rfl⟩, Keep.refl _ _⟩
    · exact ⟨_, _, rfl, .inr ⟨r, n, ex, rfl, g1, g2, g3⟩, Keep.refl _ _⟩
  · rw [if_neg h0, hc]
    simp only [Option.bind_some]
    rw [if_pos ⟨hl, h1⟩]
    rcases h with ⟨rfl, rfl⟩ | ⟨r, n, ex, rfl, g1, g2, g3⟩
    · have hk : k * b ≤ 140737488355328 := by
        refine Nat.le_trans (Nat.mul_le_mul_right b ?_) hb
        simp only [List.length_nil, Nat.zero_add, hl]
        exact Nat.le_mul_of_pos_right k hs
      simp only [lfresh_eq (old := []) hk (by simpa using hl)]
      exact ⟨_, _, rfl, .inr ⟨H.length, k, false, rfl, hB, by simp, by simpa using hl⟩, Keep.push H _ hB⟩
    · have hold : lsl H s (.slice r 0 n n ex s) n = some cs := Buf.cells (B := B) (.inr ⟨r, n, ex, rfl, g1, g2, g3⟩) rfl
      have hlen : (cs ++ new).length = (n + k) * s := by simp only [List.length_append, g3, hl, Nat.add_mul]
      have hk : (n + k) * b ≤ 140737488355328 := by
        refine Nat.le_trans (Nat.mul_le_mul_right b ?_) hb
        rw [g3, hl, ← Nat.add_mul]
        exact Nat.le_mul_of_pos_right (n + k) hs
      simp only
      rw [if_neg (by omega), hold]
      simp only [Option.bind_some]
      cases ex with
      | true =>
        simp only [if_true, lfresh_eq (H := H) hk hlen]
        exact ⟨_, _, rfl, .inr ⟨H.length, n + k, false, rfl, hB, by simp, hlen⟩, Keep.push H _ hB⟩
      | false =>
        simp only [Bool.false_eq_true, if_false, g2, if_true, lfresh_eq (H := H.set r .dead) hk hlen]
        refine ⟨_, _, rfl, .inr ⟨(H.set r .dead).length, n + k, false, rfl, by simpa using hB, by simp, hlen⟩, ?_⟩
        exact (Keep.set H .dead g1).trans (Keep.push _ _ (by simpa using hB))
def bytes (l : List UInt8) : List IV := l.map fun b => .int .u8 b.toNat
theorem bytes_length (l : List UInt8) : (bytes l).length = l.length := by simp [bytes]
theorem bytes_one (l : List UInt8) : (bytes l).all IV.one = true := by simp [bytes, IV.one]
theorem bytes_append (a b : List UInt8) : bytes (a ++ b) = bytes a ++ bytes b := by simp [bytes]
theorem ibytes_bytes : ∀ (l : List UInt8), ibytes (bytes l) = some l
  | [] => rfl
  | b :: l => by
    have := ibytes_bytes l
    simp only [bytes, List.map_cons, ibytes] at this ⊢
    rw [this]; simp
theorem bytes_inB (l : List UInt8) (n : Nat) : inBs n (bytes l) = true := by
  induction l with
  | nil => rfl
  | cons b l ih => simp only [bytes, List.map_cons, inBs, inB, Bool.true_and] at ih ⊢; exact ih
theorem lxcells_str {H : Heap} {l : List UInt8} : lxcells H 1 (.str l) l.length = some (bytes l) := by simp [lxcells, bytes]
theorem app_str {B b : Nat} {H : Heap} {v : IV} {cs : List IV} {l : List UInt8} (h : Buf B 1 H v cs) (hB : B ≤ H.length) (hb : (cs.length + l.length) * b ≤ 140737488355328) : ∃ v' H', lapp H 1 b v (.str l) = some (v', H') ∧ Buf B 1 H' v' (cs ++ bytes l) ∧ Keep B H H' :=
  app_buf h hB (by omega) rfl lxcells_str (by simp [bytes_length]) (bytes_one l) (by rw [bytes_length]; exact hb)
theorem app_own {B C s b : Nat} {H : Heap} {v x : IV} {cs new : List IV} (h : Buf B s H v cs) (hB : B ≤ H.length) (hs : 0 < s) (hx : Buf C s H x new) (h1 : new.all IV.one = true) (hb : (cs.length + new.length) * b ≤ 140737488355328) : ∃ v' H', lapp H s b v x = some (v', H') ∧ Buf B s H' v' (cs ++ new) ∧ Keep B H H' := by
  obtain ⟨n, h2, h3, _⟩ := hx.len hs
  refine app_buf h hB hs h2 ?_ h3 h1 hb
  have : lxcells H s x n = lsl H s x n := by
    rcases hx with ⟨rfl, _⟩ | ⟨r, k, ex, rfl, _⟩ <;> rfl
  rw [this]; exact hx.cells h2
end Go.Shade
/- SHADE, part 34: what comes out, told by a property. -/
namespace Go.Shade
set_option linter.unusedSimpArgs false
set_option linter.unusedVariables false
def Wp {α : Type} (x : Option α) (Q : α → Prop) : Prop := ∃ a, x = some a ∧ Q a
section
variable {α β : Type} {Q : β → Prop}
theorem Wp.ret {a : β} (h : Q a) : Wp (some a) Q := ⟨a, rfl, h⟩
theorem Wp.ob {x : Option α} {f : α → Option β} (h : Wp x fun a => Wp (f a) Q) : Wp (Shade.ob x f) Q := by
  obtain ⟨a, rfl, h2⟩ := h; exact h2
theorem Wp.of {x : Option α} {f : α → Option β} {a : α} (h : x = some a) (k : Wp (f a) Q) : Wp (Shade.ob x f) Q := by
  subst h; exact k
theorem Wp.call {x : Option α} {f : α → Option β} {R : α → Prop} (h : Wp x R) (k : ∀ a, R a → Wp (f a) Q) : Wp (Shade.ob x f) Q := by
  obtain ⟨a, rfl, h2⟩ := h; exact k a h2
theorem Wp.mono {x : Option β} {R : β → Prop} (h : Wp x R) (k : ∀ a, R a → Q a) : Wp x Q := by
  obtain ⟨a, rfl, h2⟩ := h; exact ⟨a, rfl, k a h2⟩
theorem Wp.dec {p : Prop} [Decidable p] {x y : Option β} (h1 : p → Wp x Q) (h2 : ¬ p → Wp y Q) : Wp (cnd (.bool (decide p)) x y) Q := by
  by_cases hp : p
  · rw [decide_eq_true hp, cnd_true]; exact h1 hp
  · rw [decide_eq_false hp, cnd_false]; exact h2 hp
theorem Wp.ndec {p : Prop} [Decidable p] {x y : Option β} (h1 : ¬ p → Wp x Q) (h2 : p → Wp y Q) : Wp (cnd (.bool (!decide p)) x y) Q := by
  by_cases hp : p
  · rw [decide_eq_true hp, Bool.not_true, cnd_false]; exact h2 hp
  · rw [decide_eq_false hp, Bool.not_false, cnd_true]; exact h1 hp
theorem Wp.cndb {b : Bool} {x y : Option β} (h1 : b = true → Wp x Q) (h2 : b = false → Wp y Q) : Wp (cnd (.bool b) x y) Q := by
  cases b
  · rw [cnd_false]; exact h2 rfl
  · rw [cnd_true]; exact h1 rfl
end
theorem wrap_i64 {x : Int} (h1 : -9223372036854775808 ≤ x) (h2 : x < 9223372036854775808) : IntKind.wrap .i64 x = x := by
  have h : IntKind.wrap .i64 x = if x % 18446744073709551616 ≥ 9223372036854775808 then x % 18446744073709551616 - 18446744073709551616 else x % 18446744073709551616 := by
    unfold IntKind.wrap; simp [IntKind.bits, IntKind.signed]
  rw [h]
  split <;> omega
end Go.Shade
/- DESC, part 1: low code of the layer 'desc', and plain functions of the same meaning. -/
namespace Go.Shade
set_option linter.unusedVariables false
def slicesCloneStringString : LFun := ⟨(.seq (.reg [
    ⟨(some 2), (.mv (.k .nilSlice)), none⟩])
  (.seq (.seq (.reg [
    ⟨(some 3), (.mv (.t 0)), none⟩,
    ⟨(some 4), (.eqv false .slice (.t 3) (.k .nilSlice)), none⟩])
  (.cond (.t 4) (.seq (.reg [
    ⟨(some 2), (.mv (.k .nilSlice)), none⟩])
  .ret)
  .skip))
  (.seq (.reg [
    ⟨(some 5), (.bldS 1 0 [(.str [])] []), none⟩,
    ⟨(some 6), (.mv (.t 0)), none⟩,
    ⟨(some 7), (.app 1 16 (.t 5) (.t 6)), none⟩,
    ⟨(some 2), (.mv (.t 7)), none⟩])
  .ret))), [(.tmp 2)], 8⟩
def slicesCloneStringStringS (cal : FuncId → Bool) (φ : Oracle) (N : Nat) (v0 : IV) (H : Heap) : Option (IV × Heap) :=
    ob (leqv false (leq .slice v0 .nilSlice)) fun t1 =>
    cnd t1
    (some (.nilSlice, H))
    (ob (lbldS H 1 0 [(.str [])] []) fun r2 =>
    ob (lapp r2.2 1 16 r2.1 v0) fun r3 =>
    some (r3.1, r3.2))
theorem slicesCloneStringStringEq (cal : FuncId → Bool) (φ : Oracle) (N : Nat) (v0 : IV) (H : Heap) : lrunK cal φ N (slicesCloneStringString) [v0] H = slicesCloneStringStringS cal φ N v0 H := by
  kernel_rfl

def slicesIndexVeneerApiDescVeneerApiDescC0 : LC := .loop (.seq (.reg [
    ⟨(some 9), (.bin .lss (.t 8) (.t 7)), none⟩])
  (.seq (.cond (.t 9) .skip
  (.exit 0))
  (.seq (.block 1 (.seq (.reg [
    ⟨(some 10), (.mv (.t 8)), none⟩,
    ⟨(some 5), (.mv (.t 10)), none⟩])
  (.seq (.reg [
    ⟨(some 11), (.mv (.t 1)), none⟩,
    ⟨(some 12), (.mv (.t 0)), none⟩,
    ⟨(some 13), (.mv (.t 5)), none⟩,
    ⟨(some 14), (.ix 1 (.t 12) (.t 13)), none⟩,
    ⟨(some 15), (.ld1 (.t 14)), none⟩,
    ⟨(some 16), (.eqv false .ptr (.t 11) (.t 15)), none⟩])
  (.cond (.t 16) (.seq (.reg [
    ⟨(some 17), (.mv (.t 5)), none⟩,
    ⟨(some 4), (.mv (.t 17)), none⟩])
  .ret)
  .skip))))
  (.reg [
    ⟨(some 18), (.bin .add (.t 8) (.k (.int .i64 1))), none⟩,
    ⟨(some 8), (.mv (.t 18)), none⟩]))))
def slicesIndexVeneerApiDescVeneerApiDescC1 : LC := .block 0 slicesIndexVeneerApiDescVeneerApiDescC0
def slicesIndexVeneerApiDescVeneerApiDescC2 : LC := .seq (.reg [
    ⟨(some 6), (.mv (.t 0)), none⟩,
    ⟨(some 7), (.len .slice (.t 6)), none⟩,
    ⟨(some 8), (.mv (.k (.int .i64 0))), none⟩]) slicesIndexVeneerApiDescVeneerApiDescC1
def slicesIndexVeneerApiDescVeneerApiDescC3 : LC := .seq slicesIndexVeneerApiDescVeneerApiDescC2 (.seq (.reg [
    ⟨(some 4), (.mv (.k (.int .i64 (-1)))), none⟩])
  .ret)
def slicesIndexVeneerApiDescVeneerApiDescC4 : LC := .seq (.reg [
    ⟨(some 4), (.mv (.k (.int .i64 0))), none⟩]) slicesIndexVeneerApiDescVeneerApiDescC3
def slicesIndexVeneerApiDescVeneerApiDescC0S (cal : FuncId → Bool) (φ : Oracle) (N : Nat) (gE0 : Heap → Option (IV × Heap)) : Nat → IV → IV → IV → IV → Heap → Option (IV × Heap)
  | 0, _, _, _, _, _ => none
  | n + 1, v0, v1, v7, v8, H =>
    ob (lbin .lss v8 v7) fun t1 =>
    cnd t1
    (ob (lix 1 v0 v8) fun t2 =>
    ob (lload1 H t2) fun t3 =>
    ob (leqv false (leq .ptr v1 t3)) fun t4 =>
    cnd t4
    (some (v8, H))
    (ob (lbin .add v8 (.int .i64 1)) fun t5 =>
    slicesIndexVeneerApiDescVeneerApiDescC0S cal φ N gE0 n v0 v1 v7 t5 H))
    (gE0 H)
theorem slicesIndexVeneerApiDescVeneerApiDescC0Eq (cal : FuncId → Bool) (φ : Oracle) (N : Nat) {k : KT (IV × Heap)} (gE0 : Heap → Option (IV × Heap)) (hgE0 : ∀ σ H, k (.exit 0) σ H = gE0 H) (hR : ∀ σ H, k .ret σ H = resK [(.tmp 4)] [] σ H) : ∀ (n : Nat) (σ : Sg) (H : Heap), itK (lxK cal φ N (.seq (.reg [
    ⟨(some 9), (.bin .lss (.t 8) (.t 7)), none⟩])
  (.seq (.cond (.t 9) .skip
  (.exit 0))
  (.seq (.block 1 (.seq (.reg [
    ⟨(some 10), (.mv (.t 8)), none⟩,
    ⟨(some 5), (.mv (.t 10)), none⟩])
  (.seq (.reg [
    ⟨(some 11), (.mv (.t 1)), none⟩,
    ⟨(some 12), (.mv (.t 0)), none⟩,
    ⟨(some 13), (.mv (.t 5)), none⟩,
    ⟨(some 14), (.ix 1 (.t 12) (.t 13)), none⟩,
    ⟨(some 15), (.ld1 (.t 14)), none⟩,
    ⟨(some 16), (.eqv false .ptr (.t 11) (.t 15)), none⟩])
  (.cond (.t 16) (.seq (.reg [
    ⟨(some 17), (.mv (.t 5)), none⟩,
    ⟨(some 4), (.mv (.t 17)), none⟩])
  .ret)
  .skip))))
  (.reg [
    ⟨(some 18), (.bin .add (.t 8) (.k (.int .i64 1))), none⟩,
    ⟨(some 8), (.mv (.t 18)), none⟩]))))) n σ H k = slicesIndexVeneerApiDescVeneerApiDescC0S cal φ N gE0 n (lk σ 0) (lk σ 1) (lk σ 7) (lk σ 8) H := by
  have hk : k = (kE 0 (fun σ H => gE0 H) (kR (resK [(.tmp 4)] []) k)) := (kE_mk hgE0 (kR_mk hR rfl))
  intro n
  induction n with
  | zero => intro σ H; rfl
  | succ n ih =>
    intro σ H
    rw [itK_succ, seqK_mk (g := fun σ H => slicesIndexVeneerApiDescVeneerApiDescC0S cal φ N gE0 n (lk σ 0) (lk σ 1) (lk σ 7) (lk σ 8) H) ih, hk]
    kernel_rfl
def slicesIndexVeneerApiDescVeneerApiDescC1S (cal : FuncId → Bool) (φ : Oracle) (N : Nat) (gN : Heap → Option (IV × Heap)) (v0 v1 v7 v8 : IV) (H : Heap) : Option (IV × Heap) :=
    slicesIndexVeneerApiDescVeneerApiDescC0S cal φ N (fun H => gN H) N v0 v1 v7 v8 H
theorem slicesIndexVeneerApiDescVeneerApiDescC1Eq (cal : FuncId → Bool) (φ : Oracle) (N : Nat) {k : KT (IV × Heap)} (gN : Heap → Option (IV × Heap)) (hgN : ∀ σ H, k .normal σ H = gN H) (hR : ∀ σ H, k .ret σ H = resK [(.tmp 4)] [] σ H) : ∀ (σ : Sg) (H : Heap), lxK cal φ N slicesIndexVeneerApiDescVeneerApiDescC1 σ H k = slicesIndexVeneerApiDescVeneerApiDescC1S cal φ N gN (lk σ 0) (lk σ 1) (lk σ 7) (lk σ 8) H := by
  have hk : k = (kN (fun σ H => gN H) (kR (resK [(.tmp 4)] []) k)) := (kN_mk hgN (kR_mk hR rfl))
  intro σ H
  rw [hk]
  show lxK cal φ N slicesIndexVeneerApiDescVeneerApiDescC0 σ H (blockK 0 (kN (fun σ H => gN H) (kR (resK [(.tmp 4)] []) k))) = _
  exact slicesIndexVeneerApiDescVeneerApiDescC0Eq cal φ N (k := (blockK 0 (kN (fun σ H => gN H) (kR (resK [(.tmp 4)] []) k)))) (fun H => gN H) (fun _ _ => rfl) (fun _ _ => rfl) N σ H
def slicesIndexVeneerApiDescVeneerApiDescC2S (cal : FuncId → Bool) (φ : Oracle) (N : Nat) (gN : Heap → Option (IV × Heap)) (v0 v1 : IV) (H : Heap) : Option (IV × Heap) :=
    ob (llen H .slice v0) fun t1 =>
    slicesIndexVeneerApiDescVeneerApiDescC1S cal φ N (fun H => gN H) v0 v1 t1 (.int .i64 0) H
theorem slicesIndexVeneerApiDescVeneerApiDescC2Eq (cal : FuncId → Bool) (φ : Oracle) (N : Nat) {k : KT (IV × Heap)} (gN : Heap → Option (IV × Heap)) (hgN : ∀ σ H, k .normal σ H = gN H) (hR : ∀ σ H, k .ret σ H = resK [(.tmp 4)] [] σ H) : ∀ (σ : Sg) (H : Heap), lxK cal φ N slicesIndexVeneerApiDescVeneerApiDescC2 σ H k = slicesIndexVeneerApiDescVeneerApiDescC2S cal φ N gN (lk σ 0) (lk σ 1) H := by
  have hk : k = (kN (fun σ H => gN H) (kR (resK [(.tmp 4)] []) k)) := (kN_mk hgN (kR_mk hR rfl))
  intro σ H
  rw [hk]
  show lxK cal φ N (.reg [
    ⟨(some 6), (.mv (.t 0)), none⟩,
    ⟨(some 7), (.len .slice (.t 6)), none⟩,
    ⟨(some 8), (.mv (.k (.int .i64 0))), none⟩]) σ H (seqK (lxK cal φ N slicesIndexVeneerApiDescVeneerApiDescC1) (kN (fun σ H => gN H) (kR (resK [(.tmp 4)] []) k))) = _
  rw [seqK_mk (g := fun σ H => slicesIndexVeneerApiDescVeneerApiDescC1S cal φ N (fun H => gN H) (lk σ 0) (lk σ 1) (lk σ 7) (lk σ 8) H) (slicesIndexVeneerApiDescVeneerApiDescC1Eq cal φ N (k := (kN (fun σ H => gN H) (kR (resK [(.tmp 4)] []) k))) (fun H => gN H) (fun _ _ => rfl) (fun _ _ => rfl))]
  kernel_rfl
def slicesIndexVeneerApiDescVeneerApiDescC3S (cal : FuncId → Bool) (φ : Oracle) (N : Nat) (v0 v1 : IV) (H : Heap) : Option (IV × Heap) :=
    slicesIndexVeneerApiDescVeneerApiDescC2S cal φ N (fun H => some ((.int .i64 (-1)), H)) v0 v1 H
theorem slicesIndexVeneerApiDescVeneerApiDescC3Eq (cal : FuncId → Bool) (φ : Oracle) (N : Nat) {k : KT (IV × Heap)} (hR : ∀ σ H, k .ret σ H = resK [(.tmp 4)] [] σ H) : ∀ (σ : Sg) (H : Heap), lxK cal φ N slicesIndexVeneerApiDescVeneerApiDescC3 σ H k = slicesIndexVeneerApiDescVeneerApiDescC3S cal φ N (lk σ 0) (lk σ 1) H := by
  have hk : k = (kR (resK [(.tmp 4)] []) k) := (kR_mk hR rfl)
  intro σ H
  rw [hk]
  show lxK cal φ N slicesIndexVeneerApiDescVeneerApiDescC2 σ H (seqK (lxK cal φ N (.seq (.reg [
    ⟨(some 4), (.mv (.k (.int .i64 (-1)))), none⟩])
  .ret)) (kR (resK [(.tmp 4)] []) k)) = _
  exact slicesIndexVeneerApiDescVeneerApiDescC2Eq cal φ N (k := (seqK (lxK cal φ N (.seq (.reg [
    ⟨(some 4), (.mv (.k (.int .i64 (-1)))), none⟩])
  .ret)) (kR (resK [(.tmp 4)] []) k))) (fun H => some ((.int .i64 (-1)), H)) (fun _ _ => rfl) (fun _ _ => rfl) σ H
def slicesIndexVeneerApiDescVeneerApiDescC4S (cal : FuncId → Bool) (φ : Oracle) (N : Nat) (v0 v1 : IV) (H : Heap) : Option (IV × Heap) :=
    slicesIndexVeneerApiDescVeneerApiDescC3S cal φ N v0 v1 H
theorem slicesIndexVeneerApiDescVeneerApiDescC4Eq (cal : FuncId → Bool) (φ : Oracle) (N : Nat) {k : KT (IV × Heap)} (hR : ∀ σ H, k .ret σ H = resK [(.tmp 4)] [] σ H) : ∀ (σ : Sg) (H : Heap), lxK cal φ N slicesIndexVeneerApiDescVeneerApiDescC4 σ H k = slicesIndexVeneerApiDescVeneerApiDescC4S cal φ N (lk σ 0) (lk σ 1) H := by
  have hk : k = (kR (resK [(.tmp 4)] []) k) := (kR_mk hR rfl)
  intro σ H
  rw [hk]
  show lxK cal φ N (.reg [
    ⟨(some 4), (.mv (.k (.int .i64 0))), none⟩]) σ H (seqK (lxK cal φ N slicesIndexVeneerApiDescVeneerApiDescC3) (kR (resK [(.tmp 4)] []) k)) = _
  rw [seqK_mk (g := fun σ H => slicesIndexVeneerApiDescVeneerApiDescC3S cal φ N (lk σ 0) (lk σ 1) H) (slicesIndexVeneerApiDescVeneerApiDescC3Eq cal φ N (k := (kR (resK [(.tmp 4)] []) k)) (fun _ _ => rfl))]
  kernel_rfl
def slicesIndexVeneerApiDescVeneerApiDesc : LFun := ⟨slicesIndexVeneerApiDescVeneerApiDescC4, [(.tmp 4)], 19⟩
def slicesIndexVeneerApiDescVeneerApiDescS (cal : FuncId → Bool) (φ : Oracle) (N : Nat) (v0 v1 : IV) (H : Heap) : Option (IV × Heap) :=
    slicesIndexVeneerApiDescVeneerApiDescC4S cal φ N v0 v1 H
theorem slicesIndexVeneerApiDescVeneerApiDescEq (cal : FuncId → Bool) (φ : Oracle) (N : Nat) (v0 v1 : IV) (H : Heap) : lrunK cal φ N (slicesIndexVeneerApiDescVeneerApiDesc) [v0, v1] H = slicesIndexVeneerApiDescVeneerApiDescS cal φ N v0 v1 H := by
  show lxK cal φ N slicesIndexVeneerApiDescVeneerApiDescC4 (initFrom 0 [v0, v1]) H (endK [(.tmp 4)]) = _
  exact slicesIndexVeneerApiDescVeneerApiDescC4Eq cal φ N (k := (endK [(.tmp 4)])) (fun _ _ => rfl) (initFrom 0 [v0, v1]) H

def slicesContainsVeneerApiDescVeneerApiDesc (cSlicesIndexVeneerApiDescVeneerApiDesc : FuncId) : LFun := ⟨(.seq (.reg [
    ⟨(some 4), (.mv (.k (.bool false))), none⟩])
  (.seq (.reg [
    ⟨(some 5), (.mv (.t 0)), none⟩,
    ⟨(some 6), (.mv (.t 1)), none⟩,
    ⟨(some 7), (.callF cSlicesIndexVeneerApiDescVeneerApiDesc [(.t 5), (.t 6)]), none⟩,
    ⟨(some 8), (.bin .geq (.t 7) (.k (.int .i64 0))), none⟩,
    ⟨(some 4), (.mv (.t 8)), none⟩])
  .ret)), [(.tmp 4)], 9⟩
def slicesContainsVeneerApiDescVeneerApiDescS (cal : FuncId → Bool) (φ : Oracle) (N : Nat) (cSlicesIndexVeneerApiDescVeneerApiDesc : FuncId) (v0 v1 : IV) (H : Heap) : Option (IV × Heap) :=
    ob (φ cSlicesIndexVeneerApiDescVeneerApiDesc [v0, v1] H) fun r1 =>
    ob (lbin .geq r1.1 (.int .i64 0)) fun t2 =>
    some (t2, r1.2)
theorem slicesContainsVeneerApiDescVeneerApiDescEq (cal : FuncId → Bool) (φ : Oracle) (N : Nat) (cSlicesIndexVeneerApiDescVeneerApiDesc : FuncId) (v0 v1 : IV) (H : Heap) : lrunK cal φ N (slicesContainsVeneerApiDescVeneerApiDesc cSlicesIndexVeneerApiDescVeneerApiDesc) [v0, v1] H = slicesContainsVeneerApiDescVeneerApiDescS cal φ N cSlicesIndexVeneerApiDescVeneerApiDesc v0 v1 H := by
  kernel_rfl

def descOwn (cSlicesCloneStringString : FuncId) : LFun := ⟨(.seq (.reg [
    ⟨(some 1), (.box (.t 0)), none⟩,
    ⟨(some 2), (.mv (.k .nilPtr)), none⟩])
  (.seq (.reg [
    ⟨(some 3), (.off (.t 1) 4), none⟩,
    ⟨(some 4), (.ld1 (.t 3)), none⟩,
    ⟨(some 5), (.callF cSlicesCloneStringString [(.t 4)]), none⟩,
    ⟨(some 6), (.off (.t 1) 4), none⟩,
    ⟨none, (.st 1 (.t 6) (.t 5)), none⟩])
  (.seq (.reg [
    ⟨(some 2), (.mv (.t 1)), none⟩])
  .ret))), [(.tmp 2)], 7⟩
def descOwnS (cal : FuncId → Bool) (φ : Oracle) (N : Nat) (cSlicesCloneStringString : FuncId) (v0 : IV) (H : Heap) : Option (IV × Heap) :=
    ob (lbox H v0) fun r1 =>
    ob (loff r1.1 4) fun t2 =>
    ob (lload1 r1.2 t2) fun t3 =>
    ob (φ cSlicesCloneStringString [t3] r1.2) fun r4 =>
    ob (loff r1.1 4) fun t5 =>
    ob (lstV r4.2 1 t5 r4.1) fun r6 =>
    some (r1.1, r6.2)
theorem descOwnEq (cal : FuncId → Bool) (φ : Oracle) (N : Nat) (cSlicesCloneStringString : FuncId) (v0 : IV) (H : Heap) : lrunK cal φ N (descOwn cSlicesCloneStringString) [v0] H = descOwnS cal φ N cSlicesCloneStringString v0 H := by
  kernel_rfl

def descNew : LFun := ⟨(.seq (.reg [
    ⟨(some 0), (.mv (.k .nilPtr)), none⟩])
  (.seq (.reg [
    ⟨(some 1), (.bld [.nilPtr, .nilPtr, .nilPtr, .nilPtr, .nilPtr, .nilPtr, .nilPtr, .nilPtr, .nilPtr, .nilPtr, .nilPtr, .nilPtr, .nilPtr, .nilPtr, .nilPtr, .nilPtr, .nilPtr, .nilPtr, .nilPtr, .nilPtr, .nilPtr, .nilPtr, .nilPtr, .nilPtr, .nilPtr, .nilPtr, .nilPtr, .nilPtr, .nilPtr, .nilPtr, .nilPtr, .nilPtr] []), none⟩,
    ⟨(some 2), (.box (.t 1)), none⟩,
    ⟨(some 0), (.mv (.t 2)), none⟩])
  .ret)), [(.tmp 0)], 3⟩
def descNewS (cal : FuncId → Bool) (φ : Oracle) (N : Nat) (H : Heap) : Option (IV × Heap) :=
    ob (lbld [.nilPtr, .nilPtr, .nilPtr, .nilPtr, .nilPtr, .nilPtr, .nilPtr, .nilPtr, .nilPtr, .nilPtr, .nilPtr, .nilPtr, .nilPtr, .nilPtr, .nilPtr, .nilPtr, .nilPtr, .nilPtr, .nilPtr, .nilPtr, .nilPtr, .nilPtr, .nilPtr, .nilPtr, .nilPtr, .nilPtr, .nilPtr, .nilPtr, .nilPtr, .nilPtr, .nilPtr, .nilPtr] []) fun t1 =>
    ob (lbox H t1) fun r2 =>
    some (r2.1, r2.2)
theorem descNewEq (cal : FuncId → Bool) (φ : Oracle) (N : Nat) (H : Heap) : lrunK cal φ N (descNew) [] H = descNewS cal φ N H := by
  kernel_rfl

def VeneerDescTableOpenC0 (cDescOwn : FuncId) : LC := .loop (.seq (.reg [
    ⟨(some 13), (.bin .lss (.t 12) (.k (.int .i64 32))), none⟩])
  (.seq (.cond (.t 13) .skip
  (.exit 0))
  (.seq (.block 1 (.seq (.reg [
    ⟨(some 14), (.mv (.t 12)), none⟩,
    ⟨(some 15), (.ixg1 32 (.t 11) (.t 12)), none⟩,
    ⟨(some 6), (.mv (.t 14)), none⟩,
    ⟨(some 7), (.mv (.t 15)), none⟩])
  (.seq (.reg [
    ⟨(some 16), (.mv (.t 7)), none⟩,
    ⟨(some 17), (.eqv false .ptr (.t 16) (.k .nilPtr)), none⟩])
  (.cond (.t 17) (.seq (.drw [
    ⟨(some 18), (.mv (.t 0)), none⟩,
    ⟨(some 19), (.mv (.t 6)), none⟩,
    ⟨(some 20), (.ldn 6 (.t 3)), none⟩,
    ⟨(some 21), (.callF cDescOwn [(.t 20)]), none⟩,
    ⟨(some 22), (.chk (.t 18)), none⟩,
    ⟨(some 23), (.off (.t 22) 0), none⟩,
    ⟨(some 24), (.ixa 32 1 (.t 23) (.t 19)), none⟩,
    ⟨none, (.st 1 (.t 24) (.t 21)), none⟩] [])
  (.seq (.reg [
    ⟨(some 25), (.mv (.t 6)), none⟩,
    ⟨(some 4), (.mv (.t 25)), none⟩,
    ⟨(some 5), (.mv (.k (.int .i64 0))), none⟩])
  .ret))
  .skip))))
  (.reg [
    ⟨(some 26), (.bin .add (.t 12) (.k (.int .i64 1))), none⟩,
    ⟨(some 12), (.mv (.t 26)), none⟩]))))
def VeneerDescTableOpenC1 (cDescOwn : FuncId) : LC := .block 0 (VeneerDescTableOpenC0 cDescOwn)
def VeneerDescTableOpenC2 (cDescOwn : FuncId) : LC := .seq (.reg [
    ⟨(some 8), (.mv (.t 0)), none⟩,
    ⟨(some 9), (.chk (.t 8)), none⟩,
    ⟨(some 10), (.off (.t 9) 0), none⟩,
    ⟨(some 11), (.ldn 32 (.t 10)), none⟩,
    ⟨(some 12), (.mv (.k (.int .i64 0))), none⟩]) (VeneerDescTableOpenC1 cDescOwn)
def VeneerDescTableOpenC3 (cDescOwn : FuncId) : LC := .seq (VeneerDescTableOpenC2 cDescOwn) (.seq (.reg [
    ⟨(some 4), (.mv (.k (.int .i64 0))), none⟩,
    ⟨(some 5), (.mv (.k (.int .i64 24))), none⟩])
  .ret)
def VeneerDescTableOpenC4 (cDescOwn : FuncId) : LC := .seq (.reg [
    ⟨(some 3), (.box (.t 1)), none⟩,
    ⟨(some 4), (.mv (.k (.int .i64 0))), none⟩,
    ⟨(some 5), (.mv (.k (.int .i64 0))), none⟩]) (VeneerDescTableOpenC3 cDescOwn)
def VeneerDescTableOpenC0S (cal : FuncId → Bool) (φ : Oracle) (N : Nat) (cDescOwn : FuncId) (gE0 : Heap → Option (IV × Heap)) : Nat → IV → IV → IV → IV → Heap → Option (IV × Heap)
  | 0, _, _, _, _, _ => none
  | n + 1, v0, v3, v11, v12, H =>
    ob (lbin .lss v12 (.int .i64 32)) fun t1 =>
    cnd t1
    (ob (lixg 32 v11 v12) fun t2 =>
    ob (leqv false (leq .ptr t2 .nilPtr)) fun t3 =>
    cnd t3
    (ob (lloadn H 6 v3) fun t4 =>
    ob (φ cDescOwn [t4] H) fun r5 =>
    ob (lchk v0) fun t6 =>
    ob (loff t6 0) fun t7 =>
    ob (lixa 32 1 t7 v12) fun t8 =>
    ob (lstV r5.2 1 t8 r5.1) fun r9 =>
    some ((.tuple [v12, (.int .i64 0)]), r9.2))
    (ob (lbin .add v12 (.int .i64 1)) fun t10 =>
    VeneerDescTableOpenC0S cal φ N cDescOwn gE0 n v0 v3 v11 t10 H))
    (gE0 H)
theorem VeneerDescTableOpenC0Eq (cal : FuncId → Bool) (φ : Oracle) (N : Nat) (cDescOwn : FuncId) {k : KT (IV × Heap)} (gE0 : Heap → Option (IV × Heap)) (hgE0 : ∀ σ H, k (.exit 0) σ H = gE0 H) (hR : ∀ σ H, k .ret σ H = resK [(.tmp 4), (.tmp 5)] [] σ H) : ∀ (n : Nat) (σ : Sg) (H : Heap), itK (lxK cal φ N (.seq (.reg [
    ⟨(some 13), (.bin .lss (.t 12) (.k (.int .i64 32))), none⟩])
  (.seq (.cond (.t 13) .skip
  (.exit 0))
  (.seq (.block 1 (.seq (.reg [
    ⟨(some 14), (.mv (.t 12)), none⟩,
    ⟨(some 15), (.ixg1 32 (.t 11) (.t 12)), none⟩,
    ⟨(some 6), (.mv (.t 14)), none⟩,
    ⟨(some 7), (.mv (.t 15)), none⟩])
  (.seq (.reg [
    ⟨(some 16), (.mv (.t 7)), none⟩,
    ⟨(some 17), (.eqv false .ptr (.t 16) (.k .nilPtr)), none⟩])
  (.cond (.t 17) (.seq (.drw [
    ⟨(some 18), (.mv (.t 0)), none⟩,
    ⟨(some 19), (.mv (.t 6)), none⟩,
    ⟨(some 20), (.ldn 6 (.t 3)), none⟩,
    ⟨(some 21), (.callF cDescOwn [(.t 20)]), none⟩,
    ⟨(some 22), (.chk (.t 18)), none⟩,
    ⟨(some 23), (.off (.t 22) 0), none⟩,
    ⟨(some 24), (.ixa 32 1 (.t 23) (.t 19)), none⟩,
    ⟨none, (.st 1 (.t 24) (.t 21)), none⟩] [])
  (.seq (.reg [
    ⟨(some 25), (.mv (.t 6)), none⟩,
    ⟨(some 4), (.mv (.t 25)), none⟩,
    ⟨(some 5), (.mv (.k (.int .i64 0))), none⟩])
  .ret))
  .skip))))
  (.reg [
    ⟨(some 26), (.bin .add (.t 12) (.k (.int .i64 1))), none⟩,
    ⟨(some 12), (.mv (.t 26)), none⟩]))))) n σ H k = VeneerDescTableOpenC0S cal φ N cDescOwn gE0 n (lk σ 0) (lk σ 3) (lk σ 11) (lk σ 12) H := by
  have hk : k = (kE 0 (fun σ H => gE0 H) (kR (resK [(.tmp 4), (.tmp 5)] []) k)) := (kE_mk hgE0 (kR_mk hR rfl))
  intro n
  induction n with
  | zero => intro σ H; rfl
  | succ n ih =>
    intro σ H
    rw [itK_succ, seqK_mk (g := fun σ H => VeneerDescTableOpenC0S cal φ N cDescOwn gE0 n (lk σ 0) (lk σ 3) (lk σ 11) (lk σ 12) H) ih, hk]
    kernel_rfl
def VeneerDescTableOpenC1S (cal : FuncId → Bool) (φ : Oracle) (N : Nat) (cDescOwn : FuncId) (gN : Heap → Option (IV × Heap)) (v0 v3 v11 v12 : IV) (H : Heap) : Option (IV × Heap) :=
    VeneerDescTableOpenC0S cal φ N cDescOwn (fun H => gN H) N v0 v3 v11 v12 H
theorem VeneerDescTableOpenC1Eq (cal : FuncId → Bool) (φ : Oracle) (N : Nat) (cDescOwn : FuncId) {k : KT (IV × Heap)} (gN : Heap → Option (IV × Heap)) (hgN : ∀ σ H, k .normal σ H = gN H) (hR : ∀ σ H, k .ret σ H = resK [(.tmp 4), (.tmp 5)] [] σ H) : ∀ (σ : Sg) (H : Heap), lxK cal φ N (VeneerDescTableOpenC1 cDescOwn) σ H k = VeneerDescTableOpenC1S cal φ N cDescOwn gN (lk σ 0) (lk σ 3) (lk σ 11) (lk σ 12) H := by
  have hk : k = (kN (fun σ H => gN H) (kR (resK [(.tmp 4), (.tmp 5)] []) k)) := (kN_mk hgN (kR_mk hR rfl))
  intro σ H
  rw [hk]
  show lxK cal φ N (VeneerDescTableOpenC0 cDescOwn) σ H (blockK 0 (kN (fun σ H => gN H) (kR (resK [(.tmp 4), (.tmp 5)] []) k))) = _
  exact VeneerDescTableOpenC0Eq cal φ N cDescOwn (k := (blockK 0 (kN (fun σ H => gN H) (kR (resK [(.tmp 4), (.tmp 5)] []) k)))) (fun H => gN H) (fun _ _ => rfl) (fun _ _ => rfl) N σ H
def VeneerDescTableOpenC2S (cal : FuncId → Bool) (φ : Oracle) (N : Nat) (cDescOwn : FuncId) (gN : Heap → Option (IV × Heap)) (v0 v3 : IV) (H : Heap) : Option (IV × Heap) :=
    ob (lchk v0) fun t1 =>
    ob (loff t1 0) fun t2 =>
    ob (lloadn H 32 t2) fun t3 =>
    VeneerDescTableOpenC1S cal φ N cDescOwn (fun H => gN H) v0 v3 t3 (.int .i64 0) H
theorem VeneerDescTableOpenC2Eq (cal : FuncId → Bool) (φ : Oracle) (N : Nat) (cDescOwn : FuncId) {k : KT (IV × Heap)} (gN : Heap → Option (IV × Heap)) (hgN : ∀ σ H, k .normal σ H = gN H) (hR : ∀ σ H, k .ret σ H = resK [(.tmp 4), (.tmp 5)] [] σ H) : ∀ (σ : Sg) (H : Heap), lxK cal φ N (VeneerDescTableOpenC2 cDescOwn) σ H k = VeneerDescTableOpenC2S cal φ N cDescOwn gN (lk σ 0) (lk σ 3) H := by
  have hk : k = (kN (fun σ H => gN H) (kR (resK [(.tmp 4), (.tmp 5)] []) k)) := (kN_mk hgN (kR_mk hR rfl))
  intro σ H
  rw [hk]
  show lxK cal φ N (.reg [
    ⟨(some 8), (.mv (.t 0)), none⟩,
    ⟨(some 9), (.chk (.t 8)), none⟩,
    ⟨(some 10), (.off (.t 9) 0), none⟩,
    ⟨(some 11), (.ldn 32 (.t 10)), none⟩,
    ⟨(some 12), (.mv (.k (.int .i64 0))), none⟩]) σ H (seqK (lxK cal φ N (VeneerDescTableOpenC1 cDescOwn)) (kN (fun σ H => gN H) (kR (resK [(.tmp 4), (.tmp 5)] []) k))) = _
  rw [seqK_mk (g := fun σ H => VeneerDescTableOpenC1S cal φ N cDescOwn (fun H => gN H) (lk σ 0) (lk σ 3) (lk σ 11) (lk σ 12) H) (VeneerDescTableOpenC1Eq cal φ N cDescOwn (k := (kN (fun σ H => gN H) (kR (resK [(.tmp 4), (.tmp 5)] []) k))) (fun H => gN H) (fun _ _ => rfl) (fun _ _ => rfl))]
  kernel_rfl
def VeneerDescTableOpenC3S (cal : FuncId → Bool) (φ : Oracle) (N : Nat) (cDescOwn : FuncId) (v0 v3 : IV) (H : Heap) : Option (IV × Heap) :=
    VeneerDescTableOpenC2S cal φ N cDescOwn (fun H => some ((.tuple [(.int .i64 0), (.int .i64 24)]), H)) v0 v3 H
theorem VeneerDescTableOpenC3Eq (cal : FuncId → Bool) (φ : Oracle) (N : Nat) (cDescOwn : FuncId) {k : KT (IV × Heap)} (hR : ∀ σ H, k .ret σ H = resK [(.tmp 4), (.tmp 5)] [] σ H) : ∀ (σ : Sg) (H : Heap), lxK cal φ N (VeneerDescTableOpenC3 cDescOwn) σ H k = VeneerDescTableOpenC3S cal φ N cDescOwn (lk σ 0) (lk σ 3) H := by
  have hk : k = (kR (resK [(.tmp 4), (.tmp 5)] []) k) := (kR_mk hR rfl)
  intro σ H
  rw [hk]
  show lxK cal φ N (VeneerDescTableOpenC2 cDescOwn) σ H (seqK (lxK cal φ N (.seq (.reg [
    ⟨(some 4), (.mv (.k (.int .i64 0))), none⟩,
    ⟨(some 5), (.mv (.k (.int .i64 24))), none⟩])
  .ret)) (kR (resK [(.tmp 4), (.tmp 5)] []) k)) = _
  exact VeneerDescTableOpenC2Eq cal φ N cDescOwn (k := (seqK (lxK cal φ N (.seq (.reg [
    ⟨(some 4), (.mv (.k (.int .i64 0))), none⟩,
    ⟨(some 5), (.mv (.k (.int .i64 24))), none⟩])
  .ret)) (kR (resK [(.tmp 4), (.tmp 5)] []) k))) (fun H => some ((.tuple [(.int .i64 0), (.int .i64 24)]), H)) (fun _ _ => rfl) (fun _ _ => rfl) σ H
def VeneerDescTableOpenC4S (cal : FuncId → Bool) (φ : Oracle) (N : Nat) (cDescOwn : FuncId) (v0 v1 : IV) (H : Heap) : Option (IV × Heap) :=
    ob (lbox H v1) fun r1 =>
    VeneerDescTableOpenC3S cal φ N cDescOwn v0 r1.1 r1.2
theorem VeneerDescTableOpenC4Eq (cal : FuncId → Bool) (φ : Oracle) (N : Nat) (cDescOwn : FuncId) {k : KT (IV × Heap)} (hR : ∀ σ H, k .ret σ H = resK [(.tmp 4), (.tmp 5)] [] σ H) : ∀ (σ : Sg) (H : Heap), lxK cal φ N (VeneerDescTableOpenC4 cDescOwn) σ H k = VeneerDescTableOpenC4S cal φ N cDescOwn (lk σ 0) (lk σ 1) H := by
  have hk : k = (kR (resK [(.tmp 4), (.tmp 5)] []) k) := (kR_mk hR rfl)
  intro σ H
  rw [hk]
  show lxK cal φ N (.reg [
    ⟨(some 3), (.box (.t 1)), none⟩,
    ⟨(some 4), (.mv (.k (.int .i64 0))), none⟩,
    ⟨(some 5), (.mv (.k (.int .i64 0))), none⟩]) σ H (seqK (lxK cal φ N (VeneerDescTableOpenC3 cDescOwn)) (kR (resK [(.tmp 4), (.tmp 5)] []) k)) = _
  rw [seqK_mk (g := fun σ H => VeneerDescTableOpenC3S cal φ N cDescOwn (lk σ 0) (lk σ 3) H) (VeneerDescTableOpenC3Eq cal φ N cDescOwn (k := (kR (resK [(.tmp 4), (.tmp 5)] []) k)) (fun _ _ => rfl))]
  kernel_rfl
def VeneerDescTableOpen (cDescOwn : FuncId) : LFun := ⟨(VeneerDescTableOpenC4 cDescOwn), [(.tmp 4), (.tmp 5)], 27⟩
def VeneerDescTableOpenS (cal : FuncId → Bool) (φ : Oracle) (N : Nat) (cDescOwn : FuncId) (v0 v1 : IV) (H : Heap) : Option (IV × Heap) :=
    VeneerDescTableOpenC4S cal φ N cDescOwn v0 v1 H
theorem VeneerDescTableOpenEq (cal : FuncId → Bool) (φ : Oracle) (N : Nat) (cDescOwn : FuncId) (v0 v1 : IV) (H : Heap) : lrunK cal φ N (VeneerDescTableOpen cDescOwn) [v0, v1] H = VeneerDescTableOpenS cal φ N cDescOwn v0 v1 H := by
  show lxK cal φ N (VeneerDescTableOpenC4 cDescOwn) (initFrom 0 [v0, v1]) H (endK [(.tmp 4), (.tmp 5)]) = _
  exact VeneerDescTableOpenC4Eq cal φ N cDescOwn (k := (endK [(.tmp 4), (.tmp 5)])) (fun _ _ => rfl) (initFrom 0 [v0, v1]) H

def VeneerDescTableGet (cDescOwn : FuncId) : LFun := ⟨(.seq (.reg [
    ⟨(some 4), (.zbox (.agg [(.int .i64 0), (.int .i64 0), (.int .i64 0), (.bool false), .nilSlice, (.int .i64 0)])), none⟩,
    ⟨(some 5), (.mv (.k (.int .i64 0))), none⟩])
  (.seq (.seq (.reg [
    ⟨(some 6), (.mv (.t 1)), none⟩,
    ⟨(some 7), (.bin .lss (.t 6) (.k (.int .i64 0))), none⟩,
    ⟨(some 8), (.mv (.t 7)), none⟩,
    ⟨(some 9), (.mv (.t 1)), (some (8, false))⟩,
    ⟨(some 10), (.bin .geq (.t 9) (.k (.int .i64 32))), (some (8, false))⟩,
    ⟨(some 11), (.pick (.t 8) (.k (.bool true)) (.t 10)), none⟩,
    ⟨(some 12), (.mv (.t 11)), none⟩,
    ⟨(some 13), (.mv (.t 0)), (some (12, false))⟩,
    ⟨(some 14), (.mv (.t 1)), (some (12, false))⟩,
    ⟨(some 15), (.chk (.t 13)), (some (12, false))⟩,
    ⟨(some 16), (.off (.t 15) 0), (some (12, false))⟩,
    ⟨(some 17), (.ixa 32 1 (.t 16) (.t 14)), (some (12, false))⟩,
    ⟨(some 18), (.ld1 (.t 17)), (some (12, false))⟩,
    ⟨(some 19), (.eqv false .ptr (.t 18) (.k .nilPtr)), (some (12, false))⟩,
    ⟨(some 20), (.pick (.t 12) (.k (.bool true)) (.t 19)), none⟩])
  (.cond (.t 20) (.seq (.reg [
    ⟨(some 21), (.bld [(.int .i64 0), (.int .i64 0), (.int .i64 0), (.bool false), .nilSlice, (.int .i64 0)] []), none⟩,
    ⟨none, (.st 6 (.t 4) (.t 21)), none⟩,
    ⟨(some 5), (.mv (.k (.int .i64 9))), none⟩])
  .ret)
  .skip))
  (.seq (.reg [
    ⟨(some 22), (.mv (.t 0)), none⟩,
    ⟨(some 23), (.mv (.t 1)), none⟩,
    ⟨(some 24), (.chk (.t 22)), none⟩,
    ⟨(some 25), (.off (.t 24) 0), none⟩,
    ⟨(some 26), (.ixa 32 1 (.t 25) (.t 23)), none⟩,
    ⟨(some 27), (.ld1 (.t 26)), none⟩,
    ⟨(some 28), (.chk (.t 27)), none⟩,
    ⟨(some 29), (.ldn 6 (.t 28)), none⟩,
    ⟨(some 30), (.callF cDescOwn [(.t 29)]), none⟩,
    ⟨(some 31), (.chk (.t 30)), none⟩,
    ⟨(some 32), (.ldn 6 (.t 31)), none⟩,
    ⟨none, (.st 6 (.t 4) (.t 32)), none⟩,
    ⟨(some 5), (.mv (.k (.int .i64 0))), none⟩])
  .ret))), [(.celln 4 6), (.tmp 5)], 33⟩
def VeneerDescTableGetS (cal : FuncId → Bool) (φ : Oracle) (N : Nat) (cDescOwn : FuncId) (v0 v1 : IV) (H : Heap) : Option (IV × Heap) :=
    ob (lzbox H (.agg [(.int .i64 0), (.int .i64 0), (.int .i64 0), (.bool false), .nilSlice, (.int .i64 0)])) fun r1 =>
    ob (lbin .lss v1 (.int .i64 0)) fun t2 =>
    ob (gq (isB t2 false) (some v1)) fun t3 =>
    ob (gq (isB t2 false) (lbin .geq t3 (.int .i64 32))) fun t4 =>
    ob (lpick t2 (.bool true) t4) fun t5 =>
    ob (gq (isB t5 false) (some v0)) fun t6 =>
    ob (gq (isB t5 false) (some v1)) fun t7 =>
    ob (gq (isB t5 false) (lchk t6)) fun t8 =>
    ob (gq (isB t5 false) (loff t8 0)) fun t9 =>
    ob (gq (isB t5 false) (lixa 32 1 t9 t7)) fun t10 =>
    ob (gq (isB t5 false) (lload1 r1.2 t10)) fun t11 =>
    ob (gq (isB t5 false) (leqv false (leq .ptr t11 .nilPtr))) fun t12 =>
    ob (lpick t5 (.bool true) t12) fun t13 =>
    cnd t13
    (ob (lbld [(.int .i64 0), (.int .i64 0), (.int .i64 0), (.bool false), .nilSlice, (.int .i64 0)] []) fun t14 =>
    ob (lstV r1.2 6 r1.1 t14) fun r15 =>
    ob (lloadn r15.2 6 r1.1) fun t16 =>
    some ((.tuple [t16, (.int .i64 9)]), r15.2))
    (ob (lchk v0) fun t17 =>
    ob (loff t17 0) fun t18 =>
    ob (lixa 32 1 t18 v1) fun t19 =>
    ob (lload1 r1.2 t19) fun t20 =>
    ob (lchk t20) fun t21 =>
    ob (lloadn r1.2 6 t21) fun t22 =>
    ob (φ cDescOwn [t22] r1.2) fun r23 =>
    ob (lchk r23.1) fun t24 =>
    ob (lloadn r23.2 6 t24) fun t25 =>
    ob (lstV r23.2 6 r1.1 t25) fun r26 =>
    ob (lloadn r26.2 6 r1.1) fun t27 =>
    some ((.tuple [t27, (.int .i64 0)]), r26.2))
theorem VeneerDescTableGetEq (cal : FuncId → Bool) (φ : Oracle) (N : Nat) (cDescOwn : FuncId) (v0 v1 : IV) (H : Heap) : lrunK cal φ N (VeneerDescTableGet cDescOwn) [v0, v1] H = VeneerDescTableGetS cal φ N cDescOwn v0 v1 H := by
  kernel_rfl

def VeneerDescTableSet (cVeneerDescTableGet cDescOwn : FuncId) : LFun := ⟨(.seq (.reg [
    ⟨(some 5), (.box (.t 2)), none⟩,
    ⟨(some 6), (.mv (.k (.int .i64 0))), none⟩])
  (.seq (.reg [
    ⟨(some 10), (.mv (.t 0)), none⟩,
    ⟨(some 11), (.mv (.t 1)), none⟩,
    ⟨(some 12), (.callF cVeneerDescTableGet [(.t 10), (.t 11)]), none⟩,
    ⟨(some 9), (.mv (.t 12)), none⟩,
    ⟨(some 13), (.ext (.t 9) 0), none⟩,
    ⟨(some 14), (.ext (.t 9) 1), none⟩,
    ⟨(some 7), (.zbox (.agg [(.int .i64 0), (.int .i64 0), (.int .i64 0), (.bool false), .nilSlice, (.int .i64 0)])), none⟩,
    ⟨none, (.st 6 (.t 7) (.t 13)), none⟩,
    ⟨(some 8), (.mv (.t 14)), none⟩])
  (.seq (.seq (.reg [
    ⟨(some 15), (.mv (.t 8)), none⟩,
    ⟨(some 16), (.bin .eql (.t 15) (.k (.int .i64 0))), none⟩])
  (.cond (.t 16) (.drw [
    ⟨(some 17), (.mv (.t 0)), none⟩,
    ⟨(some 18), (.mv (.t 1)), none⟩,
    ⟨(some 19), (.ldn 6 (.t 5)), none⟩,
    ⟨(some 20), (.callF cDescOwn [(.t 19)]), none⟩,
    ⟨(some 21), (.chk (.t 17)), none⟩,
    ⟨(some 22), (.off (.t 21) 0), none⟩,
    ⟨(some 23), (.ixa 32 1 (.t 22) (.t 18)), none⟩,
    ⟨none, (.st 1 (.t 23) (.t 20)), none⟩] [])
  .skip))
  (.seq (.reg [
    ⟨(some 24), (.mv (.t 8)), none⟩,
    ⟨(some 6), (.mv (.t 24)), none⟩])
  .ret)))), [(.tmp 6)], 25⟩
def VeneerDescTableSetS (cal : FuncId → Bool) (φ : Oracle) (N : Nat) (cVeneerDescTableGet cDescOwn : FuncId) (v0 v1 v2 : IV) (H : Heap) : Option (IV × Heap) :=
    ob (lbox H v2) fun r1 =>
    ob (φ cVeneerDescTableGet [v0, v1] r1.2) fun r2 =>
    ob (iextract r2.1 0) fun t3 =>
    ob (iextract r2.1 1) fun t4 =>
    ob (lzbox r2.2 (.agg [(.int .i64 0), (.int .i64 0), (.int .i64 0), (.bool false), .nilSlice, (.int .i64 0)])) fun r5 =>
    ob (lstV r5.2 6 r5.1 t3) fun r6 =>
    jn (fun (H15 : Heap) =>
    some (t4, H15)) fun J7 =>
    ob (lbin .eql t4 (.int .i64 0)) fun t16 =>
    cnd t16
    (ob (lloadn r6.2 6 r1.1) fun t17 =>
    ob (φ cDescOwn [t17] r6.2) fun r18 =>
    ob (lchk v0) fun t19 =>
    ob (loff t19 0) fun t20 =>
    ob (lixa 32 1 t20 v1) fun t21 =>
    ob (lstV r18.2 1 t21 r18.1) fun r22 =>
    J7 r22.2)
    (J7 r6.2)
theorem VeneerDescTableSetEq (cal : FuncId → Bool) (φ : Oracle) (N : Nat) (cVeneerDescTableGet cDescOwn : FuncId) (v0 v1 v2 : IV) (H : Heap) : lrunK cal φ N (VeneerDescTableSet cVeneerDescTableGet cDescOwn) [v0, v1, v2] H = VeneerDescTableSetS cal φ N cVeneerDescTableGet cDescOwn v0 v1 v2 H := by
  kernel_rfl

def VeneerDescTableClose (cVeneerDescTableGet : FuncId) : LFun := ⟨(.seq (.reg [
    ⟨(some 4), (.zbox (.agg [(.int .i64 0), (.int .i64 0), (.int .i64 0), (.bool false), .nilSlice, (.int .i64 0)])), none⟩,
    ⟨(some 5), (.mv (.k (.int .i64 0))), none⟩])
  (.seq (.reg [
    ⟨(some 9), (.mv (.t 0)), none⟩,
    ⟨(some 10), (.mv (.t 1)), none⟩,
    ⟨(some 11), (.callF cVeneerDescTableGet [(.t 9), (.t 10)]), none⟩,
    ⟨(some 8), (.mv (.t 11)), none⟩,
    ⟨(some 12), (.ext (.t 8) 0), none⟩,
    ⟨(some 13), (.ext (.t 8) 1), none⟩,
    ⟨(some 6), (.zbox (.agg [(.int .i64 0), (.int .i64 0), (.int .i64 0), (.bool false), .nilSlice, (.int .i64 0)])), none⟩,
    ⟨none, (.st 6 (.t 6) (.t 12)), none⟩,
    ⟨(some 7), (.mv (.t 13)), none⟩])
  (.seq (.seq (.reg [
    ⟨(some 14), (.mv (.t 7)), none⟩,
    ⟨(some 15), (.bin .eql (.t 14) (.k (.int .i64 0))), none⟩])
  (.cond (.t 15) (.reg [
    ⟨(some 16), (.mv (.t 0)), none⟩,
    ⟨(some 17), (.mv (.t 1)), none⟩,
    ⟨(some 18), (.chk (.t 16)), none⟩,
    ⟨(some 19), (.off (.t 18) 0), none⟩,
    ⟨(some 20), (.ixa 32 1 (.t 19) (.t 17)), none⟩,
    ⟨none, (.st 1 (.t 20) (.k .nilPtr)), none⟩])
  .skip))
  (.seq (.reg [
    ⟨(some 21), (.ldn 6 (.t 6)), none⟩,
    ⟨(some 22), (.mv (.t 7)), none⟩,
    ⟨none, (.st 6 (.t 4) (.t 21)), none⟩,
    ⟨(some 5), (.mv (.t 22)), none⟩])
  .ret)))), [(.celln 4 6), (.tmp 5)], 23⟩
def VeneerDescTableCloseS (cal : FuncId → Bool) (φ : Oracle) (N : Nat) (cVeneerDescTableGet : FuncId) (v0 v1 : IV) (H : Heap) : Option (IV × Heap) :=
    ob (lzbox H (.agg [(.int .i64 0), (.int .i64 0), (.int .i64 0), (.bool false), .nilSlice, (.int .i64 0)])) fun r1 =>
    ob (φ cVeneerDescTableGet [v0, v1] r1.2) fun r2 =>
    ob (iextract r2.1 0) fun t3 =>
    ob (iextract r2.1 1) fun t4 =>
    ob (lzbox r2.2 (.agg [(.int .i64 0), (.int .i64 0), (.int .i64 0), (.bool false), .nilSlice, (.int .i64 0)])) fun r5 =>
    ob (lstV r5.2 6 r5.1 t3) fun r6 =>
    jn (fun (H13 : Heap) =>
    ob (lloadn H13 6 r5.1) fun t14 =>
    ob (lstV H13 6 r1.1 t14) fun r15 =>
    ob (lloadn r15.2 6 r1.1) fun t16 =>
    some ((.tuple [t16, t4]), r15.2)) fun J7 =>
    ob (lbin .eql t4 (.int .i64 0)) fun t17 =>
    cnd t17
    (ob (lchk v0) fun t18 =>
    ob (loff t18 0) fun t19 =>
    ob (lixa 32 1 t19 v1) fun t20 =>
    ob (lstV r6.2 1 t20 .nilPtr) fun r21 =>
    J7 r21.2)
    (J7 r6.2)
theorem VeneerDescTableCloseEq (cal : FuncId → Bool) (φ : Oracle) (N : Nat) (cVeneerDescTableGet : FuncId) (v0 v1 : IV) (H : Heap) : lrunK cal φ N (VeneerDescTableClose cVeneerDescTableGet) [v0, v1] H = VeneerDescTableCloseS cal φ N cVeneerDescTableGet v0 v1 H := by
  kernel_rfl

def VeneerDescTableAllC0 : LC := .loop (.seq (.reg [
    ⟨(some 6), (.bin .lss (.t 5) (.k (.int .i64 32))), none⟩])
  (.seq (.cond (.t 6) .skip
  (.exit 0))
  (.seq (.block 1 (.seq (.reg [
    ⟨(some 7), (.mv (.t 5)), none⟩,
    ⟨(some 4), (.mv (.t 7)), none⟩])
  (.seq (.reg [
    ⟨(some 8), (.mv (.t 0)), none⟩,
    ⟨(some 9), (.mv (.t 4)), none⟩,
    ⟨(some 10), (.chk (.t 8)), none⟩,
    ⟨(some 11), (.off (.t 10) 0), none⟩,
    ⟨(some 12), (.ixa 32 1 (.t 11) (.t 9)), none⟩,
    ⟨(some 13), (.ld1 (.t 12)), none⟩,
    ⟨(some 14), (.eqv true .ptr (.t 13) (.k .nilPtr)), none⟩])
  (.cond (.t 14) (.reg [
    ⟨(some 15), (.mv (.t 3)), none⟩,
    ⟨(some 16), (.mv (.t 4)), none⟩,
    ⟨(some 17), (.bldS 1 1 [(.int .i64 0)] [(0, (.t 16))]), none⟩,
    ⟨(some 18), (.app 1 8 (.t 15) (.t 17)), none⟩,
    ⟨(some 3), (.mv (.t 18)), none⟩])
  .skip))))
  (.reg [
    ⟨(some 19), (.bin .add (.t 5) (.k (.int .i64 1))), none⟩,
    ⟨(some 5), (.mv (.t 19)), none⟩]))))
def VeneerDescTableAllC1 : LC := .block 0 VeneerDescTableAllC0
def VeneerDescTableAllC2 : LC := .seq (.reg [
    ⟨(some 5), (.mv (.k (.int .i64 0))), none⟩]) VeneerDescTableAllC1
def VeneerDescTableAllC3 : LC := .seq VeneerDescTableAllC2 (.seq (.reg [
    ⟨(some 20), (.mv (.t 3)), none⟩,
    ⟨(some 2), (.mv (.t 20)), none⟩])
  .ret)
def VeneerDescTableAllC4 : LC := .seq (.reg [
    ⟨(some 3), (.mv (.k .nilSlice)), none⟩]) VeneerDescTableAllC3
def VeneerDescTableAllC5 : LC := .seq (.reg [
    ⟨(some 2), (.mv (.k .nilSlice)), none⟩]) VeneerDescTableAllC4
def VeneerDescTableAllC0S (cal : FuncId → Bool) (φ : Oracle) (N : Nat) (gE0 : IV → Heap → Option (IV × Heap)) : Nat → IV → IV → IV → Heap → Option (IV × Heap)
  | 0, _, _, _, _ => none
  | n + 1, v0, v3, v5, H =>
    ob (lbin .lss v5 (.int .i64 32)) fun t1 =>
    cnd t1
    (jn (fun (j3 : IV) (H8 : Heap) =>
    ob (lbin .add v5 (.int .i64 1)) fun t9 =>
    VeneerDescTableAllC0S cal φ N gE0 n v0 j3 t9 H8) fun J2 =>
    ob (lchk v0) fun t10 =>
    ob (loff t10 0) fun t11 =>
    ob (lixa 32 1 t11 v5) fun t12 =>
    ob (lload1 H t12) fun t13 =>
    ob (leqv true (leq .ptr t13 .nilPtr)) fun t14 =>
    cnd t14
    (ob (lbldS H 1 1 [(.int .i64 0)] [(0, v5)]) fun r15 =>
    ob (lapp r15.2 1 8 v3 r15.1) fun r16 =>
    J2 r16.1 r16.2)
    (J2 v3 H))
    (gE0 v3 H)
theorem VeneerDescTableAllC0Eq (cal : FuncId → Bool) (φ : Oracle) (N : Nat) {k : KT (IV × Heap)} (gE0 : IV → Heap → Option (IV × Heap)) (hgE0 : ∀ σ H, k (.exit 0) σ H = gE0 (lk σ 3) H) : ∀ (n : Nat) (σ : Sg) (H : Heap), itK (lxK cal φ N (.seq (.reg [
    ⟨(some 6), (.bin .lss (.t 5) (.k (.int .i64 32))), none⟩])
  (.seq (.cond (.t 6) .skip
  (.exit 0))
  (.seq (.block 1 (.seq (.reg [
    ⟨(some 7), (.mv (.t 5)), none⟩,
    ⟨(some 4), (.mv (.t 7)), none⟩])
  (.seq (.reg [
    ⟨(some 8), (.mv (.t 0)), none⟩,
    ⟨(some 9), (.mv (.t 4)), none⟩,
    ⟨(some 10), (.chk (.t 8)), none⟩,
    ⟨(some 11), (.off (.t 10) 0), none⟩,
    ⟨(some 12), (.ixa 32 1 (.t 11) (.t 9)), none⟩,
    ⟨(some 13), (.ld1 (.t 12)), none⟩,
    ⟨(some 14), (.eqv true .ptr (.t 13) (.k .nilPtr)), none⟩])
  (.cond (.t 14) (.reg [
    ⟨(some 15), (.mv (.t 3)), none⟩,
    ⟨(some 16), (.mv (.t 4)), none⟩,
    ⟨(some 17), (.bldS 1 1 [(.int .i64 0)] [(0, (.t 16))]), none⟩,
    ⟨(some 18), (.app 1 8 (.t 15) (.t 17)), none⟩,
    ⟨(some 3), (.mv (.t 18)), none⟩])
  .skip))))
  (.reg [
    ⟨(some 19), (.bin .add (.t 5) (.k (.int .i64 1))), none⟩,
    ⟨(some 5), (.mv (.t 19)), none⟩]))))) n σ H k = VeneerDescTableAllC0S cal φ N gE0 n (lk σ 0) (lk σ 3) (lk σ 5) H := by
  have hk : k = (kE 0 (fun σ H => gE0 (lk σ 3) H) k) := (kE_mk hgE0 rfl)
  intro n
  induction n with
  | zero => intro σ H; rfl
  | succ n ih =>
    intro σ H
    rw [itK_succ, seqK_mk (g := fun σ H => VeneerDescTableAllC0S cal φ N gE0 n (lk σ 0) (lk σ 3) (lk σ 5) H) ih, hk]
    kernel_rfl
def VeneerDescTableAllC1S (cal : FuncId → Bool) (φ : Oracle) (N : Nat) (gN : IV → Heap → Option (IV × Heap)) (v0 v3 v5 : IV) (H : Heap) : Option (IV × Heap) :=
    VeneerDescTableAllC0S cal φ N (fun v3 H => gN v3 H) N v0 v3 v5 H
theorem VeneerDescTableAllC1Eq (cal : FuncId → Bool) (φ : Oracle) (N : Nat) {k : KT (IV × Heap)} (gN : IV → Heap → Option (IV × Heap)) (hgN : ∀ σ H, k .normal σ H = gN (lk σ 3) H) : ∀ (σ : Sg) (H : Heap), lxK cal φ N VeneerDescTableAllC1 σ H k = VeneerDescTableAllC1S cal φ N gN (lk σ 0) (lk σ 3) (lk σ 5) H := by
  have hk : k = (kN (fun σ H => gN (lk σ 3) H) k) := (kN_mk hgN rfl)
  intro σ H
  rw [hk]
  show lxK cal φ N VeneerDescTableAllC0 σ H (blockK 0 (kN (fun σ H => gN (lk σ 3) H) k)) = _
  exact VeneerDescTableAllC0Eq cal φ N (k := (blockK 0 (kN (fun σ H => gN (lk σ 3) H) k))) (fun v3 H => gN v3 H) (fun _ _ => rfl) N σ H
def VeneerDescTableAllC2S (cal : FuncId → Bool) (φ : Oracle) (N : Nat) (gN : IV → Heap → Option (IV × Heap)) (v0 v3 : IV) (H : Heap) : Option (IV × Heap) :=
    VeneerDescTableAllC1S cal φ N (fun v3 H => gN v3 H) v0 v3 (.int .i64 0) H
theorem VeneerDescTableAllC2Eq (cal : FuncId → Bool) (φ : Oracle) (N : Nat) {k : KT (IV × Heap)} (gN : IV → Heap → Option (IV × Heap)) (hgN : ∀ σ H, k .normal σ H = gN (lk σ 3) H) : ∀ (σ : Sg) (H : Heap), lxK cal φ N VeneerDescTableAllC2 σ H k = VeneerDescTableAllC2S cal φ N gN (lk σ 0) (lk σ 3) H := by
  have hk : k = (kN (fun σ H => gN (lk σ 3) H) k) := (kN_mk hgN rfl)
  intro σ H
  rw [hk]
  show lxK cal φ N (.reg [
    ⟨(some 5), (.mv (.k (.int .i64 0))), none⟩]) σ H (seqK (lxK cal φ N VeneerDescTableAllC1) (kN (fun σ H => gN (lk σ 3) H) k)) = _
  rw [seqK_mk (g := fun σ H => VeneerDescTableAllC1S cal φ N (fun v3 H => gN v3 H) (lk σ 0) (lk σ 3) (lk σ 5) H) (VeneerDescTableAllC1Eq cal φ N (k := (kN (fun σ H => gN (lk σ 3) H) k)) (fun v3 H => gN v3 H) (fun _ _ => rfl))]
  kernel_rfl
def VeneerDescTableAllC3S (cal : FuncId → Bool) (φ : Oracle) (N : Nat) (v0 v3 : IV) (H : Heap) : Option (IV × Heap) :=
    VeneerDescTableAllC2S cal φ N (fun v3 H => some (v3, H)) v0 v3 H
theorem VeneerDescTableAllC3Eq (cal : FuncId → Bool) (φ : Oracle) (N : Nat) {k : KT (IV × Heap)} (hR : ∀ σ H, k .ret σ H = resK [(.tmp 2)] [] σ H) : ∀ (σ : Sg) (H : Heap), lxK cal φ N VeneerDescTableAllC3 σ H k = VeneerDescTableAllC3S cal φ N (lk σ 0) (lk σ 3) H := by
  have hk : k = (kR (resK [(.tmp 2)] []) k) := (kR_mk hR rfl)
  intro σ H
  rw [hk]
  show lxK cal φ N VeneerDescTableAllC2 σ H (seqK (lxK cal φ N (.seq (.reg [
    ⟨(some 20), (.mv (.t 3)), none⟩,
    ⟨(some 2), (.mv (.t 20)), none⟩])
  .ret)) (kR (resK [(.tmp 2)] []) k)) = _
  exact VeneerDescTableAllC2Eq cal φ N (k := (seqK (lxK cal φ N (.seq (.reg [
    ⟨(some 20), (.mv (.t 3)), none⟩,
    ⟨(some 2), (.mv (.t 20)), none⟩])
  .ret)) (kR (resK [(.tmp 2)] []) k))) (fun v3 H => some (v3, H)) (fun _ _ => rfl) σ H
def VeneerDescTableAllC4S (cal : FuncId → Bool) (φ : Oracle) (N : Nat) (v0 : IV) (H : Heap) : Option (IV × Heap) :=
    VeneerDescTableAllC3S cal φ N v0 .nilSlice H
theorem VeneerDescTableAllC4Eq (cal : FuncId → Bool) (φ : Oracle) (N : Nat) {k : KT (IV × Heap)} (hR : ∀ σ H, k .ret σ H = resK [(.tmp 2)] [] σ H) : ∀ (σ : Sg) (H : Heap), lxK cal φ N VeneerDescTableAllC4 σ H k = VeneerDescTableAllC4S cal φ N (lk σ 0) H := by
  have hk : k = (kR (resK [(.tmp 2)] []) k) := (kR_mk hR rfl)
  intro σ H
  rw [hk]
  show lxK cal φ N (.reg [
    ⟨(some 3), (.mv (.k .nilSlice)), none⟩]) σ H (seqK (lxK cal φ N VeneerDescTableAllC3) (kR (resK [(.tmp 2)] []) k)) = _
  rw [seqK_mk (g := fun σ H => VeneerDescTableAllC3S cal φ N (lk σ 0) (lk σ 3) H) (VeneerDescTableAllC3Eq cal φ N (k := (kR (resK [(.tmp 2)] []) k)) (fun _ _ => rfl))]
  kernel_rfl
def VeneerDescTableAllC5S (cal : FuncId → Bool) (φ : Oracle) (N : Nat) (v0 : IV) (H : Heap) : Option (IV × Heap) :=
    VeneerDescTableAllC4S cal φ N v0 H
theorem VeneerDescTableAllC5Eq (cal : FuncId → Bool) (φ : Oracle) (N : Nat) {k : KT (IV × Heap)} (hR : ∀ σ H, k .ret σ H = resK [(.tmp 2)] [] σ H) : ∀ (σ : Sg) (H : Heap), lxK cal φ N VeneerDescTableAllC5 σ H k = VeneerDescTableAllC5S cal φ N (lk σ 0) H := by
  have hk : k = (kR (resK [(.tmp 2)] []) k) := (kR_mk hR rfl)
  intro σ H
  rw [hk]
  show lxK cal φ N (.reg [
    ⟨(some 2), (.mv (.k .nilSlice)), none⟩]) σ H (seqK (lxK cal φ N VeneerDescTableAllC4) (kR (resK [(.tmp 2)] []) k)) = _
  rw [seqK_mk (g := fun σ H => VeneerDescTableAllC4S cal φ N (lk σ 0) H) (VeneerDescTableAllC4Eq cal φ N (k := (kR (resK [(.tmp 2)] []) k)) (fun _ _ => rfl))]
  kernel_rfl
def VeneerDescTableAll : LFun := ⟨VeneerDescTableAllC5, [(.tmp 2)], 21⟩
def VeneerDescTableAllS (cal : FuncId → Bool) (φ : Oracle) (N : Nat) (v0 : IV) (H : Heap) : Option (IV × Heap) :=
    VeneerDescTableAllC5S cal φ N v0 H
theorem VeneerDescTableAllEq (cal : FuncId → Bool) (φ : Oracle) (N : Nat) (v0 : IV) (H : Heap) : lrunK cal φ N (VeneerDescTableAll) [v0] H = VeneerDescTableAllS cal φ N v0 H := by
  show lxK cal φ N VeneerDescTableAllC5 (initFrom 0 [v0]) H (endK [(.tmp 2)]) = _
  exact VeneerDescTableAllC5Eq cal φ N (k := (endK [(.tmp 2)])) (fun _ _ => rfl) (initFrom 0 [v0]) H

def VeneerDescTableFull (cSlicesContainsVeneerApiDescVeneerApiDesc : FuncId) : LFun := ⟨(.seq (.reg [
    ⟨(some 2), (.mv (.k (.bool false))), none⟩])
  (.seq (.reg [
    ⟨(some 3), (.mv (.t 0)), none⟩,
    ⟨(some 4), (.chk (.t 3)), none⟩,
    ⟨(some 5), (.off (.t 4) 0), none⟩,
    ⟨(some 6), (.slc (.arr 32 1) (.t 5) none none none), none⟩,
    ⟨(some 7), (.callF cSlicesContainsVeneerApiDescVeneerApiDesc [(.t 6), (.k .nilPtr)]), none⟩,
    ⟨(some 8), (.un .not (.t 7)), none⟩,
    ⟨(some 2), (.mv (.t 8)), none⟩])
  .ret)), [(.tmp 2)], 9⟩
def VeneerDescTableFullS (cal : FuncId → Bool) (φ : Oracle) (N : Nat) (cSlicesContainsVeneerApiDescVeneerApiDesc : FuncId) (v0 : IV) (H : Heap) : Option (IV × Heap) :=
    ob (lchk v0) fun t1 =>
    ob (loff t1 0) fun t2 =>
    ob (lslice H (.arr 32 1) t2 none none none) fun t3 =>
    ob (φ cSlicesContainsVeneerApiDescVeneerApiDesc [t3, .nilPtr] H) fun r4 =>
    ob (iun .not r4.1) fun t5 =>
    some (t5, r4.2)
theorem VeneerDescTableFullEq (cal : FuncId → Bool) (φ : Oracle) (N : Nat) (cSlicesContainsVeneerApiDescVeneerApiDesc : FuncId) (v0 : IV) (H : Heap) : lrunK cal φ N (VeneerDescTableFull cSlicesContainsVeneerApiDescVeneerApiDesc) [v0] H = VeneerDescTableFullS cal φ N cSlicesContainsVeneerApiDescVeneerApiDesc v0 H := by
  kernel_rfl

def veneerref07Own : LFun := ⟨(.seq (.reg [
    ⟨(some 1), (.box (.t 0)), none⟩,
    ⟨(some 2), (.zbox (.agg [(.int .i64 0), (.int .i64 0), (.int .i64 0), (.bool false), .nilSlice, (.int .i64 0)])), none⟩])
  (.seq (.reg [
    ⟨(some 3), (.bldS 1 0 [(.str [])] []), none⟩,
    ⟨(some 4), (.off (.t 1) 4), none⟩,
    ⟨(some 5), (.ld1 (.t 4)), none⟩,
    ⟨(some 6), (.app 1 16 (.t 3) (.t 5)), none⟩,
    ⟨(some 7), (.off (.t 1) 4), none⟩,
    ⟨none, (.st 1 (.t 7) (.t 6)), none⟩])
  (.seq (.reg [
    ⟨(some 8), (.ldn 6 (.t 1)), none⟩,
    ⟨none, (.st 6 (.t 2) (.t 8)), none⟩])
  .ret))), [(.celln 2 6)], 9⟩
def veneerref07OwnS (cal : FuncId → Bool) (φ : Oracle) (N : Nat) (v0 : IV) (H : Heap) : Option (IV × Heap) :=
    ob (lbox H v0) fun r1 =>
    ob (lzbox r1.2 (.agg [(.int .i64 0), (.int .i64 0), (.int .i64 0), (.bool false), .nilSlice, (.int .i64 0)])) fun r2 =>
    ob (lbldS r2.2 1 0 [(.str [])] []) fun r3 =>
    ob (loff r1.1 4) fun t4 =>
    ob (lload1 r3.2 t4) fun t5 =>
    ob (lapp r3.2 1 16 r3.1 t5) fun r6 =>
    ob (loff r1.1 4) fun t7 =>
    ob (lstV r6.2 1 t7 r6.1) fun r8 =>
    ob (lloadn r8.2 6 r1.1) fun t9 =>
    ob (lstV r8.2 6 r2.1 t9) fun r10 =>
    ob (lloadn r10.2 6 r2.1) fun t11 =>
    some (t11, r10.2)
theorem veneerref07OwnEq (cal : FuncId → Bool) (φ : Oracle) (N : Nat) (v0 : IV) (H : Heap) : lrunK cal φ N (veneerref07Own) [v0] H = veneerref07OwnS cal φ N v0 H := by
  kernel_rfl

def VeneerVeneerref07TableOpenC0 (cVeneerref07Own : FuncId) : LC := .loop (.seq (.seq (.reg [
    ⟨(some 7), (.mv (.t 6)), none⟩,
    ⟨(some 8), (.bin .lss (.t 7) (.k (.int .i64 32))), none⟩])
  (.cond (.t 8) .skip
  (.exit 0)))
  (.seq (.block 1 (.seq (.reg [
    ⟨(some 11), (.mv (.t 0)), none⟩,
    ⟨(some 12), (.mv (.t 6)), none⟩,
    ⟨(some 13), (.chk (.t 11)), none⟩,
    ⟨(some 14), (.off (.t 13) 0), none⟩,
    ⟨(some 15), (.ixa 32 1 (.t 14) (.t 12)), none⟩,
    ⟨(some 16), (.ld1 (.t 15)), none⟩,
    ⟨(some 17), (.un .not (.t 16)), none⟩])
  (.cond (.t 17) (.seq (.reg [
    ⟨(some 18), (.mv (.t 0)), none⟩,
    ⟨(some 19), (.mv (.t 6)), none⟩,
    ⟨(some 20), (.chk (.t 18)), none⟩,
    ⟨(some 21), (.off (.t 20) 0), none⟩,
    ⟨(some 22), (.ixa 32 1 (.t 21) (.t 19)), none⟩,
    ⟨none, (.st 1 (.t 22) (.k (.bool true))), none⟩])
  (.seq (.drw [
    ⟨(some 23), (.mv (.t 0)), none⟩,
    ⟨(some 24), (.mv (.t 6)), none⟩,
    ⟨(some 25), (.ldn 6 (.t 3)), none⟩,
    ⟨(some 26), (.callF cVeneerref07Own [(.t 25)]), none⟩,
    ⟨(some 27), (.chk (.t 23)), none⟩,
    ⟨(some 28), (.off (.t 27) 32), none⟩,
    ⟨(some 29), (.ixa 32 6 (.t 28) (.t 24)), none⟩,
    ⟨none, (.st 6 (.t 29) (.t 26)), none⟩] [])
  (.seq (.reg [
    ⟨(some 30), (.mv (.t 6)), none⟩,
    ⟨(some 4), (.mv (.t 30)), none⟩,
    ⟨(some 5), (.mv (.k (.int .i64 0))), none⟩])
  .ret)))
  .skip)))
  (.reg [
    ⟨(some 9), (.mv (.t 6)), none⟩,
    ⟨(some 10), (.bin .add (.t 9) (.k (.int .i64 1))), none⟩,
    ⟨(some 6), (.mv (.t 10)), none⟩])))
def VeneerVeneerref07TableOpenC1 (cVeneerref07Own : FuncId) : LC := .block 0 (VeneerVeneerref07TableOpenC0 cVeneerref07Own)
def VeneerVeneerref07TableOpenC2 (cVeneerref07Own : FuncId) : LC := .seq (.reg [
    ⟨(some 6), (.mv (.k (.int .i64 0))), none⟩]) (VeneerVeneerref07TableOpenC1 cVeneerref07Own)
def VeneerVeneerref07TableOpenC3 (cVeneerref07Own : FuncId) : LC := .seq (VeneerVeneerref07TableOpenC2 cVeneerref07Own) (.seq (.reg [
    ⟨(some 4), (.mv (.k (.int .i64 0))), none⟩,
    ⟨(some 5), (.mv (.k (.int .i64 24))), none⟩])
  .ret)
def VeneerVeneerref07TableOpenC4 (cVeneerref07Own : FuncId) : LC := .seq (.reg [
    ⟨(some 3), (.box (.t 1)), none⟩,
    ⟨(some 4), (.mv (.k (.int .i64 0))), none⟩,
    ⟨(some 5), (.mv (.k (.int .i64 0))), none⟩]) (VeneerVeneerref07TableOpenC3 cVeneerref07Own)
def VeneerVeneerref07TableOpenC0S (cal : FuncId → Bool) (φ : Oracle) (N : Nat) (cVeneerref07Own : FuncId) (gE0 : Heap → Option (IV × Heap)) : Nat → IV → IV → IV → Heap → Option (IV × Heap)
  | 0, _, _, _, _ => none
  | n + 1, v0, v3, v6, H =>
    ob (lbin .lss v6 (.int .i64 32)) fun t1 =>
    cnd t1
    (ob (lchk v0) fun t2 =>
    ob (loff t2 0) fun t3 =>
    ob (lixa 32 1 t3 v6) fun t4 =>
    ob (lload1 H t4) fun t5 =>
    ob (iun .not t5) fun t6 =>
    cnd t6
    (ob (lchk v0) fun t7 =>
    ob (loff t7 0) fun t8 =>
    ob (lixa 32 1 t8 v6) fun t9 =>
    ob (lstV H 1 t9 (.bool true)) fun r10 =>
    ob (lloadn r10.2 6 v3) fun t11 =>
    ob (φ cVeneerref07Own [t11] r10.2) fun r12 =>
    ob (lchk v0) fun t13 =>
    ob (loff t13 32) fun t14 =>
    ob (lixa 32 6 t14 v6) fun t15 =>
    ob (lstV r12.2 6 t15 r12.1) fun r16 =>
    some ((.tuple [v6, (.int .i64 0)]), r16.2))
    (ob (lbin .add v6 (.int .i64 1)) fun t17 =>
    VeneerVeneerref07TableOpenC0S cal φ N cVeneerref07Own gE0 n v0 v3 t17 H))
    (gE0 H)
theorem VeneerVeneerref07TableOpenC0Eq (cal : FuncId → Bool) (φ : Oracle) (N : Nat) (cVeneerref07Own : FuncId) {k : KT (IV × Heap)} (gE0 : Heap → Option (IV × Heap)) (hgE0 : ∀ σ H, k (.exit 0) σ H = gE0 H) (hR : ∀ σ H, k .ret σ H = resK [(.tmp 4), (.tmp 5)] [] σ H) : ∀ (n : Nat) (σ : Sg) (H : Heap), itK (lxK cal φ N (.seq (.seq (.reg [
    ⟨(some 7), (.mv (.t 6)), none⟩,
    ⟨(some 8), (.bin .lss (.t 7) (.k (.int .i64 32))), none⟩])
  (.cond (.t 8) .skip
  (.exit 0)))
  (.seq (.block 1 (.seq (.reg [
    ⟨(some 11), (.mv (.t 0)), none⟩,
    ⟨(some 12), (.mv (.t 6)), none⟩,
    ⟨(some 13), (.chk (.t 11)), none⟩,
    ⟨(some 14), (.off (.t 13) 0), none⟩,
    ⟨(some 15), (.ixa 32 1 (.t 14) (.t 12)), none⟩,
    ⟨(some 16), (.ld1 (.t 15)), none⟩,
    ⟨(some 17), (.un .not (.t 16)), none⟩])
  (.cond (.t 17) (.seq (.reg [
    ⟨(some 18), (.mv (.t 0)), none⟩,
    ⟨(some 19), (.mv (.t 6)), none⟩,
    ⟨(some 20), (.chk (.t 18)), none⟩,
    ⟨(some 21), (.off (.t 20) 0), none⟩,
    ⟨(some 22), (.ixa 32 1 (.t 21) (.t 19)), none⟩,
    ⟨none, (.st 1 (.t 22) (.k (.bool true))), none⟩])
  (.seq (.drw [
    ⟨(some 23), (.mv (.t 0)), none⟩,
    ⟨(some 24), (.mv (.t 6)), none⟩,
    ⟨(some 25), (.ldn 6 (.t 3)), none⟩,
    ⟨(some 26), (.callF cVeneerref07Own [(.t 25)]), none⟩,
    ⟨(some 27), (.chk (.t 23)), none⟩,
    ⟨(some 28), (.off (.t 27) 32), none⟩,
    ⟨(some 29), (.ixa 32 6 (.t 28) (.t 24)), none⟩,
    ⟨none, (.st 6 (.t 29) (.t 26)), none⟩] [])
  (.seq (.reg [
    ⟨(some 30), (.mv (.t 6)), none⟩,
    ⟨(some 4), (.mv (.t 30)), none⟩,
    ⟨(some 5), (.mv (.k (.int .i64 0))), none⟩])
  .ret)))
  .skip)))
  (.reg [
    ⟨(some 9), (.mv (.t 6)), none⟩,
    ⟨(some 10), (.bin .add (.t 9) (.k (.int .i64 1))), none⟩,
    ⟨(some 6), (.mv (.t 10)), none⟩])))) n σ H k = VeneerVeneerref07TableOpenC0S cal φ N cVeneerref07Own gE0 n (lk σ 0) (lk σ 3) (lk σ 6) H := by
  have hk : k = (kE 0 (fun σ H => gE0 H) (kR (resK [(.tmp 4), (.tmp 5)] []) k)) := (kE_mk hgE0 (kR_mk hR rfl))
  intro n
  induction n with
  | zero => intro σ H; rfl
  | succ n ih =>
    intro σ H
    rw [itK_succ, seqK_mk (g := fun σ H => VeneerVeneerref07TableOpenC0S cal φ N cVeneerref07Own gE0 n (lk σ 0) (lk σ 3) (lk σ 6) H) ih, hk]
    kernel_rfl
def VeneerVeneerref07TableOpenC1S (cal : FuncId → Bool) (φ : Oracle) (N : Nat) (cVeneerref07Own : FuncId) (gN : Heap → Option (IV × Heap)) (v0 v3 v6 : IV) (H : Heap) : Option (IV × Heap) :=
    VeneerVeneerref07TableOpenC0S cal φ N cVeneerref07Own (fun H => gN H) N v0 v3 v6 H
theorem VeneerVeneerref07TableOpenC1Eq (cal : FuncId → Bool) (φ : Oracle) (N : Nat) (cVeneerref07Own : FuncId) {k : KT (IV × Heap)} (gN : Heap → Option (IV × Heap)) (hgN : ∀ σ H, k .normal σ H = gN H) (hR : ∀ σ H, k .ret σ H = resK [(.tmp 4), (.tmp 5)] [] σ H) : ∀ (σ : Sg) (H : Heap), lxK cal φ N (VeneerVeneerref07TableOpenC1 cVeneerref07Own) σ H k = VeneerVeneerref07TableOpenC1S cal φ N cVeneerref07Own gN (lk σ 0) (lk σ 3) (lk σ 6) H := by
  have hk : k = (kN (fun σ H => gN H) (kR (resK [(.tmp 4), (.tmp 5)] []) k)) := (kN_mk hgN (kR_mk hR rfl))
  intro σ H
  rw [hk]
  show lxK cal φ N (VeneerVeneerref07TableOpenC0 cVeneerref07Own) σ H (blockK 0 (kN (fun σ H => gN H) (kR (resK [(.tmp 4), (.tmp 5)] []) k))) = _
  exact VeneerVeneerref07TableOpenC0Eq cal φ N cVeneerref07Own (k := (blockK 0 (kN (fun σ H => gN H) (kR (resK [(.tmp 4), (.tmp 5)] []) k)))) (fun H => gN H) (fun _ _ => rfl) (fun _ _ => rfl) N σ H
def VeneerVeneerref07TableOpenC2S (cal : FuncId → Bool) (φ : Oracle) (N : Nat) (cVeneerref07Own : FuncId) (gN : Heap → Option (IV × Heap)) (v0 v3 : IV) (H : Heap) : Option (IV × Heap) :=
    VeneerVeneerref07TableOpenC1S cal φ N cVeneerref07Own (fun H => gN H) v0 v3 (.int .i64 0) H
theorem VeneerVeneerref07TableOpenC2Eq (cal : FuncId → Bool) (φ : Oracle) (N : Nat) (cVeneerref07Own : FuncId) {k : KT (IV × Heap)} (gN : Heap → Option (IV × Heap)) (hgN : ∀ σ H, k .normal σ H = gN H) (hR : ∀ σ H, k .ret σ H = resK [(.tmp 4), (.tmp 5)] [] σ H) : ∀ (σ : Sg) (H : Heap), lxK cal φ N (VeneerVeneerref07TableOpenC2 cVeneerref07Own) σ H k = VeneerVeneerref07TableOpenC2S cal φ N cVeneerref07Own gN (lk σ 0) (lk σ 3) H := by
  have hk : k = (kN (fun σ H => gN H) (kR (resK [(.tmp 4), (.tmp 5)] []) k)) := (kN_mk hgN (kR_mk hR rfl))
  intro σ H
  rw [hk]
  show lxK cal φ N (.reg [
    ⟨(some 6), (.mv (.k (.int .i64 0))), none⟩]) σ H (seqK (lxK cal φ N (VeneerVeneerref07TableOpenC1 cVeneerref07Own)) (kN (fun σ H => gN H) (kR (resK [(.tmp 4), (.tmp 5)] []) k))) = _
  rw [seqK_mk (g := fun σ H => VeneerVeneerref07TableOpenC1S cal φ N cVeneerref07Own (fun H => gN H) (lk σ 0) (lk σ 3) (lk σ 6) H) (VeneerVeneerref07TableOpenC1Eq cal φ N cVeneerref07Own (k := (kN (fun σ H => gN H) (kR (resK [(.tmp 4), (.tmp 5)] []) k))) (fun H => gN H) (fun _ _ => rfl) (fun _ _ => rfl))]
  kernel_rfl
def VeneerVeneerref07TableOpenC3S (cal : FuncId → Bool) (φ : Oracle) (N : Nat) (cVeneerref07Own : FuncId) (v0 v3 : IV) (H : Heap) : Option (IV × Heap) :=
    VeneerVeneerref07TableOpenC2S cal φ N cVeneerref07Own (fun H => some ((.tuple [(.int .i64 0), (.int .i64 24)]), H)) v0 v3 H
theorem VeneerVeneerref07TableOpenC3Eq (cal : FuncId → Bool) (φ : Oracle) (N : Nat) (cVeneerref07Own : FuncId) {k : KT (IV × Heap)} (hR : ∀ σ H, k .ret σ H = resK [(.tmp 4), (.tmp 5)] [] σ H) : ∀ (σ : Sg) (H : Heap), lxK cal φ N (VeneerVeneerref07TableOpenC3 cVeneerref07Own) σ H k = VeneerVeneerref07TableOpenC3S cal φ N cVeneerref07Own (lk σ 0) (lk σ 3) H := by
  have hk : k = (kR (resK [(.tmp 4), (.tmp 5)] []) k) := (kR_mk hR rfl)
  intro σ H
  rw [hk]
  show lxK cal φ N (VeneerVeneerref07TableOpenC2 cVeneerref07Own) σ H (seqK (lxK cal φ N (.seq (.reg [
    ⟨(some 4), (.mv (.k (.int .i64 0))), none⟩,
    ⟨(some 5), (.mv (.k (.int .i64 24))), none⟩])
  .ret)) (kR (resK [(.tmp 4), (.tmp 5)] []) k)) = _
  exact VeneerVeneerref07TableOpenC2Eq cal φ N cVeneerref07Own (k := (seqK (lxK cal φ N (.seq (.reg [
    ⟨(some 4), (.mv (.k (.int .i64 0))), none⟩,
    ⟨(some 5), (.mv (.k (.int .i64 24))), none⟩])
  .ret)) (kR (resK [(.tmp 4), (.tmp 5)] []) k))) (fun H => some ((.tuple [(.int .i64 0), (.int .i64 24)]), H)) (fun _ _ => rfl) (fun _ _ => rfl) σ H
def VeneerVeneerref07TableOpenC4S (cal : FuncId → Bool) (φ : Oracle) (N : Nat) (cVeneerref07Own : FuncId) (v0 v1 : IV) (H : Heap) : Option (IV × Heap) :=
    ob (lbox H v1) fun r1 =>
    VeneerVeneerref07TableOpenC3S cal φ N cVeneerref07Own v0 r1.1 r1.2
theorem VeneerVeneerref07TableOpenC4Eq (cal : FuncId → Bool) (φ : Oracle) (N : Nat) (cVeneerref07Own : FuncId) {k : KT (IV × Heap)} (hR : ∀ σ H, k .ret σ H = resK [(.tmp 4), (.tmp 5)] [] σ H) : ∀ (σ : Sg) (H : Heap), lxK cal φ N (VeneerVeneerref07TableOpenC4 cVeneerref07Own) σ H k = VeneerVeneerref07TableOpenC4S cal φ N cVeneerref07Own (lk σ 0) (lk σ 1) H := by
  have hk : k = (kR (resK [(.tmp 4), (.tmp 5)] []) k) := (kR_mk hR rfl)
  intro σ H
  rw [hk]
  show lxK cal φ N (.reg [
    ⟨(some 3), (.box (.t 1)), none⟩,
    ⟨(some 4), (.mv (.k (.int .i64 0))), none⟩,
    ⟨(some 5), (.mv (.k (.int .i64 0))), none⟩]) σ H (seqK (lxK cal φ N (VeneerVeneerref07TableOpenC3 cVeneerref07Own)) (kR (resK [(.tmp 4), (.tmp 5)] []) k)) = _
  rw [seqK_mk (g := fun σ H => VeneerVeneerref07TableOpenC3S cal φ N cVeneerref07Own (lk σ 0) (lk σ 3) H) (VeneerVeneerref07TableOpenC3Eq cal φ N cVeneerref07Own (k := (kR (resK [(.tmp 4), (.tmp 5)] []) k)) (fun _ _ => rfl))]
  kernel_rfl
def VeneerVeneerref07TableOpen (cVeneerref07Own : FuncId) : LFun := ⟨(VeneerVeneerref07TableOpenC4 cVeneerref07Own), [(.tmp 4), (.tmp 5)], 31⟩
def VeneerVeneerref07TableOpenS (cal : FuncId → Bool) (φ : Oracle) (N : Nat) (cVeneerref07Own : FuncId) (v0 v1 : IV) (H : Heap) : Option (IV × Heap) :=
    VeneerVeneerref07TableOpenC4S cal φ N cVeneerref07Own v0 v1 H
theorem VeneerVeneerref07TableOpenEq (cal : FuncId → Bool) (φ : Oracle) (N : Nat) (cVeneerref07Own : FuncId) (v0 v1 : IV) (H : Heap) : lrunK cal φ N (VeneerVeneerref07TableOpen cVeneerref07Own) [v0, v1] H = VeneerVeneerref07TableOpenS cal φ N cVeneerref07Own v0 v1 H := by
  show lxK cal φ N (VeneerVeneerref07TableOpenC4 cVeneerref07Own) (initFrom 0 [v0, v1]) H (endK [(.tmp 4), (.tmp 5)]) = _
  exact VeneerVeneerref07TableOpenC4Eq cal φ N cVeneerref07Own (k := (endK [(.tmp 4), (.tmp 5)])) (fun _ _ => rfl) (initFrom 0 [v0, v1]) H

def VeneerVeneerref07TableGet (cVeneerref07Own : FuncId) : LFun := ⟨(.seq (.reg [
    ⟨(some 4), (.zbox (.agg [(.int .i64 0), (.int .i64 0), (.int .i64 0), (.bool false), .nilSlice, (.int .i64 0)])), none⟩,
    ⟨(some 5), (.mv (.k (.int .i64 0))), none⟩])
  (.seq (.seq (.reg [
    ⟨(some 6), (.mv (.t 1)), none⟩,
    ⟨(some 7), (.bin .lss (.t 6) (.k (.int .i64 0))), none⟩,
    ⟨(some 8), (.mv (.t 7)), none⟩,
    ⟨(some 9), (.mv (.t 1)), (some (8, false))⟩,
    ⟨(some 10), (.bin .gtr (.t 9) (.k (.int .i64 31))), (some (8, false))⟩,
    ⟨(some 11), (.pick (.t 8) (.k (.bool true)) (.t 10)), none⟩,
    ⟨(some 12), (.mv (.t 11)), none⟩,
    ⟨(some 13), (.mv (.t 0)), (some (12, false))⟩,
    ⟨(some 14), (.mv (.t 1)), (some (12, false))⟩,
    ⟨(some 15), (.chk (.t 13)), (some (12, false))⟩,
    ⟨(some 16), (.off (.t 15) 0), (some (12, false))⟩,
    ⟨(some 17), (.ixa 32 1 (.t 16) (.t 14)), (some (12, false))⟩,
    ⟨(some 18), (.ld1 (.t 17)), (some (12, false))⟩,
    ⟨(some 19), (.un .not (.t 18)), (some (12, false))⟩,
    ⟨(some 20), (.pick (.t 12) (.k (.bool true)) (.t 19)), none⟩])
  (.cond (.t 20) (.seq (.reg [
    ⟨(some 21), (.bld [(.int .i64 0), (.int .i64 0), (.int .i64 0), (.bool false), .nilSlice, (.int .i64 0)] []), none⟩,
    ⟨none, (.st 6 (.t 4) (.t 21)), none⟩,
    ⟨(some 5), (.mv (.k (.int .i64 9))), none⟩])
  .ret)
  .skip))
  (.seq (.reg [
    ⟨(some 22), (.mv (.t 0)), none⟩,
    ⟨(some 23), (.mv (.t 1)), none⟩,
    ⟨(some 24), (.chk (.t 22)), none⟩,
    ⟨(some 25), (.off (.t 24) 32), none⟩,
    ⟨(some 26), (.ixa 32 6 (.t 25) (.t 23)), none⟩,
    ⟨(some 27), (.ldn 6 (.t 26)), none⟩,
    ⟨(some 28), (.callF cVeneerref07Own [(.t 27)]), none⟩,
    ⟨none, (.st 6 (.t 4) (.t 28)), none⟩,
    ⟨(some 5), (.mv (.k (.int .i64 0))), none⟩])
  .ret))), [(.celln 4 6), (.tmp 5)], 29⟩
def VeneerVeneerref07TableGetS (cal : FuncId → Bool) (φ : Oracle) (N : Nat) (cVeneerref07Own : FuncId) (v0 v1 : IV) (H : Heap) : Option (IV × Heap) :=
    ob (lzbox H (.agg [(.int .i64 0), (.int .i64 0), (.int .i64 0), (.bool false), .nilSlice, (.int .i64 0)])) fun r1 =>
    ob (lbin .lss v1 (.int .i64 0)) fun t2 =>
    ob (gq (isB t2 false) (some v1)) fun t3 =>
    ob (gq (isB t2 false) (lbin .gtr t3 (.int .i64 31))) fun t4 =>
    ob (lpick t2 (.bool true) t4) fun t5 =>
    ob (gq (isB t5 false) (some v0)) fun t6 =>
    ob (gq (isB t5 false) (some v1)) fun t7 =>
    ob (gq (isB t5 false) (lchk t6)) fun t8 =>
    ob (gq (isB t5 false) (loff t8 0)) fun t9 =>
    ob (gq (isB t5 false) (lixa 32 1 t9 t7)) fun t10 =>
    ob (gq (isB t5 false) (lload1 r1.2 t10)) fun t11 =>
    ob (gq (isB t5 false) (iun .not t11)) fun t12 =>
    ob (lpick t5 (.bool true) t12) fun t13 =>
    cnd t13
    (ob (lbld [(.int .i64 0), (.int .i64 0), (.int .i64 0), (.bool false), .nilSlice, (.int .i64 0)] []) fun t14 =>
    ob (lstV r1.2 6 r1.1 t14) fun r15 =>
    ob (lloadn r15.2 6 r1.1) fun t16 =>
    some ((.tuple [t16, (.int .i64 9)]), r15.2))
    (ob (lchk v0) fun t17 =>
    ob (loff t17 32) fun t18 =>
    ob (lixa 32 6 t18 v1) fun t19 =>
    ob (lloadn r1.2 6 t19) fun t20 =>
    ob (φ cVeneerref07Own [t20] r1.2) fun r21 =>
    ob (lstV r21.2 6 r1.1 r21.1) fun r22 =>
    ob (lloadn r22.2 6 r1.1) fun t23 =>
    some ((.tuple [t23, (.int .i64 0)]), r22.2))
theorem VeneerVeneerref07TableGetEq (cal : FuncId → Bool) (φ : Oracle) (N : Nat) (cVeneerref07Own : FuncId) (v0 v1 : IV) (H : Heap) : lrunK cal φ N (VeneerVeneerref07TableGet cVeneerref07Own) [v0, v1] H = VeneerVeneerref07TableGetS cal φ N cVeneerref07Own v0 v1 H := by
  kernel_rfl

def VeneerVeneerref07TableSet (cVeneerVeneerref07TableGet cVeneerref07Own : FuncId) : LFun := ⟨(.seq (.reg [
    ⟨(some 5), (.box (.t 2)), none⟩,
    ⟨(some 6), (.mv (.k (.int .i64 0))), none⟩])
  (.seq (.reg [
    ⟨(some 10), (.mv (.t 0)), none⟩,
    ⟨(some 11), (.mv (.t 1)), none⟩,
    ⟨(some 12), (.callF cVeneerVeneerref07TableGet [(.t 10), (.t 11)]), none⟩,
    ⟨(some 9), (.mv (.t 12)), none⟩,
    ⟨(some 13), (.ext (.t 9) 0), none⟩,
    ⟨(some 14), (.ext (.t 9) 1), none⟩,
    ⟨(some 7), (.zbox (.agg [(.int .i64 0), (.int .i64 0), (.int .i64 0), (.bool false), .nilSlice, (.int .i64 0)])), none⟩,
    ⟨none, (.st 6 (.t 7) (.t 13)), none⟩,
    ⟨(some 8), (.mv (.t 14)), none⟩])
  (.seq (.seq (.reg [
    ⟨(some 15), (.mv (.t 8)), none⟩,
    ⟨(some 16), (.bin .eql (.t 15) (.k (.int .i64 0))), none⟩])
  (.cond (.t 16) (.drw [
    ⟨(some 17), (.mv (.t 0)), none⟩,
    ⟨(some 18), (.mv (.t 1)), none⟩,
    ⟨(some 19), (.ldn 6 (.t 5)), none⟩,
    ⟨(some 20), (.callF cVeneerref07Own [(.t 19)]), none⟩,
    ⟨(some 21), (.chk (.t 17)), none⟩,
    ⟨(some 22), (.off (.t 21) 32), none⟩,
    ⟨(some 23), (.ixa 32 6 (.t 22) (.t 18)), none⟩,
    ⟨none, (.st 6 (.t 23) (.t 20)), none⟩] [])
  .skip))
  (.seq (.reg [
    ⟨(some 24), (.mv (.t 8)), none⟩,
    ⟨(some 6), (.mv (.t 24)), none⟩])
  .ret)))), [(.tmp 6)], 25⟩
def VeneerVeneerref07TableSetS (cal : FuncId → Bool) (φ : Oracle) (N : Nat) (cVeneerVeneerref07TableGet cVeneerref07Own : FuncId) (v0 v1 v2 : IV) (H : Heap) : Option (IV × Heap) :=
    ob (lbox H v2) fun r1 =>
    ob (φ cVeneerVeneerref07TableGet [v0, v1] r1.2) fun r2 =>
    ob (iextract r2.1 0) fun t3 =>
    ob (iextract r2.1 1) fun t4 =>
    ob (lzbox r2.2 (.agg [(.int .i64 0), (.int .i64 0), (.int .i64 0), (.bool false), .nilSlice, (.int .i64 0)])) fun r5 =>
    ob (lstV r5.2 6 r5.1 t3) fun r6 =>
    jn (fun (H15 : Heap) =>
    some (t4, H15)) fun J7 =>
    ob (lbin .eql t4 (.int .i64 0)) fun t16 =>
    cnd t16
    (ob (lloadn r6.2 6 r1.1) fun t17 =>
    ob (φ cVeneerref07Own [t17] r6.2) fun r18 =>
    ob (lchk v0) fun t19 =>
    ob (loff t19 32) fun t20 =>
    ob (lixa 32 6 t20 v1) fun t21 =>
    ob (lstV r18.2 6 t21 r18.1) fun r22 =>
    J7 r22.2)
    (J7 r6.2)
theorem VeneerVeneerref07TableSetEq (cal : FuncId → Bool) (φ : Oracle) (N : Nat) (cVeneerVeneerref07TableGet cVeneerref07Own : FuncId) (v0 v1 v2 : IV) (H : Heap) : lrunK cal φ N (VeneerVeneerref07TableSet cVeneerVeneerref07TableGet cVeneerref07Own) [v0, v1, v2] H = VeneerVeneerref07TableSetS cal φ N cVeneerVeneerref07TableGet cVeneerref07Own v0 v1 v2 H := by
  kernel_rfl

def VeneerVeneerref07TableClose (cVeneerVeneerref07TableGet : FuncId) : LFun := ⟨(.seq (.reg [
    ⟨(some 4), (.zbox (.agg [(.int .i64 0), (.int .i64 0), (.int .i64 0), (.bool false), .nilSlice, (.int .i64 0)])), none⟩,
    ⟨(some 5), (.mv (.k (.int .i64 0))), none⟩])
  (.seq (.reg [
    ⟨(some 9), (.mv (.t 0)), none⟩,
    ⟨(some 10), (.mv (.t 1)), none⟩,
    ⟨(some 11), (.callF cVeneerVeneerref07TableGet [(.t 9), (.t 10)]), none⟩,
    ⟨(some 8), (.mv (.t 11)), none⟩,
    ⟨(some 12), (.ext (.t 8) 0), none⟩,
    ⟨(some 13), (.ext (.t 8) 1), none⟩,
    ⟨(some 6), (.zbox (.agg [(.int .i64 0), (.int .i64 0), (.int .i64 0), (.bool false), .nilSlice, (.int .i64 0)])), none⟩,
    ⟨none, (.st 6 (.t 6) (.t 12)), none⟩,
    ⟨(some 7), (.mv (.t 13)), none⟩])
  (.seq (.seq (.reg [
    ⟨(some 14), (.mv (.t 7)), none⟩,
    ⟨(some 15), (.bin .eql (.t 14) (.k (.int .i64 0))), none⟩])
  (.cond (.t 15) (.reg [
    ⟨(some 16), (.mv (.t 0)), none⟩,
    ⟨(some 17), (.mv (.t 1)), none⟩,
    ⟨(some 18), (.chk (.t 16)), none⟩,
    ⟨(some 19), (.off (.t 18) 0), none⟩,
    ⟨(some 20), (.ixa 32 1 (.t 19) (.t 17)), none⟩,
    ⟨none, (.st 1 (.t 20) (.k (.bool false))), none⟩])
  .skip))
  (.seq (.reg [
    ⟨(some 21), (.ldn 6 (.t 6)), none⟩,
    ⟨(some 22), (.mv (.t 7)), none⟩,
    ⟨none, (.st 6 (.t 4) (.t 21)), none⟩,
    ⟨(some 5), (.mv (.t 22)), none⟩])
  .ret)))), [(.celln 4 6), (.tmp 5)], 23⟩
def VeneerVeneerref07TableCloseS (cal : FuncId → Bool) (φ : Oracle) (N : Nat) (cVeneerVeneerref07TableGet : FuncId) (v0 v1 : IV) (H : Heap) : Option (IV × Heap) :=
    ob (lzbox H (.agg [(.int .i64 0), (.int .i64 0), (.int .i64 0), (.bool false), .nilSlice, (.int .i64 0)])) fun r1 =>
    ob (φ cVeneerVeneerref07TableGet [v0, v1] r1.2) fun r2 =>
    ob (iextract r2.1 0) fun t3 =>
    ob (iextract r2.1 1) fun t4 =>
    ob (lzbox r2.2 (.agg [(.int .i64 0), (.int .i64 0), (.int .i64 0), (.bool false), .nilSlice, (.int .i64 0)])) fun r5 =>
    ob (lstV r5.2 6 r5.1 t3) fun r6 =>
    jn (fun (H13 : Heap) =>
    ob (lloadn H13 6 r5.1) fun t14 =>
    ob (lstV H13 6 r1.1 t14) fun r15 =>
    ob (lloadn r15.2 6 r1.1) fun t16 =>
    some ((.tuple [t16, t4]), r15.2)) fun J7 =>
    ob (lbin .eql t4 (.int .i64 0)) fun t17 =>
    cnd t17
    (ob (lchk v0) fun t18 =>
    ob (loff t18 0) fun t19 =>
    ob (lixa 32 1 t19 v1) fun t20 =>
    ob (lstV r6.2 1 t20 (.bool false)) fun r21 =>
    J7 r21.2)
    (J7 r6.2)
theorem VeneerVeneerref07TableCloseEq (cal : FuncId → Bool) (φ : Oracle) (N : Nat) (cVeneerVeneerref07TableGet : FuncId) (v0 v1 : IV) (H : Heap) : lrunK cal φ N (VeneerVeneerref07TableClose cVeneerVeneerref07TableGet) [v0, v1] H = VeneerVeneerref07TableCloseS cal φ N cVeneerVeneerref07TableGet v0 v1 H := by
  kernel_rfl

def VeneerVeneerref07TableAllC0 : LC := .loop (.seq (.seq (.reg [
    ⟨(some 6), (.mv (.t 4)), none⟩,
    ⟨(some 7), (.bin .lss (.t 6) (.k (.int .i64 32))), none⟩])
  (.cond (.t 7) .skip
  (.exit 0)))
  (.seq (.block 1 (.seq (.reg [
    ⟨(some 10), (.mv (.t 0)), none⟩,
    ⟨(some 11), (.mv (.t 4)), none⟩,
    ⟨(some 12), (.chk (.t 10)), none⟩,
    ⟨(some 13), (.off (.t 12) 0), none⟩,
    ⟨(some 14), (.ixa 32 1 (.t 13) (.t 11)), none⟩,
    ⟨(some 15), (.ld1 (.t 14)), none⟩])
  (.cond (.t 15) (.reg [
    ⟨(some 16), (.mv (.t 3)), none⟩,
    ⟨(some 17), (.mv (.t 4)), none⟩,
    ⟨(some 18), (.bldS 1 1 [(.int .i64 0)] [(0, (.t 17))]), none⟩,
    ⟨(some 19), (.app 1 8 (.t 16) (.t 18)), none⟩,
    ⟨(some 3), (.mv (.t 19)), none⟩])
  .skip)))
  (.reg [
    ⟨(some 8), (.mv (.t 4)), none⟩,
    ⟨(some 9), (.bin .add (.t 8) (.k (.int .i64 1))), none⟩,
    ⟨(some 4), (.mv (.t 9)), none⟩])))
def VeneerVeneerref07TableAllC1 : LC := .block 0 VeneerVeneerref07TableAllC0
def VeneerVeneerref07TableAllC2 : LC := .seq (.reg [
    ⟨(some 4), (.mv (.k (.int .i64 0))), none⟩]) VeneerVeneerref07TableAllC1
def VeneerVeneerref07TableAllC3 : LC := .seq VeneerVeneerref07TableAllC2 (.seq (.reg [
    ⟨(some 20), (.mv (.t 3)), none⟩,
    ⟨(some 2), (.mv (.t 20)), none⟩])
  .ret)
def VeneerVeneerref07TableAllC4 : LC := .seq (.reg [
    ⟨(some 5), (.bldS 1 0 [(.int .i64 0)] []), none⟩,
    ⟨(some 3), (.mv (.t 5)), none⟩]) VeneerVeneerref07TableAllC3
def VeneerVeneerref07TableAllC5 : LC := .seq (.reg [
    ⟨(some 2), (.mv (.k .nilSlice)), none⟩]) VeneerVeneerref07TableAllC4
def VeneerVeneerref07TableAllC0S (cal : FuncId → Bool) (φ : Oracle) (N : Nat) (gE0 : IV → Heap → Option (IV × Heap)) : Nat → IV → IV → IV → Heap → Option (IV × Heap)
  | 0, _, _, _, _ => none
  | n + 1, v0, v3, v4, H =>
    ob (lbin .lss v4 (.int .i64 32)) fun t1 =>
    cnd t1
    (jn (fun (j3 : IV) (H8 : Heap) =>
    ob (lbin .add v4 (.int .i64 1)) fun t9 =>
    VeneerVeneerref07TableAllC0S cal φ N gE0 n v0 j3 t9 H8) fun J2 =>
    ob (lchk v0) fun t10 =>
    ob (loff t10 0) fun t11 =>
    ob (lixa 32 1 t11 v4) fun t12 =>
    ob (lload1 H t12) fun t13 =>
    cnd t13
    (ob (lbldS H 1 1 [(.int .i64 0)] [(0, v4)]) fun r14 =>
    ob (lapp r14.2 1 8 v3 r14.1) fun r15 =>
    J2 r15.1 r15.2)
    (J2 v3 H))
    (gE0 v3 H)
theorem VeneerVeneerref07TableAllC0Eq (cal : FuncId → Bool) (φ : Oracle) (N : Nat) {k : KT (IV × Heap)} (gE0 : IV → Heap → Option (IV × Heap)) (hgE0 : ∀ σ H, k (.exit 0) σ H = gE0 (lk σ 3) H) : ∀ (n : Nat) (σ : Sg) (H : Heap), itK (lxK cal φ N (.seq (.seq (.reg [
    ⟨(some 6), (.mv (.t 4)), none⟩,
    ⟨(some 7), (.bin .lss (.t 6) (.k (.int .i64 32))), none⟩])
  (.cond (.t 7) .skip
  (.exit 0)))
  (.seq (.block 1 (.seq (.reg [
    ⟨(some 10), (.mv (.t 0)), none⟩,
    ⟨(some 11), (.mv (.t 4)), none⟩,
    ⟨(some 12), (.chk (.t 10)), none⟩,
    ⟨(some 13), (.off (.t 12) 0), none⟩,
    ⟨(some 14), (.ixa 32 1 (.t 13) (.t 11)), none⟩,
    ⟨(some 15), (.ld1 (.t 14)), none⟩])
  (.cond (.t 15) (.reg [
    ⟨(some 16), (.mv (.t 3)), none⟩,
    ⟨(some 17), (.mv (.t 4)), none⟩,
    ⟨(some 18), (.bldS 1 1 [(.int .i64 0)] [(0, (.t 17))]), none⟩,
    ⟨(some 19), (.app 1 8 (.t 16) (.t 18)), none⟩,
    ⟨(some 3), (.mv (.t 19)), none⟩])
  .skip)))
  (.reg [
    ⟨(some 8), (.mv (.t 4)), none⟩,
    ⟨(some 9), (.bin .add (.t 8) (.k (.int .i64 1))), none⟩,
    ⟨(some 4), (.mv (.t 9)), none⟩])))) n σ H k = VeneerVeneerref07TableAllC0S cal φ N gE0 n (lk σ 0) (lk σ 3) (lk σ 4) H := by
  have hk : k = (kE 0 (fun σ H => gE0 (lk σ 3) H) k) := (kE_mk hgE0 rfl)
  intro n
  induction n with
  | zero => intro σ H; rfl
  | succ n ih =>
    intro σ H
    rw [itK_succ, seqK_mk (g := fun σ H => VeneerVeneerref07TableAllC0S cal φ N gE0 n (lk σ 0) (lk σ 3) (lk σ 4) H) ih, hk]
    kernel_rfl
def VeneerVeneerref07TableAllC1S (cal : FuncId → Bool) (φ : Oracle) (N : Nat) (gN : IV → Heap → Option (IV × Heap)) (v0 v3 v4 : IV) (H : Heap) : Option (IV × Heap) :=
    VeneerVeneerref07TableAllC0S cal φ N (fun v3 H => gN v3 H) N v0 v3 v4 H
theorem VeneerVeneerref07TableAllC1Eq (cal : FuncId → Bool) (φ : Oracle) (N : Nat) {k : KT (IV × Heap)} (gN : IV → Heap → Option (IV × Heap)) (hgN : ∀ σ H, k .normal σ H = gN (lk σ 3) H) : ∀ (σ : Sg) (H : Heap), lxK cal φ N VeneerVeneerref07TableAllC1 σ H k = VeneerVeneerref07TableAllC1S cal φ N gN (lk σ 0) (lk σ 3) (lk σ 4) H := by
  have hk : k = (kN (fun σ H => gN (lk σ 3) H) k) := (kN_mk hgN rfl)
  intro σ H
  rw [hk]
  show lxK cal φ N VeneerVeneerref07TableAllC0 σ H (blockK 0 (kN (fun σ H => gN (lk σ 3) H) k)) = _
  exact VeneerVeneerref07TableAllC0Eq cal φ N (k := (blockK 0 (kN (fun σ H => gN (lk σ 3) H) k))) (fun v3 H => gN v3 H) (fun _ _ => rfl) N σ H
def VeneerVeneerref07TableAllC2S (cal : FuncId → Bool) (φ : Oracle) (N : Nat) (gN : IV → Heap → Option (IV × Heap)) (v0 v3 : IV) (H : Heap) : Option (IV × Heap) :=
    VeneerVeneerref07TableAllC1S cal φ N (fun v3 H => gN v3 H) v0 v3 (.int .i64 0) H
theorem VeneerVeneerref07TableAllC2Eq (cal : FuncId → Bool) (φ : Oracle) (N : Nat) {k : KT (IV × Heap)} (gN : IV → Heap → Option (IV × Heap)) (hgN : ∀ σ H, k .normal σ H = gN (lk σ 3) H) : ∀ (σ : Sg) (H : Heap), lxK cal φ N VeneerVeneerref07TableAllC2 σ H k = VeneerVeneerref07TableAllC2S cal φ N gN (lk σ 0) (lk σ 3) H := by
  have hk : k = (kN (fun σ H => gN (lk σ 3) H) k) := (kN_mk hgN rfl)
  intro σ H
  rw [hk]
  show lxK cal φ N (.reg [
    ⟨(some 4), (.mv (.k (.int .i64 0))), none⟩]) σ H (seqK (lxK cal φ N VeneerVeneerref07TableAllC1) (kN (fun σ H => gN (lk σ 3) H) k)) = _
  rw [seqK_mk (g := fun σ H => VeneerVeneerref07TableAllC1S cal φ N (fun v3 H => gN v3 H) (lk σ 0) (lk σ 3) (lk σ 4) H) (VeneerVeneerref07TableAllC1Eq cal φ N (k := (kN (fun σ H => gN (lk σ 3) H) k)) (fun v3 H => gN v3 H) (fun _ _ => rfl))]
  kernel_rfl
def VeneerVeneerref07TableAllC3S (cal : FuncId → Bool) (φ : Oracle) (N : Nat) (v0 v3 : IV) (H : Heap) : Option (IV × Heap) :=
    VeneerVeneerref07TableAllC2S cal φ N (fun v3 H => some (v3, H)) v0 v3 H
theorem VeneerVeneerref07TableAllC3Eq (cal : FuncId → Bool) (φ : Oracle) (N : Nat) {k : KT (IV × Heap)} (hR : ∀ σ H, k .ret σ H = resK [(.tmp 2)] [] σ H) : ∀ (σ : Sg) (H : Heap), lxK cal φ N VeneerVeneerref07TableAllC3 σ H k = VeneerVeneerref07TableAllC3S cal φ N (lk σ 0) (lk σ 3) H := by
  have hk : k = (kR (resK [(.tmp 2)] []) k) := (kR_mk hR rfl)
  intro σ H
  rw [hk]
  show lxK cal φ N VeneerVeneerref07TableAllC2 σ H (seqK (lxK cal φ N (.seq (.reg [
    ⟨(some 20), (.mv (.t 3)), none⟩,
    ⟨(some 2), (.mv (.t 20)), none⟩])
  .ret)) (kR (resK [(.tmp 2)] []) k)) = _
  exact VeneerVeneerref07TableAllC2Eq cal φ N (k := (seqK (lxK cal φ N (.seq (.reg [
    ⟨(some 20), (.mv (.t 3)), none⟩,
    ⟨(some 2), (.mv (.t 20)), none⟩])
  .ret)) (kR (resK [(.tmp 2)] []) k))) (fun v3 H => some (v3, H)) (fun _ _ => rfl) σ H
def VeneerVeneerref07TableAllC4S (cal : FuncId → Bool) (φ : Oracle) (N : Nat) (v0 : IV) (H : Heap) : Option (IV × Heap) :=
    ob (lbldS H 1 0 [(.int .i64 0)] []) fun r1 =>
    VeneerVeneerref07TableAllC3S cal φ N v0 r1.1 r1.2
theorem VeneerVeneerref07TableAllC4Eq (cal : FuncId → Bool) (φ : Oracle) (N : Nat) {k : KT (IV × Heap)} (hR : ∀ σ H, k .ret σ H = resK [(.tmp 2)] [] σ H) : ∀ (σ : Sg) (H : Heap), lxK cal φ N VeneerVeneerref07TableAllC4 σ H k = VeneerVeneerref07TableAllC4S cal φ N (lk σ 0) H := by
  have hk : k = (kR (resK [(.tmp 2)] []) k) := (kR_mk hR rfl)
  intro σ H
  rw [hk]
  show lxK cal φ N (.reg [
    ⟨(some 5), (.bldS 1 0 [(.int .i64 0)] []), none⟩,
    ⟨(some 3), (.mv (.t 5)), none⟩]) σ H (seqK (lxK cal φ N VeneerVeneerref07TableAllC3) (kR (resK [(.tmp 2)] []) k)) = _
  rw [seqK_mk (g := fun σ H => VeneerVeneerref07TableAllC3S cal φ N (lk σ 0) (lk σ 3) H) (VeneerVeneerref07TableAllC3Eq cal φ N (k := (kR (resK [(.tmp 2)] []) k)) (fun _ _ => rfl))]
  kernel_rfl
def VeneerVeneerref07TableAllC5S (cal : FuncId → Bool) (φ : Oracle) (N : Nat) (v0 : IV) (H : Heap) : Option (IV × Heap) :=
    VeneerVeneerref07TableAllC4S cal φ N v0 H
theorem VeneerVeneerref07TableAllC5Eq (cal : FuncId → Bool) (φ : Oracle) (N : Nat) {k : KT (IV × Heap)} (hR : ∀ σ H, k .ret σ H = resK [(.tmp 2)] [] σ H) : ∀ (σ : Sg) (H : Heap), lxK cal φ N VeneerVeneerref07TableAllC5 σ H k = VeneerVeneerref07TableAllC5S cal φ N (lk σ 0) H := by
  have hk : k = (kR (resK [(.tmp 2)] []) k) := (kR_mk hR rfl)
  intro σ H
  rw [hk]
  show lxK cal φ N (.reg [
    ⟨(some 2), (.mv (.k .nilSlice)), none⟩]) σ H (seqK (lxK cal φ N VeneerVeneerref07TableAllC4) (kR (resK [(.tmp 2)] []) k)) = _
  rw [seqK_mk (g := fun σ H => VeneerVeneerref07TableAllC4S cal φ N (lk σ 0) H) (VeneerVeneerref07TableAllC4Eq cal φ N (k := (kR (resK [(.tmp 2)] []) k)) (fun _ _ => rfl))]
  kernel_rfl
def VeneerVeneerref07TableAll : LFun := ⟨VeneerVeneerref07TableAllC5, [(.tmp 2)], 21⟩
def VeneerVeneerref07TableAllS (cal : FuncId → Bool) (φ : Oracle) (N : Nat) (v0 : IV) (H : Heap) : Option (IV × Heap) :=
    VeneerVeneerref07TableAllC5S cal φ N v0 H
theorem VeneerVeneerref07TableAllEq (cal : FuncId → Bool) (φ : Oracle) (N : Nat) (v0 : IV) (H : Heap) : lrunK cal φ N (VeneerVeneerref07TableAll) [v0] H = VeneerVeneerref07TableAllS cal φ N v0 H := by
  show lxK cal φ N VeneerVeneerref07TableAllC5 (initFrom 0 [v0]) H (endK [(.tmp 2)]) = _
  exact VeneerVeneerref07TableAllC5Eq cal φ N (k := (endK [(.tmp 2)])) (fun _ _ => rfl) (initFrom 0 [v0]) H

def veneerref07SameC0 : LC := .loop (.seq (.seq (.reg [
    ⟨(some 48), (.mv (.t 5)), none⟩,
    ⟨(some 49), (.off (.t 2) 4), none⟩,
    ⟨(some 50), (.ld1 (.t 49)), none⟩,
    ⟨(some 51), (.len .slice (.t 50)), none⟩,
    ⟨(some 52), (.bin .lss (.t 48) (.t 51)), none⟩])
  (.cond (.t 52) .skip
  (.exit 0)))
  (.seq (.block 1 (.seq (.drw [
    ⟨(some 55), (.off (.t 2) 4), none⟩,
    ⟨(some 56), (.ld1 (.t 55)), none⟩,
    ⟨(some 57), (.mv (.t 5)), none⟩,
    ⟨(some 58), (.ix 1 (.t 56) (.t 57)), none⟩,
    ⟨(some 59), (.ld1 (.t 58)), none⟩,
    ⟨(some 60), (.off (.t 3) 4), none⟩,
    ⟨(some 61), (.ld1 (.t 60)), none⟩,
    ⟨(some 62), (.mv (.t 5)), none⟩,
    ⟨(some 63), (.ix 1 (.t 61) (.t 62)), none⟩,
    ⟨(some 64), (.ld1 (.t 63)), none⟩,
    ⟨(some 65), (.bin .neq (.t 59) (.t 64)), none⟩] [])
  (.cond (.t 65) (.seq (.reg [
    ⟨(some 4), (.mv (.k (.bool false))), none⟩])
  .ret)
  .skip)))
  (.reg [
    ⟨(some 53), (.mv (.t 5)), none⟩,
    ⟨(some 54), (.bin .add (.t 53) (.k (.int .i64 1))), none⟩,
    ⟨(some 5), (.mv (.t 54)), none⟩])))
def veneerref07SameC1 : LC := .block 0 veneerref07SameC0
def veneerref07SameC2 : LC := .seq (.reg [
    ⟨(some 5), (.mv (.k (.int .i64 0))), none⟩]) veneerref07SameC1
def veneerref07SameC3 : LC := .seq veneerref07SameC2 (.seq (.reg [
    ⟨(some 4), (.mv (.k (.bool true))), none⟩])
  .ret)
def veneerref07SameC4 : LC := .seq (.seq (.reg [
    ⟨(some 6), (.off (.t 2) 0), none⟩,
    ⟨(some 7), (.ld1 (.t 6)), none⟩,
    ⟨(some 8), (.off (.t 3) 0), none⟩,
    ⟨(some 9), (.ld1 (.t 8)), none⟩,
    ⟨(some 10), (.bin .neq (.t 7) (.t 9)), none⟩,
    ⟨(some 11), (.mv (.t 10)), none⟩,
    ⟨(some 12), (.off (.t 2) 1), (some (11, false))⟩,
    ⟨(some 13), (.ld1 (.t 12)), (some (11, false))⟩,
    ⟨(some 14), (.off (.t 3) 1), (some (11, false))⟩,
    ⟨(some 15), (.ld1 (.t 14)), (some (11, false))⟩,
    ⟨(some 16), (.bin .neq (.t 13) (.t 15)), (some (11, false))⟩,
    ⟨(some 17), (.pick (.t 11) (.k (.bool true)) (.t 16)), none⟩,
    ⟨(some 18), (.mv (.t 17)), none⟩,
    ⟨(some 19), (.off (.t 2) 2), (some (18, false))⟩,
    ⟨(some 20), (.ld1 (.t 19)), (some (18, false))⟩,
    ⟨(some 21), (.off (.t 3) 2), (some (18, false))⟩,
    ⟨(some 22), (.ld1 (.t 21)), (some (18, false))⟩,
    ⟨(some 23), (.bin .neq (.t 20) (.t 22)), (some (18, false))⟩,
    ⟨(some 24), (.pick (.t 18) (.k (.bool true)) (.t 23)), none⟩,
    ⟨(some 25), (.mv (.t 24)), none⟩,
    ⟨(some 26), (.off (.t 2) 3), (some (25, false))⟩,
    ⟨(some 27), (.ld1 (.t 26)), (some (25, false))⟩,
    ⟨(some 28), (.off (.t 3) 3), (some (25, false))⟩,
    ⟨(some 29), (.ld1 (.t 28)), (some (25, false))⟩,
    ⟨(some 30), (.eqv true .bool (.t 27) (.t 29)), (some (25, false))⟩,
    ⟨(some 31), (.pick (.t 25) (.k (.bool true)) (.t 30)), none⟩,
    ⟨(some 32), (.mv (.t 31)), none⟩,
    ⟨(some 33), (.off (.t 2) 5), (some (32, false))⟩,
    ⟨(some 34), (.ld1 (.t 33)), (some (32, false))⟩,
    ⟨(some 35), (.off (.t 3) 5), (some (32, false))⟩,
    ⟨(some 36), (.ld1 (.t 35)), (some (32, false))⟩,
    ⟨(some 37), (.bin .neq (.t 34) (.t 36)), (some (32, false))⟩,
    ⟨(some 38), (.pick (.t 32) (.k (.bool true)) (.t 37)), none⟩,
    ⟨(some 39), (.mv (.t 38)), none⟩,
    ⟨(some 40), (.off (.t 2) 4), (some (39, false))⟩,
    ⟨(some 41), (.ld1 (.t 40)), (some (39, false))⟩,
    ⟨(some 42), (.len .slice (.t 41)), (some (39, false))⟩,
    ⟨(some 43), (.off (.t 3) 4), (some (39, false))⟩,
    ⟨(some 44), (.ld1 (.t 43)), (some (39, false))⟩,
    ⟨(some 45), (.len .slice (.t 44)), (some (39, false))⟩,
    ⟨(some 46), (.bin .neq (.t 42) (.t 45)), (some (39, false))⟩,
    ⟨(some 47), (.pick (.t 39) (.k (.bool true)) (.t 46)), none⟩])
  (.cond (.t 47) (.seq (.reg [
    ⟨(some 4), (.mv (.k (.bool false))), none⟩])
  .ret)
  .skip)) veneerref07SameC3
def veneerref07SameC5 : LC := .seq (.reg [
    ⟨(some 2), (.box (.t 0)), none⟩,
    ⟨(some 3), (.box (.t 1)), none⟩,
    ⟨(some 4), (.mv (.k (.bool false))), none⟩]) veneerref07SameC4
def veneerref07SameC0S (cal : FuncId → Bool) (φ : Oracle) (N : Nat) (gE0 : Heap → Option (IV × Heap)) : Nat → IV → IV → IV → Heap → Option (IV × Heap)
  | 0, _, _, _, _ => none
  | n + 1, v2, v3, v5, H =>
    ob (loff v2 4) fun t1 =>
    ob (lload1 H t1) fun t2 =>
    ob (llen H .slice t2) fun t3 =>
    ob (lbin .lss v5 t3) fun t4 =>
    cnd t4
    (ob (loff v2 4) fun t5 =>
    ob (lload1 H t5) fun t6 =>
    ob (lix 1 t6 v5) fun t7 =>
    ob (lload1 H t7) fun t8 =>
    ob (loff v3 4) fun t9 =>
    ob (lload1 H t9) fun t10 =>
    ob (lix 1 t10 v5) fun t11 =>
    ob (lload1 H t11) fun t12 =>
    ob (lbin .neq t8 t12) fun t13 =>
    cnd t13
    (some ((.bool false), H))
    (ob (lbin .add v5 (.int .i64 1)) fun t14 =>
    veneerref07SameC0S cal φ N gE0 n v2 v3 t14 H))
    (gE0 H)
theorem veneerref07SameC0Eq (cal : FuncId → Bool) (φ : Oracle) (N : Nat) {k : KT (IV × Heap)} (gE0 : Heap → Option (IV × Heap)) (hgE0 : ∀ σ H, k (.exit 0) σ H = gE0 H) (hR : ∀ σ H, k .ret σ H = resK [(.tmp 4)] [] σ H) : ∀ (n : Nat) (σ : Sg) (H : Heap), itK (lxK cal φ N (.seq (.seq (.reg [
    ⟨(some 48), (.mv (.t 5)), none⟩,
    ⟨(some 49), (.off (.t 2) 4), none⟩,
    ⟨(some 50), (.ld1 (.t 49)), none⟩,
    ⟨(some 51), (.len .slice (.t 50)), none⟩,
    ⟨(some 52), (.bin .lss (.t 48) (.t 51)), none⟩])
  (.cond (.t 52) .skip
  (.exit 0)))
  (.seq (.block 1 (.seq (.drw [
    ⟨(some 55), (.off (.t 2) 4), none⟩,
    ⟨(some 56), (.ld1 (.t 55)), none⟩,
    ⟨(some 57), (.mv (.t 5)), none⟩,
    ⟨(some 58), (.ix 1 (.t 56) (.t 57)), none⟩,
    ⟨(some 59), (.ld1 (.t 58)), none⟩,
    ⟨(some 60), (.off (.t 3) 4), none⟩,
    ⟨(some 61), (.ld1 (.t 60)), none⟩,
    ⟨(some 62), (.mv (.t 5)), none⟩,
    ⟨(some 63), (.ix 1 (.t 61) (.t 62)), none⟩,
    ⟨(some 64), (.ld1 (.t 63)), none⟩,
    ⟨(some 65), (.bin .neq (.t 59) (.t 64)), none⟩] [])
  (.cond (.t 65) (.seq (.reg [
    ⟨(some 4), (.mv (.k (.bool false))), none⟩])
  .ret)
  .skip)))
  (.reg [
    ⟨(some 53), (.mv (.t 5)), none⟩,
    ⟨(some 54), (.bin .add (.t 53) (.k (.int .i64 1))), none⟩,
    ⟨(some 5), (.mv (.t 54)), none⟩])))) n σ H k = veneerref07SameC0S cal φ N gE0 n (lk σ 2) (lk σ 3) (lk σ 5) H := by
  have hk : k = (kE 0 (fun σ H => gE0 H) (kR (resK [(.tmp 4)] []) k)) := (kE_mk hgE0 (kR_mk hR rfl))
  intro n
  induction n with
  | zero => intro σ H; rfl
  | succ n ih =>
    intro σ H
    rw [itK_succ, seqK_mk (g := fun σ H => veneerref07SameC0S cal φ N gE0 n (lk σ 2) (lk σ 3) (lk σ 5) H) ih, hk]
    kernel_rfl
def veneerref07SameC1S (cal : FuncId → Bool) (φ : Oracle) (N : Nat) (gN : Heap → Option (IV × Heap)) (v2 v3 v5 : IV) (H : Heap) : Option (IV × Heap) :=
    veneerref07SameC0S cal φ N (fun H => gN H) N v2 v3 v5 H
theorem veneerref07SameC1Eq (cal : FuncId → Bool) (φ : Oracle) (N : Nat) {k : KT (IV × Heap)} (gN : Heap → Option (IV × Heap)) (hgN : ∀ σ H, k .normal σ H = gN H) (hR : ∀ σ H, k .ret σ H = resK [(.tmp 4)] [] σ H) : ∀ (σ : Sg) (H : Heap), lxK cal φ N veneerref07SameC1 σ H k = veneerref07SameC1S cal φ N gN (lk σ 2) (lk σ 3) (lk σ 5) H := by
  have hk : k = (kN (fun σ H => gN H) (kR (resK [(.tmp 4)] []) k)) := (kN_mk hgN (kR_mk hR rfl))
  intro σ H
  rw [hk]
  show lxK cal φ N veneerref07SameC0 σ H (blockK 0 (kN (fun σ H => gN H) (kR (resK [(.tmp 4)] []) k))) = _
  exact veneerref07SameC0Eq cal φ N (k := (blockK 0 (kN (fun σ H => gN H) (kR (resK [(.tmp 4)] []) k)))) (fun H => gN H) (fun _ _ => rfl) (fun _ _ => rfl) N σ H
def veneerref07SameC2S (cal : FuncId → Bool) (φ : Oracle) (N : Nat) (gN : Heap → Option (IV × Heap)) (v2 v3 : IV) (H : Heap) : Option (IV × Heap) :=
    veneerref07SameC1S cal φ N (fun H => gN H) v2 v3 (.int .i64 0) H
theorem veneerref07SameC2Eq (cal : FuncId → Bool) (φ : Oracle) (N : Nat) {k : KT (IV × Heap)} (gN : Heap → Option (IV × Heap)) (hgN : ∀ σ H, k .normal σ H = gN H) (hR : ∀ σ H, k .ret σ H = resK [(.tmp 4)] [] σ H) : ∀ (σ : Sg) (H : Heap), lxK cal φ N veneerref07SameC2 σ H k = veneerref07SameC2S cal φ N gN (lk σ 2) (lk σ 3) H := by
  have hk : k = (kN (fun σ H => gN H) (kR (resK [(.tmp 4)] []) k)) := (kN_mk hgN (kR_mk hR rfl))
  intro σ H
  rw [hk]
  show lxK cal φ N (.reg [
    ⟨(some 5), (.mv (.k (.int .i64 0))), none⟩]) σ H (seqK (lxK cal φ N veneerref07SameC1) (kN (fun σ H => gN H) (kR (resK [(.tmp 4)] []) k))) = _
  rw [seqK_mk (g := fun σ H => veneerref07SameC1S cal φ N (fun H => gN H) (lk σ 2) (lk σ 3) (lk σ 5) H) (veneerref07SameC1Eq cal φ N (k := (kN (fun σ H => gN H) (kR (resK [(.tmp 4)] []) k))) (fun H => gN H) (fun _ _ => rfl) (fun _ _ => rfl))]
  kernel_rfl
def veneerref07SameC3S (cal : FuncId → Bool) (φ : Oracle) (N : Nat) (v2 v3 : IV) (H : Heap) : Option (IV × Heap) :=
    veneerref07SameC2S cal φ N (fun H => some ((.bool true), H)) v2 v3 H
theorem veneerref07SameC3Eq (cal : FuncId → Bool) (φ : Oracle) (N : Nat) {k : KT (IV × Heap)} (hR : ∀ σ H, k .ret σ H = resK [(.tmp 4)] [] σ H) : ∀ (σ : Sg) (H : Heap), lxK cal φ N veneerref07SameC3 σ H k = veneerref07SameC3S cal φ N (lk σ 2) (lk σ 3) H := by
  have hk : k = (kR (resK [(.tmp 4)] []) k) := (kR_mk hR rfl)
  intro σ H
  rw [hk]
  show lxK cal φ N veneerref07SameC2 σ H (seqK (lxK cal φ N (.seq (.reg [
    ⟨(some 4), (.mv (.k (.bool true))), none⟩])
  .ret)) (kR (resK [(.tmp 4)] []) k)) = _
  exact veneerref07SameC2Eq cal φ N (k := (seqK (lxK cal φ N (.seq (.reg [
    ⟨(some 4), (.mv (.k (.bool true))), none⟩])
  .ret)) (kR (resK [(.tmp 4)] []) k))) (fun H => some ((.bool true), H)) (fun _ _ => rfl) (fun _ _ => rfl) σ H
def veneerref07SameC4S (cal : FuncId → Bool) (φ : Oracle) (N : Nat) (v2 v3 : IV) (H : Heap) : Option (IV × Heap) :=
    ob (loff v2 0) fun t1 =>
    ob (lload1 H t1) fun t2 =>
    ob (loff v3 0) fun t3 =>
    ob (lload1 H t3) fun t4 =>
    ob (lbin .neq t2 t4) fun t5 =>
    ob (gq (isB t5 false) (loff v2 1)) fun t6 =>
    ob (gq (isB t5 false) (lload1 H t6)) fun t7 =>
    ob (gq (isB t5 false) (loff v3 1)) fun t8 =>
    ob (gq (isB t5 false) (lload1 H t8)) fun t9 =>
    ob (gq (isB t5 false) (lbin .neq t7 t9)) fun t10 =>
    ob (lpick t5 (.bool true) t10) fun t11 =>
    ob (gq (isB t11 false) (loff v2 2)) fun t12 =>
    ob (gq (isB t11 false) (lload1 H t12)) fun t13 =>
    ob (gq (isB t11 false) (loff v3 2)) fun t14 =>
    ob (gq (isB t11 false) (lload1 H t14)) fun t15 =>
    ob (gq (isB t11 false) (lbin .neq t13 t15)) fun t16 =>
    ob (lpick t11 (.bool true) t16) fun t17 =>
    ob (gq (isB t17 false) (loff v2 3)) fun t18 =>
    ob (gq (isB t17 false) (lload1 H t18)) fun t19 =>
    ob (gq (isB t17 false) (loff v3 3)) fun t20 =>
    ob (gq (isB t17 false) (lload1 H t20)) fun t21 =>
    ob (gq (isB t17 false) (leqv true (leq .bool t19 t21))) fun t22 =>
    ob (lpick t17 (.bool true) t22) fun t23 =>
    ob (gq (isB t23 false) (loff v2 5)) fun t24 =>
    ob (gq (isB t23 false) (lload1 H t24)) fun t25 =>
    ob (gq (isB t23 false) (loff v3 5)) fun t26 =>
    ob (gq (isB t23 false) (lload1 H t26)) fun t27 =>
    ob (gq (isB t23 false) (lbin .neq t25 t27)) fun t28 =>
    ob (lpick t23 (.bool true) t28) fun t29 =>
    ob (gq (isB t29 false) (loff v2 4)) fun t30 =>
    ob (gq (isB t29 false) (lload1 H t30)) fun t31 =>
    ob (gq (isB t29 false) (llen H .slice t31)) fun t32 =>
    ob (gq (isB t29 false) (loff v3 4)) fun t33 =>
    ob (gq (isB t29 false) (lload1 H t33)) fun t34 =>
    ob (gq (isB t29 false) (llen H .slice t34)) fun t35 =>
    ob (gq (isB t29 false) (lbin .neq t32 t35)) fun t36 =>
    ob (lpick t29 (.bool true) t36) fun t37 =>
    cnd t37
    (some ((.bool false), H))
    (veneerref07SameC3S cal φ N v2 v3 H)
theorem veneerref07SameC4Eq (cal : FuncId → Bool) (φ : Oracle) (N : Nat) {k : KT (IV × Heap)} (hR : ∀ σ H, k .ret σ H = resK [(.tmp 4)] [] σ H) : ∀ (σ : Sg) (H : Heap), lxK cal φ N veneerref07SameC4 σ H k = veneerref07SameC4S cal φ N (lk σ 2) (lk σ 3) H := by
  have hk : k = (kR (resK [(.tmp 4)] []) k) := (kR_mk hR rfl)
  intro σ H
  rw [hk]
  show lxK cal φ N (.seq (.reg [
    ⟨(some 6), (.off (.t 2) 0), none⟩,
    ⟨(some 7), (.ld1 (.t 6)), none⟩,
    ⟨(some 8), (.off (.t 3) 0), none⟩,
    ⟨(some 9), (.ld1 (.t 8)), none⟩,
    ⟨(some 10), (.bin .neq (.t 7) (.t 9)), none⟩,
    ⟨(some 11), (.mv (.t 10)), none⟩,
    ⟨(some 12), (.off (.t 2) 1), (some (11, false))⟩,
    ⟨(some 13), (.ld1 (.t 12)), (some (11, false))⟩,
    ⟨(some 14), (.off (.t 3) 1), (some (11, false))⟩,
    ⟨(some 15), (.ld1 (.t 14)), (some (11, false))⟩,
    ⟨(some 16), (.bin .neq (.t 13) (.t 15)), (some (11, false))⟩,
    ⟨(some 17), (.pick (.t 11) (.k (.bool true)) (.t 16)), none⟩,
    ⟨(some 18), (.mv (.t 17)), none⟩,
    ⟨(some 19), (.off (.t 2) 2), (some (18, false))⟩,
    ⟨(some 20), (.ld1 (.t 19)), (some (18, false))⟩,
    ⟨(some 21), (.off (.t 3) 2), (some (18, false))⟩,
    ⟨(some 22), (.ld1 (.t 21)), (some (18, false))⟩,
    ⟨(some 23), (.bin .neq (.t 20) (.t 22)), (some (18, false))⟩,
    ⟨(some 24), (.pick (.t 18) (.k (.bool true)) (.t 23)), none⟩,
    ⟨(some 25), (.mv (.t 24)), none⟩,
    ⟨(some 26), (.off (.t 2) 3), (some (25, false))⟩,
    ⟨(some 27), (.ld1 (.t 26)), (some (25, false))⟩,
    ⟨(some 28), (.off (.t 3) 3), (some (25, false))⟩,
    ⟨(some 29), (.ld1 (.t 28)), (some (25, false))⟩,
    ⟨(some 30), (.eqv true .bool (.t 27) (.t 29)), (some (25, false))⟩,
    ⟨(some 31), (.pick (.t 25) (.k (.bool true)) (.t 30)), none⟩,
    ⟨(some 32), (.mv (.t 31)), none⟩,
    ⟨(some 33), (.off (.t 2) 5), (some (32, false))⟩,
    ⟨(some 34), (.ld1 (.t 33)), (some (32, false))⟩,
    ⟨(some 35), (.off (.t 3) 5), (some (32, false))⟩,
    ⟨(some 36), (.ld1 (.t 35)), (some (32, false))⟩,
    ⟨(some 37), (.bin .neq (.t 34) (.t 36)), (some (32, false))⟩,
    ⟨(some 38), (.pick (.t 32) (.k (.bool true)) (.t 37)), none⟩,
    ⟨(some 39), (.mv (.t 38)), none⟩,
    ⟨(some 40), (.off (.t 2) 4), (some (39, false))⟩,
    ⟨(some 41), (.ld1 (.t 40)), (some (39, false))⟩,
    ⟨(some 42), (.len .slice (.t 41)), (some (39, false))⟩,
    ⟨(some 43), (.off (.t 3) 4), (some (39, false))⟩,
    ⟨(some 44), (.ld1 (.t 43)), (some (39, false))⟩,
    ⟨(some 45), (.len .slice (.t 44)), (some (39, false))⟩,
    ⟨(some 46), (.bin .neq (.t 42) (.t 45)), (some (39, false))⟩,
    ⟨(some 47), (.pick (.t 39) (.k (.bool true)) (.t 46)), none⟩])
  (.cond (.t 47) (.seq (.reg [
    ⟨(some 4), (.mv (.k (.bool false))), none⟩])
  .ret)
  .skip)) σ H (seqK (lxK cal φ N veneerref07SameC3) (kR (resK [(.tmp 4)] []) k)) = _
  rw [seqK_mk (g := fun σ H => veneerref07SameC3S cal φ N (lk σ 2) (lk σ 3) H) (veneerref07SameC3Eq cal φ N (k := (kR (resK [(.tmp 4)] []) k)) (fun _ _ => rfl))]
  kernel_rfl
def veneerref07SameC5S (cal : FuncId → Bool) (φ : Oracle) (N : Nat) (v0 v1 : IV) (H : Heap) : Option (IV × Heap) :=
    ob (lbox H v0) fun r1 =>
    ob (lbox r1.2 v1) fun r2 =>
    veneerref07SameC4S cal φ N r1.1 r2.1 r2.2
theorem veneerref07SameC5Eq (cal : FuncId → Bool) (φ : Oracle) (N : Nat) {k : KT (IV × Heap)} (hR : ∀ σ H, k .ret σ H = resK [(.tmp 4)] [] σ H) : ∀ (σ : Sg) (H : Heap), lxK cal φ N veneerref07SameC5 σ H k = veneerref07SameC5S cal φ N (lk σ 0) (lk σ 1) H := by
  have hk : k = (kR (resK [(.tmp 4)] []) k) := (kR_mk hR rfl)
  intro σ H
  rw [hk]
  show lxK cal φ N (.reg [
    ⟨(some 2), (.box (.t 0)), none⟩,
    ⟨(some 3), (.box (.t 1)), none⟩,
    ⟨(some 4), (.mv (.k (.bool false))), none⟩]) σ H (seqK (lxK cal φ N veneerref07SameC4) (kR (resK [(.tmp 4)] []) k)) = _
  rw [seqK_mk (g := fun σ H => veneerref07SameC4S cal φ N (lk σ 2) (lk σ 3) H) (veneerref07SameC4Eq cal φ N (k := (kR (resK [(.tmp 4)] []) k)) (fun _ _ => rfl))]
  kernel_rfl
def veneerref07Same : LFun := ⟨veneerref07SameC5, [(.tmp 4)], 66⟩
def veneerref07SameS (cal : FuncId → Bool) (φ : Oracle) (N : Nat) (v0 v1 : IV) (H : Heap) : Option (IV × Heap) :=
    veneerref07SameC5S cal φ N v0 v1 H
theorem veneerref07SameEq (cal : FuncId → Bool) (φ : Oracle) (N : Nat) (v0 v1 : IV) (H : Heap) : lrunK cal φ N (veneerref07Same) [v0, v1] H = veneerref07SameS cal φ N v0 v1 H := by
  show lxK cal φ N veneerref07SameC5 (initFrom 0 [v0, v1]) H (endK [(.tmp 4)]) = _
  exact veneerref07SameC5Eq cal φ N (k := (endK [(.tmp 4)])) (fun _ _ => rfl) (initFrom 0 [v0, v1]) H

def veneerlaw07IntsC0 : LC := .loop (.seq (.reg [
    ⟨(some 14), (.bin .lss (.t 13) (.t 12)), none⟩])
  (.seq (.cond (.t 14) .skip
  (.exit 0))
  (.seq (.block 1 (.seq (.reg [
    ⟨(some 15), (.mv (.t 13)), none⟩,
    ⟨(some 5), (.mv (.t 15)), none⟩])
  (.seq (.drw [
    ⟨(some 16), (.mv (.t 0)), none⟩,
    ⟨(some 17), (.mv (.t 5)), none⟩,
    ⟨(some 18), (.ix 1 (.t 16) (.t 17)), none⟩,
    ⟨(some 19), (.ld1 (.t 18)), none⟩,
    ⟨(some 20), (.mv (.t 1)), none⟩,
    ⟨(some 21), (.mv (.t 5)), none⟩,
    ⟨(some 22), (.ix 1 (.t 20) (.t 21)), none⟩,
    ⟨(some 23), (.ld1 (.t 22)), none⟩,
    ⟨(some 24), (.bin .neq (.t 19) (.t 23)), none⟩] [])
  (.cond (.t 24) (.seq (.reg [
    ⟨(some 4), (.mv (.k (.bool false))), none⟩])
  .ret)
  .skip))))
  (.reg [
    ⟨(some 25), (.bin .add (.t 13) (.k (.int .i64 1))), none⟩,
    ⟨(some 13), (.mv (.t 25)), none⟩]))))
def veneerlaw07IntsC1 : LC := .block 0 veneerlaw07IntsC0
def veneerlaw07IntsC2 : LC := .seq (.reg [
    ⟨(some 11), (.mv (.t 0)), none⟩,
    ⟨(some 12), (.len .slice (.t 11)), none⟩,
    ⟨(some 13), (.mv (.k (.int .i64 0))), none⟩]) veneerlaw07IntsC1
def veneerlaw07IntsC3 : LC := .seq veneerlaw07IntsC2 (.seq (.reg [
    ⟨(some 4), (.mv (.k (.bool true))), none⟩])
  .ret)
def veneerlaw07IntsC4 : LC := .seq (.seq (.reg [
    ⟨(some 6), (.mv (.t 0)), none⟩,
    ⟨(some 7), (.len .slice (.t 6)), none⟩,
    ⟨(some 8), (.mv (.t 1)), none⟩,
    ⟨(some 9), (.len .slice (.t 8)), none⟩,
    ⟨(some 10), (.bin .neq (.t 7) (.t 9)), none⟩])
  (.cond (.t 10) (.seq (.reg [
    ⟨(some 4), (.mv (.k (.bool false))), none⟩])
  .ret)
  .skip)) veneerlaw07IntsC3
def veneerlaw07IntsC5 : LC := .seq (.reg [
    ⟨(some 4), (.mv (.k (.bool false))), none⟩]) veneerlaw07IntsC4
def veneerlaw07IntsC0S (cal : FuncId → Bool) (φ : Oracle) (N : Nat) (gE0 : Heap → Option (IV × Heap)) : Nat → IV → IV → IV → IV → Heap → Option (IV × Heap)
  | 0, _, _, _, _, _ => none
  | n + 1, v0, v1, v12, v13, H =>
    ob (lbin .lss v13 v12) fun t1 =>
    cnd t1
    (ob (lix 1 v0 v13) fun t2 =>
    ob (lload1 H t2) fun t3 =>
    ob (lix 1 v1 v13) fun t4 =>
    ob (lload1 H t4) fun t5 =>
    ob (lbin .neq t3 t5) fun t6 =>
    cnd t6
    (some ((.bool false), H))
    (ob (lbin .add v13 (.int .i64 1)) fun t7 =>
    veneerlaw07IntsC0S cal φ N gE0 n v0 v1 v12 t7 H))
    (gE0 H)
theorem veneerlaw07IntsC0Eq (cal : FuncId → Bool) (φ : Oracle) (N : Nat) {k : KT (IV × Heap)} (gE0 : Heap → Option (IV × Heap)) (hgE0 : ∀ σ H, k (.exit 0) σ H = gE0 H) (hR : ∀ σ H, k .ret σ H = resK [(.tmp 4)] [] σ H) : ∀ (n : Nat) (σ : Sg) (H : Heap), itK (lxK cal φ N (.seq (.reg [
    ⟨(some 14), (.bin .lss (.t 13) (.t 12)), none⟩])
  (.seq (.cond (.t 14) .skip
  (.exit 0))
  (.seq (.block 1 (.seq (.reg [
    ⟨(some 15), (.mv (.t 13)), none⟩,
    ⟨(some 5), (.mv (.t 15)), none⟩])
  (.seq (.drw [
    ⟨(some 16), (.mv (.t 0)), none⟩,
    ⟨(some 17), (.mv (.t 5)), none⟩,
    ⟨(some 18), (.ix 1 (.t 16) (.t 17)), none⟩,
    ⟨(some 19), (.ld1 (.t 18)), none⟩,
    ⟨(some 20), (.mv (.t 1)), none⟩,
    ⟨(some 21), (.mv (.t 5)), none⟩,
    ⟨(some 22), (.ix 1 (.t 20) (.t 21)), none⟩,
    ⟨(some 23), (.ld1 (.t 22)), none⟩,
    ⟨(some 24), (.bin .neq (.t 19) (.t 23)), none⟩] [])
  (.cond (.t 24) (.seq (.reg [
    ⟨(some 4), (.mv (.k (.bool false))), none⟩])
  .ret)
  .skip))))
  (.reg [
    ⟨(some 25), (.bin .add (.t 13) (.k (.int .i64 1))), none⟩,
    ⟨(some 13), (.mv (.t 25)), none⟩]))))) n σ H k = veneerlaw07IntsC0S cal φ N gE0 n (lk σ 0) (lk σ 1) (lk σ 12) (lk σ 13) H := by
  have hk : k = (kE 0 (fun σ H => gE0 H) (kR (resK [(.tmp 4)] []) k)) := (kE_mk hgE0 (kR_mk hR rfl))
  intro n
  induction n with
  | zero => intro σ H; rfl
  | succ n ih =>
    intro σ H
    rw [itK_succ, seqK_mk (g := fun σ H => veneerlaw07IntsC0S cal φ N gE0 n (lk σ 0) (lk σ 1) (lk σ 12) (lk σ 13) H) ih, hk]
    kernel_rfl
def veneerlaw07IntsC1S (cal : FuncId → Bool) (φ : Oracle) (N : Nat) (gN : Heap → Option (IV × Heap)) (v0 v1 v12 v13 : IV) (H : Heap) : Option (IV × Heap) :=
    veneerlaw07IntsC0S cal φ N (fun H => gN H) N v0 v1 v12 v13 H
theorem veneerlaw07IntsC1Eq (cal : FuncId → Bool) (φ : Oracle) (N : Nat) {k : KT (IV × Heap)} (gN : Heap → Option (IV × Heap)) (hgN : ∀ σ H, k .normal σ H = gN H) (hR : ∀ σ H, k .ret σ H = resK [(.tmp 4)] [] σ H) : ∀ (σ : Sg) (H : Heap), lxK cal φ N veneerlaw07IntsC1 σ H k = veneerlaw07IntsC1S cal φ N gN (lk σ 0) (lk σ 1) (lk σ 12) (lk σ 13) H := by
  have hk : k = (kN (fun σ H => gN H) (kR (resK [(.tmp 4)] []) k)) := (kN_mk hgN (kR_mk hR rfl))
  intro σ H
  rw [hk]
  show lxK cal φ N veneerlaw07IntsC0 σ H (blockK 0 (kN (fun σ H => gN H) (kR (resK [(.tmp 4)] []) k))) = _
  exact veneerlaw07IntsC0Eq cal φ N (k := (blockK 0 (kN (fun σ H => gN H) (kR (resK [(.tmp 4)] []) k)))) (fun H => gN H) (fun _ _ => rfl) (fun _ _ => rfl) N σ H
def veneerlaw07IntsC2S (cal : FuncId → Bool) (φ : Oracle) (N : Nat) (gN : Heap → Option (IV × Heap)) (v0 v1 : IV) (H : Heap) : Option (IV × Heap) :=
    ob (llen H .slice v0) fun t1 =>
    veneerlaw07IntsC1S cal φ N (fun H => gN H) v0 v1 t1 (.int .i64 0) H
theorem veneerlaw07IntsC2Eq (cal : FuncId → Bool) (φ : Oracle) (N : Nat) {k : KT (IV × Heap)} (gN : Heap → Option (IV × Heap)) (hgN : ∀ σ H, k .normal σ H = gN H) (hR : ∀ σ H, k .ret σ H = resK [(.tmp 4)] [] σ H) : ∀ (σ : Sg) (H : Heap), lxK cal φ N veneerlaw07IntsC2 σ H k = veneerlaw07IntsC2S cal φ N gN (lk σ 0) (lk σ 1) H := by
  have hk : k = (kN (fun σ H => gN H) (kR (resK [(.tmp 4)] []) k)) := (kN_mk hgN (kR_mk hR rfl))
  intro σ H
  rw [hk]
  show lxK cal φ N (.reg [
    ⟨(some 11), (.mv (.t 0)), none⟩,
    ⟨(some 12), (.len .slice (.t 11)), none⟩,
    ⟨(some 13), (.mv (.k (.int .i64 0))), none⟩]) σ H (seqK (lxK cal φ N veneerlaw07IntsC1) (kN (fun σ H => gN H) (kR (resK [(.tmp 4)] []) k))) = _
  rw [seqK_mk (g := fun σ H => veneerlaw07IntsC1S cal φ N (fun H => gN H) (lk σ 0) (lk σ 1) (lk σ 12) (lk σ 13) H) (veneerlaw07IntsC1Eq cal φ N (k := (kN (fun σ H => gN H) (kR (resK [(.tmp 4)] []) k))) (fun H => gN H) (fun _ _ => rfl) (fun _ _ => rfl))]
  kernel_rfl
def veneerlaw07IntsC3S (cal : FuncId → Bool) (φ : Oracle) (N : Nat) (v0 v1 : IV) (H : Heap) : Option (IV × Heap) :=
    veneerlaw07IntsC2S cal φ N (fun H => some ((.bool true), H)) v0 v1 H
theorem veneerlaw07IntsC3Eq (cal : FuncId → Bool) (φ : Oracle) (N : Nat) {k : KT (IV × Heap)} (hR : ∀ σ H, k .ret σ H = resK [(.tmp 4)] [] σ H) : ∀ (σ : Sg) (H : Heap), lxK cal φ N veneerlaw07IntsC3 σ H k = veneerlaw07IntsC3S cal φ N (lk σ 0) (lk σ 1) H := by
  have hk : k = (kR (resK [(.tmp 4)] []) k) := (kR_mk hR rfl)
  intro σ H
  rw [hk]
  show lxK cal φ N veneerlaw07IntsC2 σ H (seqK (lxK cal φ N (.seq (.reg [
    ⟨(some 4), (.mv (.k (.bool true))), none⟩])
  .ret)) (kR (resK [(.tmp 4)] []) k)) = _
  exact veneerlaw07IntsC2Eq cal φ N (k := (seqK (lxK cal φ N (.seq (.reg [
    ⟨(some 4), (.mv (.k (.bool true))), none⟩])
  .ret)) (kR (resK [(.tmp 4)] []) k))) (fun H => some ((.bool true), H)) (fun _ _ => rfl) (fun _ _ => rfl) σ H
def veneerlaw07IntsC4S (cal : FuncId → Bool) (φ : Oracle) (N : Nat) (v0 v1 : IV) (H : Heap) : Option (IV × Heap) :=
    ob (llen H .slice v0) fun t1 =>
    ob (llen H .slice v1) fun t2 =>
    ob (lbin .neq t1 t2) fun t3 =>
    cnd t3
    (some ((.bool false), H))
    (veneerlaw07IntsC3S cal φ N v0 v1 H)
theorem veneerlaw07IntsC4Eq (cal : FuncId → Bool) (φ : Oracle) (N : Nat) {k : KT (IV × Heap)} (hR : ∀ σ H, k .ret σ H = resK [(.tmp 4)] [] σ H) : ∀ (σ : Sg) (H : Heap), lxK cal φ N veneerlaw07IntsC4 σ H k = veneerlaw07IntsC4S cal φ N (lk σ 0) (lk σ 1) H := by
  have hk : k = (kR (resK [(.tmp 4)] []) k) := (kR_mk hR rfl)
  intro σ H
  rw [hk]
  show lxK cal φ N (.seq (.reg [
    ⟨(some 6), (.mv (.t 0)), none⟩,
    ⟨(some 7), (.len .slice (.t 6)), none⟩,
    ⟨(some 8), (.mv (.t 1)), none⟩,
    ⟨(some 9), (.len .slice (.t 8)), none⟩,
    ⟨(some 10), (.bin .neq (.t 7) (.t 9)), none⟩])
  (.cond (.t 10) (.seq (.reg [
    ⟨(some 4), (.mv (.k (.bool false))), none⟩])
  .ret)
  .skip)) σ H (seqK (lxK cal φ N veneerlaw07IntsC3) (kR (resK [(.tmp 4)] []) k)) = _
  rw [seqK_mk (g := fun σ H => veneerlaw07IntsC3S cal φ N (lk σ 0) (lk σ 1) H) (veneerlaw07IntsC3Eq cal φ N (k := (kR (resK [(.tmp 4)] []) k)) (fun _ _ => rfl))]
  kernel_rfl
def veneerlaw07IntsC5S (cal : FuncId → Bool) (φ : Oracle) (N : Nat) (v0 v1 : IV) (H : Heap) : Option (IV × Heap) :=
    veneerlaw07IntsC4S cal φ N v0 v1 H
theorem veneerlaw07IntsC5Eq (cal : FuncId → Bool) (φ : Oracle) (N : Nat) {k : KT (IV × Heap)} (hR : ∀ σ H, k .ret σ H = resK [(.tmp 4)] [] σ H) : ∀ (σ : Sg) (H : Heap), lxK cal φ N veneerlaw07IntsC5 σ H k = veneerlaw07IntsC5S cal φ N (lk σ 0) (lk σ 1) H := by
  have hk : k = (kR (resK [(.tmp 4)] []) k) := (kR_mk hR rfl)
  intro σ H
  rw [hk]
  show lxK cal φ N (.reg [
    ⟨(some 4), (.mv (.k (.bool false))), none⟩]) σ H (seqK (lxK cal φ N veneerlaw07IntsC4) (kR (resK [(.tmp 4)] []) k)) = _
  rw [seqK_mk (g := fun σ H => veneerlaw07IntsC4S cal φ N (lk σ 0) (lk σ 1) H) (veneerlaw07IntsC4Eq cal φ N (k := (kR (resK [(.tmp 4)] []) k)) (fun _ _ => rfl))]
  kernel_rfl
def veneerlaw07Ints : LFun := ⟨veneerlaw07IntsC5, [(.tmp 4)], 26⟩
def veneerlaw07IntsS (cal : FuncId → Bool) (φ : Oracle) (N : Nat) (v0 v1 : IV) (H : Heap) : Option (IV × Heap) :=
    veneerlaw07IntsC5S cal φ N v0 v1 H
theorem veneerlaw07IntsEq (cal : FuncId → Bool) (φ : Oracle) (N : Nat) (v0 v1 : IV) (H : Heap) : lrunK cal φ N (veneerlaw07Ints) [v0, v1] H = veneerlaw07IntsS cal φ N v0 v1 H := by
  show lxK cal φ N veneerlaw07IntsC5 (initFrom 0 [v0, v1]) H (endK [(.tmp 4)]) = _
  exact veneerlaw07IntsC5Eq cal φ N (k := (endK [(.tmp 4)])) (fun _ _ => rfl) (initFrom 0 [v0, v1]) H

def veneerlaw07Play (cVeneerDescTableOpen cVeneerDescTableClose cVeneerDescTableSet : FuncId) : LFun := ⟨(.seq (.reg [
    ⟨(some 3), (.box (.t 1)), none⟩])
  (.seq (.seq (.reg [
    ⟨(some 4), (.off (.t 3) 2), none⟩,
    ⟨(some 5), (.off (.t 4) 4), none⟩,
    ⟨(some 6), (.ld1 (.t 5)), none⟩,
    ⟨(some 7), (.len .slice (.t 6)), none⟩,
    ⟨(some 8), (.bin .gtr (.t 7) (.k (.int .i64 100))), none⟩])
  (.cond (.t 8) .ret
  .skip))
  (.seq (.reg [
    ⟨(some 9), (.off (.t 3) 0), none⟩,
    ⟨(some 10), (.ld1 (.t 9)), none⟩])
  (.block 0 (.seq (.reg [
    ⟨(some 12), (.bin .eql (.t 10) (.k (.int .i64 0))), none⟩,
    ⟨(some 11), (.mv (.t 12)), none⟩])
  (.cond (.t 11) (.reg [
    ⟨(some 13), (.mv (.t 0)), none⟩,
    ⟨(some 14), (.off (.t 3) 2), none⟩,
    ⟨(some 15), (.ldn 6 (.t 14)), none⟩,
    ⟨(some 16), (.callF cVeneerDescTableOpen [(.t 13), (.t 15)]), none⟩])
  (.seq (.reg [
    ⟨(some 18), (.bin .eql (.t 10) (.k (.int .i64 1))), none⟩,
    ⟨(some 17), (.mv (.t 18)), none⟩])
  (.cond (.t 17) (.reg [
    ⟨(some 19), (.mv (.t 0)), none⟩,
    ⟨(some 20), (.off (.t 3) 1), none⟩,
    ⟨(some 21), (.ld1 (.t 20)), none⟩,
    ⟨(some 22), (.callF cVeneerDescTableClose [(.t 19), (.t 21)]), none⟩])
  (.seq (.reg [
    ⟨(some 24), (.bin .eql (.t 10) (.k (.int .i64 2))), none⟩,
    ⟨(some 23), (.mv (.t 24)), none⟩])
  (.cond (.t 23) (.reg [
    ⟨(some 25), (.mv (.t 0)), none⟩,
    ⟨(some 26), (.off (.t 3) 1), none⟩,
    ⟨(some 27), (.ld1 (.t 26)), none⟩,
    ⟨(some 28), (.off (.t 3) 2), none⟩,
    ⟨(some 29), (.ldn 6 (.t 28)), none⟩,
    ⟨(some 30), (.callF cVeneerDescTableSet [(.t 25), (.t 27), (.t 29)]), none⟩])
  .skip)))))))))), [], 31⟩
def veneerlaw07PlayS (cal : FuncId → Bool) (φ : Oracle) (N : Nat) (cVeneerDescTableOpen cVeneerDescTableClose cVeneerDescTableSet : FuncId) (v0 v1 : IV) (H : Heap) : Option (IV × Heap) :=
    ob (lbox H v1) fun r1 =>
    ob (loff r1.1 2) fun t2 =>
    ob (loff t2 4) fun t3 =>
    ob (lload1 r1.2 t3) fun t4 =>
    ob (llen r1.2 .slice t4) fun t5 =>
    ob (lbin .gtr t5 (.int .i64 100)) fun t6 =>
    cnd t6
    (some ((.tuple []), r1.2))
    (ob (loff r1.1 0) fun t7 =>
    ob (lload1 r1.2 t7) fun t8 =>
    jn (fun (H28 : Heap) =>
    some ((.tuple []), H28)) fun J9 =>
    ob (lbin .eql t8 (.int .i64 0)) fun t29 =>
    cnd t29
    (ob (loff r1.1 2) fun t30 =>
    ob (lloadn r1.2 6 t30) fun t31 =>
    ob (φ cVeneerDescTableOpen [v0, t31] r1.2) fun r32 =>
    J9 r32.2)
    (ob (lbin .eql t8 (.int .i64 1)) fun t33 =>
    cnd t33
    (ob (loff r1.1 1) fun t34 =>
    ob (lload1 r1.2 t34) fun t35 =>
    ob (φ cVeneerDescTableClose [v0, t35] r1.2) fun r36 =>
    J9 r36.2)
    (ob (lbin .eql t8 (.int .i64 2)) fun t37 =>
    cnd t37
    (ob (loff r1.1 1) fun t38 =>
    ob (lload1 r1.2 t38) fun t39 =>
    ob (loff r1.1 2) fun t40 =>
    ob (lloadn r1.2 6 t40) fun t41 =>
    ob (φ cVeneerDescTableSet [v0, t39, t41] r1.2) fun r42 =>
    J9 r42.2)
    (J9 r1.2))))
theorem veneerlaw07PlayEq (cal : FuncId → Bool) (φ : Oracle) (N : Nat) (cVeneerDescTableOpen cVeneerDescTableClose cVeneerDescTableSet : FuncId) (v0 v1 : IV) (H : Heap) : lrunK cal φ N (veneerlaw07Play cVeneerDescTableOpen cVeneerDescTableClose cVeneerDescTableSet) [v0, v1] H = veneerlaw07PlayS cal φ N cVeneerDescTableOpen cVeneerDescTableClose cVeneerDescTableSet v0 v1 H := by
  kernel_rfl

end Go.Shade
