/- SHADE, part 27: low code, without rounds. -/
import Derived.Test.YtdljmmdbpngchaaShadeL3
namespace Go.Shade
open Go.RowKit
set_option linter.unusedSimpArgs false
set_option linter.unusedVariables false

theorem lexec_mono {cal : FuncId → Bool} {φ : Oracle} {n k : Nat} (hn : n ≤ k) : ∀ (c : LC) (σ : Sg) (H : Heap), LeF (lexec cal φ n c σ H) (lexec cal φ k c σ H) := by
  intro c
  induction c with
  | seq c d ihc ihd =>
    intro σ H
    refine (ihc σ H).bind fun r => ?_
    obtain ⟨x, σ', H'⟩ := r
    cases x with
    | normal => exact ihd σ' H'
    | exit id => exact LeF.refl _
    | ret => exact LeF.refl _
  | cond c a b iha ihb =>
    intro σ H
    simp only [lexec]
    split
    · exact iha σ H
    · exact ihb σ H
    · exact LeF.refl _
  | block id c ih =>
    intro σ H
    exact (ih σ H).bind fun r => LeF.refl _
  | loop c ih =>
    intro σ H
    simp only [lexec]
    exact piter_mono ih n k hn σ H
  | _ => intro σ H; exact LeF.refl _

noncomputable def lxd (cal : FuncId → Bool) (φ : Oracle) (c : LC) : PBody := fun σ H => lim fun n => lexec cal φ n c σ H
theorem lxd_rising (cal : FuncId → Bool) (φ : Oracle) (c : LC) (σ : Sg) (H : Heap) : Rising fun n => lexec cal φ n c σ H := fun n k h => lexec_mono h c σ H
theorem lxd_some {cal : FuncId → Bool} {φ : Oracle} {c : LC} {σ : Sg} {H : Heap} {r : IX × Sg × Heap} : lxd cal φ c σ H = some r ↔ ∃ n, lexec cal φ n c σ H = some r := lim_some (lxd_rising cal φ c σ H)
section
variable {cal : FuncId → Bool} {φ : Oracle} {σ : Sg} {H : Heap}
theorem lxd_const {c : LC} {r : Option (IX × Sg × Heap)} (h : ∀ n, lexec cal φ n c σ H = r) : lxd cal φ c σ H = r :=
  lim_eq (lxd_rising cal φ c σ H) fun v => ⟨fun e => ⟨0, by rw [h, e]⟩, fun ⟨n, hn⟩ => by rw [← hn, h]⟩
theorem lxd_skip : lxd cal φ .skip σ H = some (.normal, σ, H) := lxd_const fun _ => rfl
theorem lxd_reg {l : List LO} : lxd cal φ (.reg l) σ H = (lops cal φ l σ H).bind fun r => some (.normal, r.1, r.2) := lxd_const fun _ => rfl
theorem lxd_drw {l : List LO} {ps : List (Nat × Nat)} : lxd cal φ (.drw l ps) σ H = (ldraw cal φ l ps σ H).bind fun r => some (.normal, r.1, r.2) := lxd_const fun _ => rfl
theorem lxd_exit {id : Nat} : lxd cal φ (.exit id) σ H = some (.exit id, σ, H) := lxd_const fun _ => rfl
theorem lxd_ret : lxd cal φ .ret σ H = some (.ret, σ, H) := lxd_const fun _ => rfl
theorem lxd_seq {a b : LC} : lxd cal φ (.seq a b) σ H = pThen (lxd cal φ a σ H) (lxd cal φ b) := by
  refine lim_eq (lxd_rising cal φ (.seq a b) σ H) fun v => ?_
  have he : ∀ n, lexec cal φ n (.seq a b) σ H = pThen (lexec cal φ n a σ H) (lexec cal φ n b) := fun _ => rfl
  rw [pThen_some]
  constructor
  · rintro (⟨σ', H', h1, h2⟩ | ⟨h1, h2⟩)
    · obtain ⟨n, hn⟩ := lxd_some.1 h1
      obtain ⟨k, hk⟩ := lxd_some.1 h2
      refine ⟨max n k, ?_⟩
      rw [he, pThen_some]
      exact .inl ⟨σ', H', lxd_rising cal φ a σ H n _ (Nat.le_max_left _ _) _ hn, lxd_rising cal φ b σ' H' k _ (Nat.le_max_right _ _) _ hk⟩
    · obtain ⟨n, hn⟩ := lxd_some.1 h1
      exact ⟨n, by rw [he, pThen_some]; exact .inr ⟨hn, h2⟩⟩
  · rintro ⟨n, hn⟩
    rw [he, pThen_some] at hn
    rcases hn with ⟨σ', H', h1, h2⟩ | ⟨h1, h2⟩
    · exact .inl ⟨σ', H', lxd_some.2 ⟨n, h1⟩, lxd_some.2 ⟨n, h2⟩⟩
    · exact .inr ⟨lxd_some.2 ⟨n, h1⟩, h2⟩
theorem lxd_block {id : Nat} {a : LC} : lxd cal φ (.block id a) σ H = pBlock id (lxd cal φ a σ H) := by
  refine lim_eq (lxd_rising cal φ (.block id a) σ H) fun v => ?_
  have he : ∀ n, lexec cal φ n (.block id a) σ H = pBlock id (lexec cal φ n a σ H) := fun _ => rfl
  constructor
  · intro h
    obtain ⟨q, h1, h2⟩ := Option.bind_eq_some_iff.1 h
    obtain ⟨n, hn⟩ := lxd_some.1 h1
    exact ⟨n, by rw [he]; unfold pBlock; rw [hn]; exact h2⟩
  · rintro ⟨n, hn⟩
    rw [he] at hn
    obtain ⟨q, h1, h2⟩ := Option.bind_eq_some_iff.1 hn
    unfold pBlock
    rw [lxd_some.2 ⟨n, h1⟩]; exact h2
theorem lxd_loop {a : LC} : lxd cal φ (.loop a) σ H = pThen (lxd cal φ a σ H) (lxd cal φ (.loop a)) := by
  refine lim_eq (lxd_rising cal φ (.loop a) σ H) fun v => ?_
  have hi : ∀ n k σ H, piter (lexec cal φ n a) (k + 1) σ H = pThen (lexec cal φ n a σ H) (piter (lexec cal φ n a) k) := fun _ _ _ _ => rfl
  rw [pThen_some]
  constructor
  · rintro (⟨σ', H', h1, h2⟩ | ⟨h1, h2⟩)
    · obtain ⟨n, hn⟩ := lxd_some.1 h1
      obtain ⟨k, hk⟩ := lxd_some.1 h2
      refine ⟨max n k + 1, ?_⟩
      show piter (lexec cal φ (max n k + 1) a) (max n k + 1) σ H = some v
      rw [hi, pThen_some]
      refine .inl ⟨σ', H', lxd_rising cal φ a σ H n _ (by omega) _ hn, ?_⟩
      exact piter_mono (fun σ H => lxd_rising cal φ a σ H k (max n k + 1) (by omega)) k (max n k) (by omega) σ' H' v hk
    · obtain ⟨n, hn⟩ := lxd_some.1 h1
      refine ⟨n + 1, ?_⟩
      show piter (lexec cal φ (n + 1) a) (n + 1) σ H = some v
      rw [hi, pThen_some]
      exact .inr ⟨lxd_rising cal φ a σ H n _ (by omega) _ hn, h2⟩
  · rintro ⟨n, hn⟩
    have hn : piter (lexec cal φ n a) n σ H = some v := hn
    cases n with
    | zero => simp [piter] at hn
    | succ n =>
      rw [hi, pThen_some] at hn
      rcases hn with ⟨σ', H', h1, h2⟩ | ⟨h1, h2⟩
      · refine .inl ⟨σ', H', lxd_some.2 ⟨n + 1, h1⟩, lxd_some.2 ⟨n + 1, ?_⟩⟩
        show piter (lexec cal φ (n + 1) a) (n + 1) σ' H' = some v
        exact piter_mono (fun σ H => LeF.refl _) n (n + 1) (by omega) σ' H' v h2
      · exact .inr ⟨lxd_some.2 ⟨n + 1, h1⟩, h2⟩
theorem lxd_bad : lxd cal φ .bad σ H = none := lxd_const fun _ => rfl
def lIf (v : IV) (a b : Option (IX × Sg × Heap)) : Option (IX × Sg × Heap) := match v with
  | .bool t => if t then a else b
  | _ => none
theorem lIf_bool {t : Bool} {a b : Option (IX × Sg × Heap)} : lIf (.bool t) a b = if t = true then a else b := rfl
theorem lxd_cond {c : LArg} {a b : LC} : lxd cal φ (.cond c a b) σ H = lIf (la σ c) (lxd cal φ a σ H) (lxd cal φ b σ H) := by
  cases hv : la σ c with
  | bool t =>
    cases t with
    | true => unfold lxd; simp only [lexec, hv, lIf, if_true]
    | false => unfold lxd; simp only [lexec, hv, lIf, Bool.false_eq_true, if_false]
  | _ => exact lxd_const fun n => by simp only [lexec, hv]; rfl
end

/-! ### functions -/
inductive LRes where
  | tmp (t : Nat)
  | cell1 (x : Nat)
  | celln (x n : Nat)
  deriving Inhabited
structure LFun where
  pc : LC
  rs : List LRes
  n : Nat
  deriving Inhabited
def lresult (σ : Sg) (H : Heap) : LRes → Option IV
  | .tmp t => some (lk σ t)
  | .cell1 x => lload1 H (lk σ x)
  | .celln x n => lloadn H n (lk σ x)
def lresults (σ : Sg) (H : Heap) : List LRes → Option (List IV)
  | [] => some []
  | r :: rs => (lresult σ H r).bind fun v => (lresults σ H rs).bind fun vs => some (v :: vs)
def lback (rs : List LRes) (r : Option (IX × Sg × Heap)) : Option (IV × Heap) := r.bind fun q => match q with
  | (.exit _, _, _) => none
  | (_, σ, H) => (lresults σ H rs).bind fun vs => some (pack vs, H)
theorem lback_ret {rs : List LRes} {σ : Sg} {H : Heap} : lback rs (some (.ret, σ, H)) = (lresults σ H rs).bind fun vs => some (pack vs, H) := rfl
theorem lback_normal {rs : List LRes} {σ : Sg} {H : Heap} : lback rs (some (.normal, σ, H)) = (lresults σ H rs).bind fun vs => some (pack vs, H) := rfl
theorem lback_none {rs : List LRes} : lback rs none = none := rfl
noncomputable def lrun (cal : FuncId → Bool) (φ : Oracle) (lf : LFun) (args : List IV) (H : Heap) : Option (IV × Heap) := lback lf.rs (lxd cal φ lf.pc (initFrom 0 args) H)
def lowRes (P : Program) : ResultVar → Option LRes
  | .tmp t => some (.tmp t)
  | .cell x t => match isAggT P t with
    | some true => (szOf P t).map fun n => .celln x n
    | some false => some (.cell1 x)
    | none => none
def lowRess (P : Program) : List ResultVar → Option (List LRes)
  | [] => some []
  | r :: rs => (lowRes P r).bind fun x => (lowRess P rs).bind fun xs => some (x :: xs)
theorem lowRes_le {P : Program} {r : ResultVar} {x : LRes} (h : lowRes P r = some x) (σ : Sg) (H : Heap) : presult P σ H r = lresult σ H x := by
  cases r with
  | tmp t => simp only [lowRes] at h; cases h; rfl
  | cell y t =>
    simp only [lowRes] at h
    split at h
    · rename_i ha
      obtain ⟨n, hn, rfl⟩ := oM h
      simp only [presult, lresult]
      cases lk σ y <;> first | rfl | (simp only [lloadn_eq ha hn])
    · rename_i ha
      cases h
      simp only [presult, lresult]
      cases lk σ y <;> first | rfl | (simp only [lload1_eq ha])
    · cases h
theorem lowRess_le {P : Program} : ∀ {rs : List ResultVar} {xs : List LRes}, lowRess P rs = some xs → ∀ (σ : Sg) (H : Heap), presults P σ H rs = lresults σ H xs
  | [], xs, h, σ, H => by simp only [lowRess] at h; cases h; rfl
  | r :: rs, xs, h, σ, H => by
    simp only [lowRess] at h
    obtain ⟨x, h1, h⟩ := oB h
    obtain ⟨xs', h2, h⟩ := oB h
    cases h
    simp only [presults, lresults, lowRes_le h1, lowRess_le h2]
def lowF (P : Program) (fn : Func) : Option LFun := (compileF P fn).bind fun pf => (lowRess P pf.rs).bind fun rs => some ⟨lowC P pf.pc, rs, pf.n⟩
theorem low_xd {P : Program} {cal : FuncId → Bool} {φ : Oracle} (hcal : ∀ g, cal g = true → callable P g = true) (c : PC) (σ : Sg) (H : Heap) : LeF (lxd cal φ (lowC P c) σ H) (pxd P φ c σ H) := by
  intro r hr
  obtain ⟨n, hn⟩ := lxd_some.1 hr
  exact pxd_some.2 ⟨n, low_exec hcal c σ H r hn⟩
/-- What a function's low code comes to, the function does. -/
theorem low_den {P : Program} {T : Table} {cal : FuncId → Bool} (hcal : ∀ g, cal g = true → callable P g = true) {f : FuncId} {fn : Func} {lf : LFun} (h : T f = none) (hf : P.funcs[f]? = some fn) (hc : lowF P fn = some lf) {args : List IV} {H : Heap} (hl : args.length ≤ lf.n) {r : IV × Heap} (hr : lrun cal (den P T) lf args H = some r) :
    den P T f args H = some r := by
  unfold lowF at hc
  obtain ⟨pf, h1, hc⟩ := oB hc
  obtain ⟨rs, h2, hc⟩ := oB hc
  cases hc
  rw [den_pbody h hf h1 args H hl]
  unfold lrun lback at hr
  unfold pback
  obtain ⟨q, g1, g2⟩ := oB hr
  rw [low_xd hcal pf.pc _ _ _ g1]
  obtain ⟨x, σ, H'⟩ := q
  cases x with
  | normal => simp only [Option.bind_some, lowRess_le h2]; exact g2
  | ret => simp only [Option.bind_some, lowRess_le h2]; exact g2
  | exit id => cases g2
end Go.Shade
