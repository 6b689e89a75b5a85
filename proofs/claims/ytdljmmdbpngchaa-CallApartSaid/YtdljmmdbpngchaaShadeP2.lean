/- SHADE, part 23: compact code, without rounds. -/
import Derived.Test.YtdljmmdbpngchaaShadeP
namespace Go.Shade
open Go.RowKit
set_option linter.unusedSimpArgs false
set_option linter.unusedVariables false

theorem piter_mono {f g : PBody} (h : ∀ σ H, LeF (f σ H) (g σ H)) : ∀ (k j : Nat), k ≤ j → ∀ σ H, LeF (piter f k σ H) (piter g j σ H)
  | 0, _, _, _, _ => fun r hr => by simp [piter] at hr
  | k + 1, 0, hk, _, _ => by omega
  | k + 1, j + 1, hk, σ, H => by
    simp only [piter]
    refine (h σ H).bind fun r => ?_
    obtain ⟨x, σ', H'⟩ := r
    cases x with
    | normal => exact piter_mono h k j (by omega) σ' H'
    | exit id => exact LeF.refl _
    | ret => exact LeF.refl _
theorem pexec_mono {P : Program} {φ : Oracle} {n k : Nat} (hn : n ≤ k) : ∀ (c : PC) (σ : Sg) (H : Heap), LeF (pexec P φ n c σ H) (pexec P φ k c σ H) := by
  intro c
  induction c with
  | seq c d ihc ihd =>
    intro σ H
    refine (ihc σ H).bind fun r => ?_
    obtain ⟨x, σ', H'⟩ := r
    cases x with
    | normal => exact ihd σ' H'
    | exit id => exact LeF.refl _
    | ret => exact LeF.refl _
  | cond c a b iha ihb =>
    intro σ H
    simp only [pexec]
    split
    · exact iha σ H
    · exact ihb σ H
    · exact LeF.refl _
  | block id c ih =>
    intro σ H
    exact (ih σ H).bind fun r => LeF.refl _
  | loop c ih =>
    intro σ H
    simp only [pexec]
    exact piter_mono ih n k hn σ H
  | _ => intro σ H; exact LeF.refl _

noncomputable def pxd (P : Program) (φ : Oracle) (c : PC) : PBody := fun σ H => lim fun n => pexec P φ n c σ H
theorem pxd_rising (P : Program) (φ : Oracle) (c : PC) (σ : Sg) (H : Heap) : Rising fun n => pexec P φ n c σ H := fun n k h => pexec_mono h c σ H
theorem pxd_some {P : Program} {φ : Oracle} {c : PC} {σ : Sg} {H : Heap} {r : IX × Sg × Heap} : pxd P φ c σ H = some r ↔ ∃ n, pexec P φ n c σ H = some r := lim_some (pxd_rising P φ c σ H)
/-- What follows where the code went on as usual. -/
def pThen (r : Option (IX × Sg × Heap)) (f : PBody) : Option (IX × Sg × Heap) := r.bind fun q => match q with
  | (.normal, σ, H) => f σ H
  | q => some q
def pBlock (id : Nat) (r : Option (IX × Sg × Heap)) : Option (IX × Sg × Heap) := r.bind fun q => match q with
  | (.exit id', σ, H) => if id' = id then some (.normal, σ, H) else some (.exit id', σ, H)
  | q => some q
section
variable {P : Program} {φ : Oracle} {σ : Sg} {H : Heap}
theorem pxd_const {c : PC} {r : Option (IX × Sg × Heap)} (h : ∀ n, pexec P φ n c σ H = r) : pxd P φ c σ H = r :=
  lim_eq (pxd_rising P φ c σ H) fun v => ⟨fun e => ⟨0, by rw [h, e]⟩, fun ⟨n, hn⟩ => by rw [← hn, h]⟩
theorem pxd_skip : pxd P φ .skip σ H = some (.normal, σ, H) := pxd_const fun _ => rfl
theorem pxd_reg {l : List POp} : pxd P φ (.reg l) σ H = (pops P φ l σ H).bind fun r => some (.normal, r.1, r.2) := pxd_const fun _ => rfl
theorem pxd_drw {l : List POp} {ps : List (Nat × Nat)} : pxd P φ (.drw l ps) σ H = (pdraw P φ l ps σ H).bind fun r => some (.normal, r.1, r.2) := pxd_const fun _ => rfl
theorem pxd_exit {id : Nat} : pxd P φ (.exit id) σ H = some (.exit id, σ, H) := pxd_const fun _ => rfl
theorem pxd_ret : pxd P φ .ret σ H = some (.ret, σ, H) := pxd_const fun _ => rfl
theorem pThen_normal {f : PBody} : pThen (some (.normal, σ, H)) f = f σ H := rfl
theorem pThen_ret {f : PBody} : pThen (some (.ret, σ, H)) f = some (.ret, σ, H) := rfl
theorem pThen_exit {id : Nat} {f : PBody} : pThen (some (.exit id, σ, H)) f = some (.exit id, σ, H) := rfl
theorem pThen_some {r : Option (IX × Sg × Heap)} {f : PBody} {v : IX × Sg × Heap} : pThen r f = some v ↔ (∃ σ H, r = some (.normal, σ, H) ∧ f σ H = some v) ∨ (r = some v ∧ ∀ σ H, v ≠ (.normal, σ, H)) := by
  unfold pThen
  cases r with
  | none => simp
  | some q =>
    obtain ⟨x, σ, H⟩ := q
    cases x with
    | normal =>
      simp only [Option.bind_some]
      constructor
      · intro h; exact .inl ⟨σ, H, rfl, h⟩
      · rintro (⟨σ', H', h1, h2⟩ | ⟨h1, h2⟩)
        · cases h1; exact h2
        · cases h1; exact absurd rfl (h2 σ H)
    | exit id =>
      simp only [Option.bind_some]
      constructor
      · intro h; cases h; exact .inr ⟨rfl, by simp⟩
      · rintro (⟨σ', H', h1, h2⟩ | ⟨h1, h2⟩)
        · cases h1
        · exact h1
    | ret =>
      simp only [Option.bind_some]
      constructor
      · intro h; cases h; exact .inr ⟨rfl, by simp⟩
      · rintro (⟨σ', H', h1, h2⟩ | ⟨h1, h2⟩)
        · cases h1
        · exact h1
theorem pxd_seq {a b : PC} : pxd P φ (.seq a b) σ H = pThen (pxd P φ a σ H) (pxd P φ b) := by
  refine lim_eq (pxd_rising P φ (.seq a b) σ H) fun v => ?_
  have he : ∀ n, pexec P φ n (.seq a b) σ H = pThen (pexec P φ n a σ H) (pexec P φ n b) := fun _ => rfl
  rw [pThen_some]
  constructor
  · rintro (⟨σ', H', h1, h2⟩ | ⟨h1, h2⟩)
    · obtain ⟨n, hn⟩ := pxd_some.1 h1
      obtain ⟨k, hk⟩ := pxd_some.1 h2
      refine ⟨max n k, ?_⟩
      rw [he, pThen_some]
      exact .inl ⟨σ', H', pxd_rising P φ a σ H n _ (Nat.le_max_left _ _) _ hn, pxd_rising P φ b σ' H' k _ (Nat.le_max_right _ _) _ hk⟩
    · obtain ⟨n, hn⟩ := pxd_some.1 h1
      exact ⟨n, by rw [he, pThen_some]; exact .inr ⟨hn, h2⟩⟩
  · rintro ⟨n, hn⟩
    rw [he, pThen_some] at hn
    rcases hn with ⟨σ', H', h1, h2⟩ | ⟨h1, h2⟩
    · exact .inl ⟨σ', H', pxd_some.2 ⟨n, h1⟩, pxd_some.2 ⟨n, h2⟩⟩
    · exact .inr ⟨pxd_some.2 ⟨n, h1⟩, h2⟩
theorem pxd_cond {c : Operand} {a b : PC} {t : Bool} (hc : penv σ c = some (.bool t)) : pxd P φ (.cond c a b) σ H = if t then pxd P φ a σ H else pxd P φ b σ H := by
  unfold pxd
  cases t with
  | true => simp only [pexec, hc, if_true]
  | false => simp only [pexec, hc, Bool.false_eq_true, if_false]
theorem pxd_condT {c : Operand} {a b : PC} (hc : penv σ c = some (.bool true)) : pxd P φ (.cond c a b) σ H = pxd P φ a σ H := by rw [pxd_cond hc, if_pos rfl]
theorem pxd_condF {c : Operand} {a b : PC} (hc : penv σ c = some (.bool false)) : pxd P φ (.cond c a b) σ H = pxd P φ b σ H := by rw [pxd_cond hc]; rfl
def pIf (v : Option IV) (a b : Option (IX × Sg × Heap)) : Option (IX × Sg × Heap) := match v with
  | some (.bool t) => if t then a else b
  | _ => none
theorem pIf_bool {t : Bool} {a b : Option (IX × Sg × Heap)} : pIf (some (.bool t)) a b = if t = true then a else b := rfl
theorem pxd_if {c : Operand} {a b : PC} : pxd P φ (.cond c a b) σ H = pIf (penv σ c) (pxd P φ a σ H) (pxd P φ b σ H) := by
  cases hv : penv σ c with
  | none => exact pxd_const fun n => by simp only [pexec, hv]; rfl
  | some v =>
    cases v with
    | bool t => rw [pxd_cond hv]; rfl
    | _ => exact pxd_const fun n => by simp only [pexec, hv]; rfl
theorem pBlock_normal {id : Nat} : pBlock id (some (.normal, σ, H)) = some (.normal, σ, H) := rfl
theorem pBlock_ret {id : Nat} : pBlock id (some (.ret, σ, H)) = some (.ret, σ, H) := rfl
theorem pBlock_exit {id id' : Nat} : pBlock id (some (.exit id', σ, H)) = if id' = id then some (.normal, σ, H) else some (.exit id', σ, H) := rfl
theorem pxd_block {id : Nat} {a : PC} : pxd P φ (.block id a) σ H = pBlock id (pxd P φ a σ H) := by
  refine lim_eq (pxd_rising P φ (.block id a) σ H) fun v => ?_
  have he : ∀ n, pexec P φ n (.block id a) σ H = pBlock id (pexec P φ n a σ H) := fun _ => rfl
  constructor
  · intro h
    obtain ⟨q, h1, h2⟩ := Option.bind_eq_some_iff.1 h
    obtain ⟨n, hn⟩ := pxd_some.1 h1
    exact ⟨n, by rw [he]; unfold pBlock; rw [hn]; exact h2⟩
  · rintro ⟨n, hn⟩
    rw [he] at hn
    obtain ⟨q, h1, h2⟩ := Option.bind_eq_some_iff.1 hn
    unfold pBlock
    rw [pxd_some.2 ⟨n, h1⟩]; exact h2
theorem pxd_loop {a : PC} : pxd P φ (.loop a) σ H = pThen (pxd P φ a σ H) (pxd P φ (.loop a)) := by
  refine lim_eq (pxd_rising P φ (.loop a) σ H) fun v => ?_
  have hi : ∀ n k σ H, piter (pexec P φ n a) (k + 1) σ H = pThen (pexec P φ n a σ H) (piter (pexec P φ n a) k) := fun _ _ _ _ => rfl
  rw [pThen_some]
  constructor
  · rintro (⟨σ', H', h1, h2⟩ | ⟨h1, h2⟩)
    · obtain ⟨n, hn⟩ := pxd_some.1 h1
      obtain ⟨k, hk⟩ := pxd_some.1 h2
      refine ⟨max n k + 1, ?_⟩
      show piter (pexec P φ (max n k + 1) a) (max n k + 1) σ H = some v
      rw [hi, pThen_some]
      refine .inl ⟨σ', H', pxd_rising P φ a σ H n _ (by omega) _ hn, ?_⟩
      exact piter_mono (fun σ H => pxd_rising P φ a σ H k (max n k + 1) (by omega)) k (max n k) (by omega) σ' H' v hk
    · obtain ⟨n, hn⟩ := pxd_some.1 h1
      refine ⟨n + 1, ?_⟩
      show piter (pexec P φ (n + 1) a) (n + 1) σ H = some v
      rw [hi, pThen_some]
      exact .inr ⟨pxd_rising P φ a σ H n _ (by omega) _ hn, h2⟩
  · rintro ⟨n, hn⟩
    have hn : piter (pexec P φ n a) n σ H = some v := hn
    cases n with
    | zero => simp [piter] at hn
    | succ n =>
      rw [hi, pThen_some] at hn
      rcases hn with ⟨σ', H', h1, h2⟩ | ⟨h1, h2⟩
      · refine .inl ⟨σ', H', pxd_some.2 ⟨n + 1, h1⟩, pxd_some.2 ⟨n + 1, ?_⟩⟩
        show piter (pexec P φ (n + 1) a) (n + 1) σ' H' = some v
        exact piter_mono (fun σ H => LeF.refl _) n (n + 1) (by omega) σ' H' v h2
      · exact .inr ⟨pxd_some.2 ⟨n + 1, h1⟩, h2⟩
end

/-! ### a function's arguments and results -/
def initFrom : Nat → List IV → Sg
  | _, [] => []
  | i, v :: vs => (i, v) :: initFrom (i + 1) vs
theorem lk_initFrom : ∀ (vs : List IV) (i t : Nat), lk (initFrom i vs) t = if i ≤ t then (vs[t - i]?).getD (.tuple []) else .tuple []
  | [], i, t => by simp [initFrom, lk]
  | v :: vs, i, t => by
    simp only [initFrom, lk]
    by_cases h : i = t
    · subst h; simp
    · rw [if_neg (by simpa using h), lk_initFrom vs (i + 1) t]
      by_cases h2 : i ≤ t
      · rw [if_pos h2, if_pos (by omega), show t - i = (t - (i + 1)) + 1 by omega]; simp
      · rw [if_neg h2, if_neg (by omega)]
theorem rep_init {n : Nat} {args : List IV} (h : args.length ≤ n) : args ++ List.replicate (n - args.length) (.tuple []) = rep n (initFrom 0 args) := by
  apply List.ext_getElem?
  intro i
  by_cases hi : i < n
  · rw [rep_get _ hi, lk_initFrom]
    simp only [Nat.zero_le, if_true, Nat.sub_zero]
    by_cases h1 : i < args.length
    · rw [List.getElem?_append_left h1]; simp [h1]
    · rw [List.getElem?_append_right (by omega), List.getElem?_eq_none (l := args) (by omega)]
      simp only [Option.getD_none]
      rw [List.getElem?_replicate_of_lt (by omega)]
  · rw [List.getElem?_eq_none (by simp; omega), List.getElem?_eq_none (by simp [rep_length]; omega)]
def presult (P : Program) (σ : Sg) (H : Heap) : ResultVar → Option IV
  | .tmp t => some (lk σ t)
  | .cell x t => match lk σ x with
    | .ptr b o => iload P t H b o
    | _ => none
def presults (P : Program) (σ : Sg) (H : Heap) : List ResultVar → Option (List IV)
  | [] => some []
  | r :: rs => (presult P σ H r).bind fun v => (presults P σ H rs).bind fun vs => some (v :: vs)
def okRes (n : Nat) : ResultVar → Bool
  | .tmp t => decide (t < n)
  | .cell x _ => decide (x < n)
theorem rep_result {P : Program} {n : Nat} {σ : Sg} {H : Heap} {r : ResultVar} (h : okRes n r = true) : iresult P (rep n σ) H r = presult P σ H r := by
  cases r with
  | tmp t =>
    simp only [okRes, decide_eq_true_eq] at h
    simp only [iresult, presult, List.getD_eq_getElem?_getD, rep_get σ h, Option.getD_some]
  | cell x t =>
    simp only [okRes, decide_eq_true_eq] at h
    simp only [iresult, presult, List.getD_eq_getElem?_getD, rep_get σ h, Option.getD_some]
    cases lk σ x <;> rfl
theorem rep_results {P : Program} {n : Nat} {σ : Sg} {H : Heap} : ∀ {rs : List ResultVar}, rs.all (okRes n) = true → iresults P (rep n σ) H rs = presults P σ H rs
  | [], _ => rfl
  | r :: rs, h => by
    simp only [List.all_cons, Bool.and_eq_true] at h
    simp only [iresults, presults, rep_result h.1, rep_results h.2]
def pback (P : Program) (rs : List ResultVar) (r : Option (IX × Sg × Heap)) : Option (IV × Heap) := r.bind fun q => match q with
  | (.exit _, _, _) => none
  | (_, σ, H) => (presults P σ H rs).bind fun vs => some (pack vs, H)
theorem pback_ret {P : Program} {rs : List ResultVar} {σ : Sg} {H : Heap} : pback P rs (some (.ret, σ, H)) = (presults P σ H rs).bind fun vs => some (pack vs, H) := rfl
theorem pback_normal {P : Program} {rs : List ResultVar} {σ : Sg} {H : Heap} : pback P rs (some (.normal, σ, H)) = (presults P σ H rs).bind fun vs => some (pack vs, H) := rfl
/-- What is fixed of a function. -/
structure PFun where
  pc : PC
  rs : List ResultVar
  n : Nat
def compileF (P : Program) (fn : Func) : Option PFun :=
  fn.body.bind fun c => (compile P fn.ntmps c).bind fun pc => if fn.results.toList.all (okRes fn.ntmps) then some ⟨pc, fn.results.toList, fn.ntmps⟩ else none
theorem xd_rep {P : Program} {φ : Oracle} {n : Nat} {c : Code} {pc : PC} (h : compile P n c = some pc) (σ : Sg) (H : Heap) : xd P φ c (rep n σ) H = up3 n (pxd P φ pc σ H) := by
  refine lim_eq (xd_rising P φ c (rep n σ) H) fun v => ?_
  constructor
  · intro e
    obtain ⟨q, h1, h2⟩ := Option.bind_eq_some_iff.1 e
    obtain ⟨k, hk⟩ := pxd_some.1 h1
    exact ⟨k, by rw [rep_exec c pc h]; unfold up3; rw [hk]; exact h2⟩
  · rintro ⟨k, hk⟩
    rw [rep_exec c pc h] at hk
    obtain ⟨q, h1, h2⟩ := Option.bind_eq_some_iff.1 hk
    unfold up3
    rw [pxd_some.2 ⟨k, h1⟩]; exact h2
theorem den_pbody {P : Program} {T : Table} {f : FuncId} {fn : Func} {pf : PFun} (h : T f = none) (hf : P.funcs[f]? = some fn) (hc : compileF P fn = some pf) (args : List IV) (H : Heap) (hl : args.length ≤ pf.n) :
    den P T f args H = pback P pf.rs (pxd P (den P T) pf.pc (initFrom 0 args) H) := by
  unfold compileF at hc
  obtain ⟨c, h1, hc⟩ := Option.bind_eq_some_iff.1 hc
  obtain ⟨pc, h2, hc⟩ := Option.bind_eq_some_iff.1 hc
  split at hc
  · rename_i hr
    cases hc
    rw [den_body h hf h1, rep_init hl, xd_rep h2]
    unfold back pback up3
    rw [Option.bind_assoc]
    congr 1
    funext q
    obtain ⟨x, σ, H'⟩ := q
    cases x with
    | normal => simp only [Option.bind_some, rep_results hr]
    | ret => simp only [Option.bind_some, rep_results hr]
    | exit id => rfl
  · cases hc
end Go.Shade
