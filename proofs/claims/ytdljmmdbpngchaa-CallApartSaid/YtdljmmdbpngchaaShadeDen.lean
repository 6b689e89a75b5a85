/- SHADE, part 20: what a function comes to, without rounds: equations to compute with. -/
import Derived.Test.YtdljmmdbpngchaaShadeRun
namespace Go.Shade
open Go.RowKit
set_option linter.unusedSimpArgs false
set_option linter.unusedVariables false

def LeF {α : Type} (a b : Option α) : Prop := ∀ r, a = some r → b = some r
theorem LeF.refl {α : Type} (a : Option α) : LeF a a := fun _ h => h
theorem LeF.trans {α : Type} {a b c : Option α} (h : LeF a b) (k : LeF b c) : LeF a c := fun r hr => k r (h r hr)
theorem LeF.bind {α β : Type} {a a' : Option α} {f f' : α → Option β} (h : LeF a a') (k : ∀ x, LeF (f x) (f' x)) : LeF (a.bind f) (a'.bind f') := by
  intro r hr
  obtain ⟨x, h1, h2⟩ := Option.bind_eq_some_iff.1 hr
  rw [h x h1]; exact k x r h2
def LeO (φ ψ : Oracle) : Prop := ∀ f args H, LeF (φ f args H) (ψ f args H)

theorem iopV_mono {P : Program} {φ ψ : Oracle} (h : LeO φ ψ) (ops : Array Oper) (o : Oper) (ts : List IV) (H : Heap) : LeF (iopV P φ ops o ts H) (iopV P ψ ops o ts H) := by
  unfold iopV
  split
  · split <;> first | exact LeF.refl _ | exact h _ _ _
  · exact LeF.refl _
theorem iops_mono {P : Program} {φ ψ : Oracle} (h : LeO φ ψ) (ops : Array Oper) : ∀ (os : List Oper) (ts : List IV) (H : Heap), LeF (iops P φ ops os ts H) (iops P ψ ops os ts H)
  | [], _, _ => LeF.refl _
  | o :: os, ts, H => (iopV_mono h ops o ts H).bind fun r => iops_mono h ops os _ _
theorem itrace_mono {P : Program} {φ ψ : Oracle} (h : LeO φ ψ) (ops : Array Oper) : ∀ (os : List Oper) (ts : List IV) (H : Heap), LeF (itrace P φ ops os ts H) (itrace P ψ ops os ts H)
  | [], _, _ => LeF.refl _
  | o :: os, ts, H => (iopV_mono h ops o ts H).bind fun r => (itrace_mono h ops os _ _).bind fun _ => LeF.refl _
theorem idraw_mono {P : Program} {φ ψ : Oracle} (h : LeO φ ψ) (ops : Array Oper) (ts : List IV) (H : Heap) : LeF (idraw P φ ops ts H) (idraw P ψ ops ts H) := by
  unfold idraw
  split
  · split
    · exact iops_mono h ops _ _ _
    · exact (itrace_mono h ops _ _ _).bind fun _ => LeF.refl _
  · exact LeF.refl _
abbrev Body := List IV → Heap → Option (IX × List IV × Heap)
theorem iter_mono {f g : Body} (h : ∀ ts H, LeF (f ts H) (g ts H)) : ∀ (k j : Nat), k ≤ j → ∀ ts H, LeF (iter f k ts H) (iter g j ts H)
  | 0, _, _, _, _ => fun r hr => by simp [iter] at hr
  | k + 1, 0, hk, _, _ => by omega
  | k + 1, j + 1, hk, ts, H => by
    simp only [iter]
    refine (h ts H).bind fun r => ?_
    obtain ⟨x, ts', H'⟩ := r
    cases x with
    | normal => exact iter_mono h k j (by omega) ts' H'
    | exit id => exact LeF.refl _
    | ret => exact LeF.refl _
theorem iexec_mono {P : Program} {φ ψ : Oracle} (h : LeO φ ψ) {n k : Nat} (hn : n ≤ k) : ∀ (c : Code) (ts : List IV) (H : Heap), LeF (iexec P φ n c ts H) (iexec P ψ k c ts H) := by
  intro c
  induction c with
  | region id ops draw =>
    intro ts H
    cases draw with
    | false => exact (iops_mono h ops _ _ _).bind fun _ => LeF.refl _
    | true => exact (idraw_mono h ops _ _).bind fun _ => LeF.refl _
  | seq c d ihc ihd =>
    intro ts H
    refine (ihc ts H).bind fun r => ?_
    obtain ⟨x, ts', H'⟩ := r
    cases x with
    | normal => exact ihd ts' H'
    | exit id => exact LeF.refl _
    | ret => exact LeF.refl _
  | cond c a b iha ihb =>
    intro ts H
    simp only [iexec]
    split
    · exact iha ts H
    · exact ihb ts H
    · exact LeF.refl _
  | block id c ih =>
    intro ts H
    exact (ih ts H).bind fun r => LeF.refl _
  | loop c ih =>
    intro ts H
    simp only [iexec]
    exact iter_mono ih n k hn ts H
  | scope c ih =>
    intro ts H
    simp only [iexec]
    exact ih ts H
  | _ => intro ts H; exact LeF.refl _

theorem ibody_mono {P : Program} {φ ψ : Oracle} (h : LeO φ ψ) {n k : Nat} (hn : n ≤ k) (fn : Func) (args : List IV) (H : Heap) : LeF (ibody P φ n fn args H) (ibody P ψ k fn args H) := by
  unfold ibody
  split
  · exact (iexec_mono h hn _ _ _).bind fun _ => LeF.refl _
  · exact LeF.refl _
theorem icall_step {P : Program} {T : Table} : ∀ n, LeO (icall P T n) (icall P T (n + 1))
  | 0 => fun f args H r hr => by simp [icall] at hr
  | n + 1 => fun f args H => by
    simp only [icall]
    split
    · exact LeF.refl _
    · split
      · exact ibody_mono (icall_step n) (Nat.le_succ n) _ _ _
      · exact LeF.refl _
theorem icall_mono {P : Program} {T : Table} {n k : Nat} (h : n ≤ k) : LeO (icall P T n) (icall P T k) := by
  induction k with
  | zero => have : n = 0 := by omega
            subst this; exact fun _ _ _ => LeF.refl _
  | succ k ih =>
    by_cases e : n = k + 1
    · subst e; exact fun _ _ _ => LeF.refl _
    · exact fun f args H => (ih (by omega) f args H).trans (icall_step k f args H)

/-! ### the limit -/
open Classical in
noncomputable def lim {α : Type} (f : Nat → Option α) : Option α := if h : ∃ n v, f n = some v then f (Classical.choose h) else none
def Rising {α : Type} (f : Nat → Option α) : Prop := ∀ n k, n ≤ k → LeF (f n) (f k)
theorem lim_some {α : Type} {f : Nat → Option α} (hf : Rising f) {v : α} : lim f = some v ↔ ∃ n, f n = some v := by
  unfold lim
  constructor
  · intro h
    split at h
    · exact ⟨_, h⟩
    · cases h
  · rintro ⟨n, hn⟩
    have hex : ∃ n v, f n = some v := ⟨n, v, hn⟩
    rw [dif_pos hex]
    obtain ⟨u, hu⟩ := Classical.choose_spec hex
    rw [hu]
    rcases Nat.le_total n (Classical.choose hex) with h | h
    · have := hf _ _ h v hn; rw [hu] at this; exact this
    · have := hf _ _ h u hu; rw [hn] at this; exact this.symm
theorem lim_eq {α : Type} {f : Nat → Option α} (hf : Rising f) {r : Option α} (h : ∀ v, r = some v ↔ ∃ n, f n = some v) : lim f = r := by
  apply Option.ext
  intro v
  rw [lim_some hf, h v]

noncomputable def den (P : Program) (T : Table) : Oracle := fun f args H => lim fun n => icall P T n f args H
theorem den_rising (P : Program) (T : Table) (f : FuncId) (args : List IV) (H : Heap) : Rising fun n => icall P T n f args H := fun n k h => icall_mono h f args H
theorem den_some {P : Program} {T : Table} {f : FuncId} {args : List IV} {H : Heap} {r : IV × Heap} : den P T f args H = some r ↔ ∃ n, icall P T n f args H = some r := lim_some (den_rising P T f args H)
theorem icall_den {P : Program} {T : Table} (n : Nat) : LeO (icall P T n) (den P T) := fun f args H r hr => den_some.2 ⟨n, hr⟩
theorem sound_den {P : Program} {T : Table} (hT : SoundT P T) (hm : P.follows .mixedOrders = true) : Sound P (den P T) := fun f args H r H' e => by
  obtain ⟨n, hn⟩ := den_some.1 e
  exact sound_icall hT hm n f args H r H' hn

/-! ### finitely many calls -/
def Fin_ {α : Type} (P : Program) (T : Table) (F : Oracle → Option α) : Prop := ∀ r, F (den P T) = some r → ∃ k, ∀ j, k ≤ j → F (icall P T j) = some r
theorem Fin_.const {α : Type} {P : Program} {T : Table} (a : Option α) : Fin_ P T (fun _ => a) := fun r h => ⟨0, fun _ _ => h⟩
theorem Fin_.bind {α β : Type} {P : Program} {T : Table} {F : Oracle → Option α} {G : α → Oracle → Option β} (h : Fin_ P T F) (k : ∀ x, Fin_ P T (G x)) : Fin_ P T (fun φ => (F φ).bind fun x => G x φ) := by
  intro r hr
  obtain ⟨x, h1, h2⟩ := Option.bind_eq_some_iff.1 hr
  obtain ⟨n1, g1⟩ := h x h1
  obtain ⟨n2, g2⟩ := k x r h2
  exact ⟨max n1 n2, fun j hj => by
    show (F (icall P T j)).bind _ = _
    rw [g1 j (by omega)]; exact g2 j (by omega)⟩
theorem iopV_fin {P : Program} {T : Table} (ops : Array Oper) (o : Oper) (ts : List IV) (H : Heap) : Fin_ P T (fun φ => iopV P φ ops o ts H) := by
  unfold iopV
  split
  · split
    · exact Fin_.const _
    · exact Fin_.const _
    · rename_i f args H' hs
      intro r hr
      obtain ⟨n, hn⟩ := den_some.1 hr
      exact ⟨n, fun j hj => icall_mono hj f args H' r hn⟩
    · exact Fin_.const _
  · exact Fin_.const _
theorem iops_fin {P : Program} {T : Table} (ops : Array Oper) : ∀ (os : List Oper) (ts : List IV) (H : Heap), Fin_ P T (fun φ => iops P φ ops os ts H)
  | [], _, _ => Fin_.const _
  | o :: os, ts, H => (iopV_fin ops o ts H).bind fun r => iops_fin ops os _ _
theorem itrace_fin {P : Program} {T : Table} (ops : Array Oper) : ∀ (os : List Oper) (ts : List IV) (H : Heap), Fin_ P T (fun φ => itrace P φ ops os ts H)
  | [], _, _ => Fin_.const _
  | o :: os, ts, H => (iopV_fin ops o ts H).bind fun r => (itrace_fin ops os _ _).bind fun _ => Fin_.const _
theorem idraw_fin {P : Program} {T : Table} (ops : Array Oper) (ts : List IV) (H : Heap) : Fin_ P T (fun φ => idraw P φ ops ts H) := by
  unfold idraw
  split
  · split
    · exact iops_fin ops _ _ _
    · exact (itrace_fin ops _ _ _).bind fun _ => Fin_.const _
  · exact Fin_.const _
theorem iexec_fin {P : Program} {T : Table} (n : Nat) : ∀ (c : Code) (ts : List IV) (H : Heap), Fin_ P T (fun φ => iexec P φ n c ts H) := by
  intro c
  induction c with
  | region id ops draw =>
    intro ts H
    cases draw with
    | false => exact (iops_fin ops _ _ _).bind fun _ => Fin_.const _
    | true => exact (idraw_fin ops _ _).bind fun _ => Fin_.const _
  | seq c d ihc ihd =>
    intro ts H
    refine (ihc ts H).bind (G := fun r φ => match r with | (.normal, ts', H') => iexec P φ n d ts' H' | r => some r) fun r => ?_
    obtain ⟨x, ts', H'⟩ := r
    cases x with
    | normal => exact ihd ts' H'
    | exit id => exact Fin_.const _
    | ret => exact Fin_.const _
  | cond c a b iha ihb =>
    intro ts H
    simp only [iexec]
    split
    · exact iha ts H
    · exact ihb ts H
    · exact Fin_.const _
  | block id c ih =>
    intro ts H
    exact (ih ts H).bind (G := fun r φ => match r with | (.exit id', ts', H') => if id' = id then some (.normal, ts', H') else some (.exit id', ts', H') | r => some r) fun r => Fin_.const _
  | loop c ih =>
    intro ts H
    simp only [iexec]
    have key : ∀ (k : Nat) (ts : List IV) (H : Heap), Fin_ P T (fun φ => iter (iexec P φ n c) k ts H) := by
      intro k
      induction k with
      | zero => intro ts H; exact Fin_.const _
      | succ k ihk =>
        intro ts H
        simp only [iter]
        refine (ih ts H).bind (G := fun r φ => match r with | (.normal, ts', H') => iter (iexec P φ n c) k ts' H' | r => some r) fun r => ?_
        obtain ⟨x, ts', H'⟩ := r
        cases x with
        | normal => exact ihk ts' H'
        | exit id => exact Fin_.const _
        | ret => exact Fin_.const _
    exact key n ts H
  | scope c ih =>
    intro ts H
    simp only [iexec]
    exact ih ts H
  | _ => intro ts H; exact Fin_.const _

/-! ### code, without rounds -/
noncomputable def xd (P : Program) (φ : Oracle) (c : Code) : Body := fun ts H => lim fun n => iexec P φ n c ts H
theorem xd_rising (P : Program) (φ : Oracle) (c : Code) (ts : List IV) (H : Heap) : Rising fun n => iexec P φ n c ts H := fun n k h => iexec_mono (fun _ _ _ => LeF.refl _) h c ts H
theorem xd_some {P : Program} {φ : Oracle} {c : Code} {ts : List IV} {H : Heap} {r : IX × List IV × Heap} : xd P φ c ts H = some r ↔ ∃ n, iexec P φ n c ts H = some r := lim_some (xd_rising P φ c ts H)
section
variable {P : Program} {φ : Oracle} {ts : List IV} {H : Heap}
theorem xd_const {c : Code} {r : Option (IX × List IV × Heap)} (h : ∀ n, iexec P φ n c ts H = r) : xd P φ c ts H = r :=
  lim_eq (xd_rising P φ c ts H) fun v => ⟨fun e => ⟨0, by rw [h, e]⟩, fun ⟨n, hn⟩ => by rw [← hn, h]⟩
theorem xd_skip : xd P φ .skip ts H = some (.normal, ts, H) := xd_const fun _ => rfl
theorem xd_label {l : Nat} : xd P φ (.label l) ts H = some (.normal, ts, H) := xd_const fun _ => rfl
theorem xd_region {id : Nat} {ops : Array Oper} : xd P φ (.region id ops false) ts H = (iops P φ ops ops.toList ts H).bind fun r => some (.normal, r.1, r.2) := xd_const fun _ => rfl
theorem xd_draw {id : Nat} {ops : Array Oper} : xd P φ (.region id ops true) ts H = (idraw P φ ops ts H).bind fun r => some (.normal, r.1, r.2) := xd_const fun _ => rfl
theorem xd_exit {id : Nat} : xd P φ (.exit id) ts H = some (.exit id, ts, H) := xd_const fun _ => rfl
theorem xd_ret : xd P φ .ret ts H = some (.ret, ts, H) := xd_const fun _ => rfl
theorem xd_scope {c : Code} : xd P φ (.scope c) ts H = xd P φ c ts H := rfl
/-- What follows where the code went on as usual. -/
def andThen (r : Option (IX × List IV × Heap)) (f : Body) : Option (IX × List IV × Heap) := r.bind fun q => match q with
  | (.normal, ts, H) => f ts H
  | q => some q
theorem andThen_normal {ts : List IV} {H : Heap} {f : Body} : andThen (some (.normal, ts, H)) f = f ts H := rfl
theorem andThen_ret {ts : List IV} {H : Heap} {f : Body} : andThen (some (.ret, ts, H)) f = some (.ret, ts, H) := rfl
theorem andThen_exit {id : Nat} {ts : List IV} {H : Heap} {f : Body} : andThen (some (.exit id, ts, H)) f = some (.exit id, ts, H) := rfl
theorem andThen_some {r : Option (IX × List IV × Heap)} {f : Body} {v : IX × List IV × Heap} : andThen r f = some v ↔ (∃ ts H, r = some (.normal, ts, H) ∧ f ts H = some v) ∨ (r = some v ∧ ∀ ts H, v ≠ (.normal, ts, H)) := by
  unfold andThen
  cases r with
  | none => simp
  | some q =>
    obtain ⟨x, ts, H⟩ := q
    cases x with
    | normal =>
      simp only [Option.bind_some]
      constructor
      · intro h; exact .inl ⟨ts, H, rfl, h⟩
      · rintro (⟨ts', H', h1, h2⟩ | ⟨h1, h2⟩)
        · cases h1; exact h2
        · cases h1; exact absurd rfl (h2 ts H)
    | exit id =>
      simp only [Option.bind_some]
      constructor
      · intro h; cases h; exact .inr ⟨rfl, by simp⟩
      · rintro (⟨ts', H', h1, h2⟩ | ⟨h1, h2⟩)
        · cases h1
        · exact h1
    | ret =>
      simp only [Option.bind_some]
      constructor
      · intro h; cases h; exact .inr ⟨rfl, by simp⟩
      · rintro (⟨ts', H', h1, h2⟩ | ⟨h1, h2⟩)
        · cases h1
        · exact h1
theorem xd_seq {a b : Code} : xd P φ (.seq a b) ts H = andThen (xd P φ a ts H) (xd P φ b) := by
  refine lim_eq (xd_rising P φ (.seq a b) ts H) fun v => ?_
  have he : ∀ n, iexec P φ n (.seq a b) ts H = andThen (iexec P φ n a ts H) (iexec P φ n b) := fun _ => rfl
  rw [andThen_some]
  constructor
  · rintro (⟨ts', H', h1, h2⟩ | ⟨h1, h2⟩)
    · obtain ⟨n, hn⟩ := xd_some.1 h1
      obtain ⟨k, hk⟩ := xd_some.1 h2
      refine ⟨max n k, ?_⟩
      rw [he, andThen_some]
      exact .inl ⟨ts', H', xd_rising P φ a ts H n _ (Nat.le_max_left _ _) _ hn, xd_rising P φ b ts' H' k _ (Nat.le_max_right _ _) _ hk⟩
    · obtain ⟨n, hn⟩ := xd_some.1 h1
      exact ⟨n, by rw [he, andThen_some]; exact .inr ⟨hn, h2⟩⟩
  · rintro ⟨n, hn⟩
    rw [he, andThen_some] at hn
    rcases hn with ⟨ts', H', h1, h2⟩ | ⟨h1, h2⟩
    · exact .inl ⟨ts', H', xd_some.2 ⟨n, h1⟩, xd_some.2 ⟨n, h2⟩⟩
    · exact .inr ⟨xd_some.2 ⟨n, h1⟩, h2⟩
theorem xd_cond {c : Operand} {a b : Code} {t : Bool} (hc : env ts c = some (.bool t)) : xd P φ (.cond c a b) ts H = if t then xd P φ a ts H else xd P φ b ts H := by
  unfold xd
  cases t with
  | true => simp only [iexec, hc, if_true]
  | false => simp only [iexec, hc, Bool.false_eq_true, if_false]
def inBlock (id : Nat) (r : Option (IX × List IV × Heap)) : Option (IX × List IV × Heap) := r.bind fun q => match q with
  | (.exit id', ts, H) => if id' = id then some (.normal, ts, H) else some (.exit id', ts, H)
  | q => some q
theorem inBlock_normal {id : Nat} {ts : List IV} {H : Heap} : inBlock id (some (.normal, ts, H)) = some (.normal, ts, H) := rfl
theorem inBlock_ret {id : Nat} {ts : List IV} {H : Heap} : inBlock id (some (.ret, ts, H)) = some (.ret, ts, H) := rfl
theorem inBlock_exit {id id' : Nat} {ts : List IV} {H : Heap} : inBlock id (some (.exit id', ts, H)) = if id' = id then some (.normal, ts, H) else some (.exit id', ts, H) := rfl
theorem xd_block {id : Nat} {a : Code} : xd P φ (.block id a) ts H = inBlock id (xd P φ a ts H) := by
  refine lim_eq (xd_rising P φ (.block id a) ts H) fun v => ?_
  have he : ∀ n, iexec P φ n (.block id a) ts H = inBlock id (iexec P φ n a ts H) := fun _ => rfl
  constructor
  · intro h
    obtain ⟨q, h1, h2⟩ := Option.bind_eq_some_iff.1 h
    obtain ⟨n, hn⟩ := xd_some.1 h1
    exact ⟨n, by rw [he]; unfold inBlock; rw [hn]; exact h2⟩
  · rintro ⟨n, hn⟩
    rw [he] at hn
    obtain ⟨q, h1, h2⟩ := Option.bind_eq_some_iff.1 hn
    unfold inBlock
    rw [xd_some.2 ⟨n, h1⟩]; exact h2
theorem xd_loop {a : Code} : xd P φ (.loop a) ts H = andThen (xd P φ a ts H) (xd P φ (.loop a)) := by
  refine lim_eq (xd_rising P φ (.loop a) ts H) fun v => ?_
  have hi : ∀ n k ts H, iter (iexec P φ n a) (k + 1) ts H = andThen (iexec P φ n a ts H) (iter (iexec P φ n a) k) := fun _ _ _ _ => rfl
  rw [andThen_some]
  constructor
  · rintro (⟨ts', H', h1, h2⟩ | ⟨h1, h2⟩)
    · obtain ⟨n, hn⟩ := xd_some.1 h1
      obtain ⟨k, hk⟩ := xd_some.1 h2
      refine ⟨max n k + 1, ?_⟩
      show iter (iexec P φ (max n k + 1) a) (max n k + 1) ts H = some v
      rw [hi, andThen_some]
      refine .inl ⟨ts', H', xd_rising P φ a ts H n _ (by omega) _ hn, ?_⟩
      exact iter_mono (fun ts H => xd_rising P φ a ts H k (max n k + 1) (by omega)) k (max n k) (by omega) ts' H' v hk
    · obtain ⟨n, hn⟩ := xd_some.1 h1
      refine ⟨n + 1, ?_⟩
      show iter (iexec P φ (n + 1) a) (n + 1) ts H = some v
      rw [hi, andThen_some]
      exact .inr ⟨xd_rising P φ a ts H n _ (by omega) _ hn, h2⟩
  · rintro ⟨n, hn⟩
    have hn : iter (iexec P φ n a) n ts H = some v := hn
    cases n with
    | zero => simp [iter] at hn
    | succ n =>
      rw [hi, andThen_some] at hn
      rcases hn with ⟨ts', H', h1, h2⟩ | ⟨h1, h2⟩
      · refine .inl ⟨ts', H', xd_some.2 ⟨n + 1, h1⟩, xd_some.2 ⟨n + 1, ?_⟩⟩
        show iter (iexec P φ (n + 1) a) (n + 1) ts' H' = some v
        exact iter_mono (fun ts H => LeF.refl _) n (n + 1) (by omega) ts' H' v h2
      · exact .inr ⟨xd_some.2 ⟨n + 1, h1⟩, h2⟩
end

/-- What a body hands back. -/
def back (P : Program) (rs : List ResultVar) (r : Option (IX × List IV × Heap)) : Option (IV × Heap) := r.bind fun q => match q with
  | (.exit _, _, _) => none
  | (_, ts, H) => (iresults P ts H rs).bind fun vs => some (pack vs, H)
theorem den_table {P : Program} {T : Table} {f : FuncId} {g : List IV → Heap → Option (IV × Heap)} (h : T f = some g) (args : List IV) (H : Heap) : den P T f args H = g args H := by
  refine lim_eq (den_rising P T f args H) fun v => ⟨fun e => ⟨1, by simp [icall, h, e]⟩, fun ⟨n, hn⟩ => ?_⟩
  cases n with
  | zero => simp [icall] at hn
  | succ n => simpa [icall, h] using hn
theorem den_body {P : Program} {T : Table} {f : FuncId} {fn : Func} {c : Code} (h : T f = none) (hf : P.funcs[f]? = some fn) (hc : fn.body = some c) (args : List IV) (H : Heap) :
    den P T f args H = back P fn.results.toList (xd P (den P T) c (args ++ List.replicate (fn.ntmps - args.length) (.tuple [])) H) := by
  refine lim_eq (den_rising P T f args H) fun v => ?_
  have hb : ∀ φ n, ibody P φ n fn args H = back P fn.results.toList (iexec P φ n c (args ++ List.replicate (fn.ntmps - args.length) (.tuple [])) H) := by
    intro φ n; unfold ibody; rw [hc]; rfl
  constructor
  · intro e
    obtain ⟨q, h1, h2⟩ := Option.bind_eq_some_iff.1 e
    obtain ⟨n, hn⟩ := xd_some.1 h1
    obtain ⟨k, hk⟩ := iexec_fin n c _ H q hn
    refine ⟨max n k + 1, ?_⟩
    simp only [icall, h, hf]
    rw [hb]
    unfold back
    rw [iexec_mono (fun _ _ _ => LeF.refl _) (Nat.le_max_left n k) c _ H q (hk (max n k) (Nat.le_max_right _ _))]
    exact h2
  · rintro ⟨n, hn⟩
    cases n with
    | zero => simp [icall] at hn
    | succ n =>
      simp only [icall, h, hf] at hn
      rw [hb] at hn
      obtain ⟨q, h1, h2⟩ := Option.bind_eq_some_iff.1 hn
      unfold back
      rw [xd_some.2 ⟨n, iexec_mono (icall_den n) (Nat.le_refl n) c _ H q h1⟩]
      exact h2
end Go.Shade
