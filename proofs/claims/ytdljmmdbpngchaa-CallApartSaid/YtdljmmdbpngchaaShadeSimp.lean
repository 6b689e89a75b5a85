/- SHADE, part 21: the rules by which 'simp' computes. -/
import Derived.Test.YtdljmmdbpngchaaShadeDen
namespace Go.Shade
open Go.RowKit
set_option linter.unusedVariables false

section
variable {P : Program} {φ : Oracle} {ops : Array Oper} {o : Oper} {os : List Oper} {ts : List IV} {H : Heap}
theorem iops_nil : iops P φ ops [] ts H = some (ts, H) := rfl
theorem iops_cons : iops P φ ops (o :: os) ts H = (iopV P φ ops o ts H).bind fun r => iops P φ ops os (put ts o.dst r.1) r.2 := rfl
/-- The next operation, as a value is put. -/
def stepV (P : Program) (φ : Oracle) (H : Heap) (r : Option (INext × Heap)) : Option (IV × Heap) :=
  match r with
  | some (.val v, H') => some (v, H')
  | some (.skip, H') => some (.tuple [], H')
  | some (.enter f args, H') => φ f args H'
  | none => none
theorem stepV_val {v : IV} {H' : Heap} : stepV P φ H (some (.val v, H')) = some (v, H') := rfl
theorem stepV_skip {H' : Heap} : stepV P φ H (some (.skip, H')) = some (.tuple [], H') := rfl
theorem stepV_enter {f : FuncId} {args : List IV} {H' : Heap} : stepV P φ H (some (.enter f args, H')) = φ f args H' := rfl
theorem iopV_eq {d : Option Tmp} {op : Op} {t : TypeId} {p : String} {af : Array Edge} : iopV P φ ops ⟨d, op, t, p, af, none⟩ ts H = stepV P φ H (istep P H (env ts) op) := by
  unfold iopV iwanted stepV
  simp only [if_true]
  rfl
theorem iopV_guard {d : Option Tmp} {op : Op} {t : TypeId} {p : String} {af : Array Edge} {j : Nat} {want : Bool} : iopV P φ ops ⟨d, op, t, p, af, some (j, want)⟩ ts H = if iyield ops ts j == some want then stepV P φ H (istep P H (env ts) op) else some (.tuple [], H) := by
  unfold iopV iwanted stepV
  rfl
theorem istep_iq {op : Op} {ρ : Env} {v : IV} (h : iq P H ρ op = some v) : istep P H ρ op = some (.val v, H) := by unfold istep; rw [h]
theorem istep_ie {op : Op} {ρ : Env} (h : iq P H ρ op = none) : istep P H ρ op = ie P H ρ op := by unfold istep; rw [h]
end

theorem getD_put_same {ts : List IV} {t : Tmp} {v d : IV} (h : t < ts.length) : (put ts (some t) v).getD t d = v := by simp [put, h]
theorem getD_put_ne {ts : List IV} {s t : Nat} {v d : IV} (h : (s == t) = false) : (put ts (some s) v).getD t d = ts.getD t d := by
  have h : s ≠ t := by simpa using h
  simp [put, List.getElem?_set_ne h]
theorem put_none {ts : List IV} {v : IV} : put ts none v = ts := rfl
end Go.Shade
