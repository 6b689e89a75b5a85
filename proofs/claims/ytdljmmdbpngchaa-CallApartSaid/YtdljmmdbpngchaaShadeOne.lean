/- SHADE, part 13: one operation of a region; a region in the text's order. -/
import Derived.Test.YtdljmmdbpngchaaShadeEff3
namespace Go.Shade
open Go.RowKit
set_option linter.unusedSimpArgs false
set_option linter.unusedVariables false

abbrev Oracle := FuncId → List IV → Heap → Option (IV × Heap)
/-- What a call comes to, in every world that the ideal heap stands for. -/
def SimCall (P : Program) (f : FuncId) (args : List IV) (H : Heap) (r : IV) (H' : Heap) : Prop :=
  ∀ (B0 : Nat) (w0 w : World) (m : Mp) (us : Array Value), Rel B0 w0 m H w → VRs m args us.toList →
    Calls P f us w fun e w' => ∃ m' u, e = .returned u ∧ Ext m m' ∧ Rel B0 w0 m' H' w' ∧ VR m' r u
def Sound (P : Program) (φ : Oracle) : Prop := ∀ f args H r H', φ f args H = some (r, H') → SimCall P f args H r H'

def env (ts : List IV) : Env
  | .tmp t => some (ts.getD t (.tuple []))
  | .const v => ofV v
  | .func f => some (.func (.func f) [] [])
  | .global _ => none
def TR (m : Mp) (ts : List IV) (a : Act) : Prop := VRs m ts a.tmps.toList ∧ a.defers = []
theorem TR.ext {m m' : Mp} (h : Ext m m') {ts : List IV} {a : Act} (k : TR m ts a) : TR m' ts a := ⟨k.1.ext h, k.2⟩
theorem TR.env {m : Mp} {ts : List IV} {a : Act} (h : TR m ts a) : ER m (env ts) a.eval := by
  intro x v hx
  cases x with
  | tmp t =>
    simp only [Shade.env, Option.some.injEq] at hx
    subst hx
    simp only [Act.eval]
    have hl := h.1.length
    simp only [Array.length_toList] at hl
    by_cases ht : t < ts.length
    · obtain ⟨u, hu, hr⟩ := h.1.get (List.getElem?_eq_getElem ht)
      have hu' : a.tmps[t]? = some u := by simpa using hu
      rw [List.getD_eq_getElem?_getD, List.getElem?_eq_getElem ht, Array.getD_eq_getD_getElem?, hu']
      exact hr
    · have h1 : ts.length ≤ t := Nat.le_of_not_lt ht
      have h2 : a.tmps.size ≤ t := hl ▸ h1
      rw [List.getD_eq_getElem?_getD, List.getElem?_eq_none h1, Array.getD_eq_getD_getElem?, Array.getElem?_eq_none h2]
      exact VR_unit m
  | const c => exact ofV_VR m hx
  | func f =>
    simp only [Shade.env, Option.some.injEq] at hx; subst hx
    simp only [Act.eval, VR]; exact ⟨#[], #[], rfl, VRs.nil m, VRs.nil m⟩
  | global g => simp [Shade.env] at hx
def put (ts : List IV) (d : Option Tmp) (v : IV) : List IV :=
  match d with
  | some t => ts.set t v
  | none => ts
theorem TR.put {m : Mp} {ts : List IV} {a : Act} (h : TR m ts a) (d : Option Tmp) {v : IV} {u : Value} (hv : VR m v u) : TR m (Shade.put ts d v) (a.put d u) := by
  cases d with
  | none => exact h
  | some t =>
    refine ⟨?_, h.2⟩
    simp only [Shade.put, Act.put, Array.toList_setIfInBounds]
    exact h.1.set t hv

def iyield (ops : Array Oper) (ts : List IV) (j : Nat) : Option Bool :=
  match ((ops[j]?).bind (·.dst)).bind (ts[·]?) with
  | some (.bool b) => some b
  | _ => none
theorem yield_eq {m : Mp} {ts : List IV} {a : Act} (h : TR m ts a) (ops : Array Oper) (j : Nat) : yielded ops a.tmps j = iyield ops ts j := by
  unfold yielded iyield
  cases hd : (ops[j]?).bind (·.dst) with
  | none => rfl
  | some t =>
    simp only [Option.bind_some]
    have hl := h.1.length
    simp only [Array.length_toList] at hl
    by_cases ht : t < ts.length
    · obtain ⟨u, hu, hr⟩ := h.1.get (List.getElem?_eq_getElem ht)
      have hu' : a.tmps[t]? = some u := by simpa using hu
      rw [hu', List.getElem?_eq_getElem ht]
      generalize ts[t] = x at hr
      cases x <;> simp only [VR] at hr <;> first
        | (subst hr; rfl)
        | (obtain ⟨l, h1, h2⟩ := hr; subst h2; rfl)
        | (obtain ⟨l, o, c, sp, h1, h2, _⟩ := hr; subst h2; rfl)
        | (obtain ⟨a, b, h1, _⟩ := hr; subst h1; rfl)
        | (obtain ⟨y, h1, _⟩ := hr; subst h1; rfl)
    · have h1 : ts.length ≤ t := Nat.le_of_not_lt ht
      have h2 : a.tmps.size ≤ t := hl ▸ h1
      rw [List.getElem?_eq_none h1, Array.getElem?_eq_none h2]
def iwanted (ops : Array Oper) (o : Oper) (ts : List IV) : Bool :=
  match o.guard with
  | none => true
  | some (j, want) => iyield ops ts j == some want
theorem wanted_eq {m : Mp} {ts : List IV} {a : Act} (h : TR m ts a) (ops : Array Oper) (o : Oper) : Region.wanted o (yielded ops a.tmps) = iwanted ops o ts := by
  unfold Region.wanted iwanted
  split <;> simp_all [yield_eq h]

/-- What one operation puts into its slot, and the heap behind it. -/
def iopV (P : Program) (φ : Oracle) (ops : Array Oper) (o : Oper) (ts : List IV) (H : Heap) : Option (IV × Heap) :=
  if iwanted ops o ts then
    match istep P H (env ts) o.op with
    | some (.val v, H') => some (v, H')
    | some (.skip, H') => some (.tuple [], H')
    | some (.enter f args, H') => φ f args H'
    | none => none
  else some (.tuple [], H)

theorem wp_iop {P : Program} {φ : Oracle} (hφ : Sound P φ) {ops : Array Oper} {i : Nat} {o : Oper} (hi : ops[i]? = some o) {ts : List IV} {H H' : Heap} {v : IV} (e : iopV P φ ops o ts H = some (v, H'))
    {B0 : Nat} {w0 w : World} {m : Mp} {a : Act} (hR : Rel B0 w0 m H w) (hT : TR m ts a) {Q : Exit → Act → World → Prop} {K : Act → World → Prop}
    (hK : ∀ m' w' u, Ext m m' → Rel B0 w0 m' H' w' → VR m' v u → K (a.put o.dst u) w') : wpOp P ops Q i K a w := by
  unfold wpOp
  rw [hi]
  simp only
  rw [wanted_eq hT]
  unfold iopV at e
  split at e
  · rename_i hw
    rw [if_pos hw]
    left
    unfold Oper.wp
    split at e
    · rename_i x H1 hs
      cases e
      obtain ⟨m', w', u, h1, h2, h3, h4⟩ := run_istep hR hT.env hs
      rw [h1]
      exact hK m' w' u h2 h3 h4
    · rename_i H1 hs
      cases e
      obtain ⟨m', w', h1, h2, h3⟩ := run_istep hR hT.env hs
      rw [h1]
      exact hK m' w' undef h2 h3 (VR_unit m')
    · rename_i f args H1 hs
      obtain ⟨us, h1, h2, h3⟩ := run_istep hR hT.env hs
      rw [h1]
      refine Calls.mono (hφ f args H1 v H' e B0 w0 w m us h2 h3) ?_
      rintro e' w' ⟨m', u, rfl, h4, h5, h6⟩
      exact hK m' w' u h4 h5 h6
    · cases e
  · rename_i hw
    rw [if_neg hw]
    cases e
    exact hK m w undef (Ext.refl m) hR (VR_unit m)

/-- A region in the text's order. -/
def iops (P : Program) (φ : Oracle) (ops : Array Oper) : List Oper → List IV → Heap → Option (List IV × Heap)
  | [], ts, H => some (ts, H)
  | o :: os, ts, H => (iopV P φ ops o ts H).bind fun r => iops P φ ops os (put ts o.dst r.1) r.2
theorem wp_iops {P : Program} {φ : Oracle} (hφ : Sound P φ) {ops : Array Oper} {Q : Exit → Act → World → Prop} {B0 : Nat} {w0 : World} {ts' : List IV} {H' : Heap} : ∀ (os : List Oper) (k : Nat) (ts : List IV) (H : Heap) (w : World) (m : Mp) (a : Act),
    (∀ j, os[j]? = ops[k + j]?) → iops P φ ops os ts H = some (ts', H') → Rel B0 w0 m H w → TR m ts a →
    (∀ m' a' w', Ext m m' → Rel B0 w0 m' H' w' → TR m' ts' a' → Q .normal a' w') → wpOps P ops Q (List.range' k os.length) a w
  | [], k, ts, H, w, m, a, _, e, hR, hT, hQ => by
    simp only [iops] at e; cases e
    exact hQ m a w (Ext.refl m) hR hT
  | o :: os, k, ts, H, w, m, a, hk, e, hR, hT, hQ => by
    simp only [iops] at e
    replace e := Option.bind_eq_some_iff.1 e
    obtain ⟨⟨v, H1⟩, h1, e⟩ := e
    have h0 : ops[k]? = some o := by have := hk 0; simpa using this.symm
    rw [List.length_cons, List.range'_succ, wpOps_cons]
    refine wp_iop hφ h0 h1 hR hT (fun m1 w1 u hm hR1 hv => ?_)
    exact wp_iops hφ os (k + 1) _ _ _ m1 _ (fun j => by have := hk (j + 1); simpa [Nat.add_assoc, Nat.add_comm 1 j] using this) e hR1 ((hT.ext hm).put _ hv)
      (fun m' a' w' h2 h3 h4 => hQ m' a' w' (hm.trans h2) h3 h4)
theorem wp_iregion {P : Program} {φ : Oracle} (hφ : Sound P φ) {ops : Array Oper} {id : Nat} {Q : Exit → Act → World → Prop} {B0 : Nat} {w0 w : World} {ts ts' : List IV} {H H' : Heap} {m : Mp} {a : Act}
    (e : iops P φ ops ops.toList ts H = some (ts', H')) (hR : Rel B0 w0 m H w) (hT : TR m ts a) (hQ : ∀ m' a' w', Ext m m' → Rel B0 w0 m' H' w' → TR m' ts' a' → Q .normal a' w') : (Code.region id ops false).wp P Q a w := by
  refine wp_region ?_
  have := wp_iops (P := P) (Q := Q) hφ ops.toList 0 ts H w m a (fun j => by simp) e hR hT hQ
  rwa [Array.length_toList, ← List.range_eq_range'] at this
end Go.Shade
