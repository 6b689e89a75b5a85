/- SHADE, part 22: compact code: slots as a list of what was put last; the same answers. -/
import Derived.Test.YtdljmmdbpngchaaShadeSimp
namespace Go.Shade
open Go.RowKit
set_option linter.unusedSimpArgs false
set_option linter.unusedVariables false

structure POp where
  d : Option Nat
  op : Op
  g : Option (Nat × Bool)
inductive PC where
  | skip
  | reg (l : List POp)
  | drw (l : List POp) (ps : List (Nat × Nat))
  | seq (a b : PC)
  | cond (c : Operand) (a b : PC)
  | block (id : Nat) (a : PC)
  | loop (a : PC)
  | exit (id : Nat)
  | ret
  deriving Inhabited

abbrev Sg := List (Nat × IV)
def lk : Sg → Nat → IV
  | [], _ => .tuple []
  | (s, v) :: r, t => if s == t then v else lk r t
def penv (σ : Sg) : Env
  | .tmp t => some (lk σ t)
  | .const v => ofV v
  | .func f => some (.func (.func f) [] [])
  | .global _ => none
def pput (σ : Sg) (d : Option Nat) (v : IV) : Sg :=
  match d with
  | some t => (t, v) :: σ
  | none => σ
def isB (x : IV) (want : Bool) : Bool :=
  match x with
  | .bool b => b == want
  | _ => false
def popV (P : Program) (φ : Oracle) (p : POp) (σ : Sg) (H : Heap) : Option (IV × Heap) :=
  match p.g with
  | none => stepV P φ H (istep P H (penv σ) p.op)
  | some (t, want) => if isB (lk σ t) want then stepV P φ H (istep P H (penv σ) p.op) else some (.tuple [], H)
def pops (P : Program) (φ : Oracle) : List POp → Sg → Heap → Option (Sg × Heap)
  | [], σ, H => some (σ, H)
  | p :: ps, σ, H => (popV P φ p σ H).bind fun r => pops P φ ps (pput σ p.d r.1) r.2
structure PRec where
  p : POp
  σ : Sg
  h : Heap
  v : IV
  h' : Heap
def ptrace (P : Program) (φ : Oracle) : List POp → Sg → Heap → Option (List PRec × Sg × Heap)
  | [], σ, H => some ([], σ, H)
  | p :: ps, σ, H => (popV P φ p σ H).bind fun r => (ptrace P φ ps (pput σ p.d r.1) r.2).bind fun q => some (⟨p, σ, H, r.1, r.2⟩ :: q.1, q.2)
def pwanted (p : POp) (σ : Sg) : Bool := match p.g with
  | none => true
  | some (t, want) => isB (lk σ t) want
def plooseOk (P : Program) (recs : List PRec) (ij : Nat × Nat) : Bool :=
  match recs[ij.1]?, recs[ij.2]? with
  | some r, some s => !(pwanted r.p r.σ) || (ivo (iq P s.h (penv r.σ) r.p.op) r.v && ivo (iq P s.h' (penv r.σ) r.p.op) r.v)
  | _, _ => false
def pdraw (P : Program) (φ : Oracle) (l : List POp) (ps : List (Nat × Nat)) (σ : Sg) (H : Heap) : Option (Sg × Heap) :=
  match ps with
  | [] => pops P φ l σ H
  | p :: ps => (ptrace P φ l σ H).bind fun q => if (p :: ps).all (plooseOk P q.1) then some q.2 else none
abbrev PBody := Sg → Heap → Option (IX × Sg × Heap)
def piter (body : PBody) : Nat → PBody
  | 0, _, _ => none
  | k + 1, σ, H => (body σ H).bind fun r => match r with
    | (.normal, σ', H') => piter body k σ' H'
    | r => some r
def pexec (P : Program) (φ : Oracle) (n : Nat) : PC → PBody
  | .skip, σ, H => some (.normal, σ, H)
  | .reg l, σ, H => (pops P φ l σ H).bind fun r => some (.normal, r.1, r.2)
  | .drw l ps, σ, H => (pdraw P φ l ps σ H).bind fun r => some (.normal, r.1, r.2)
  | .seq a b, σ, H => (pexec P φ n a σ H).bind fun r => match r with
    | (.normal, σ', H') => pexec P φ n b σ' H'
    | r => some r
  | .cond c a b, σ, H => match penv σ c with
    | some (.bool true) => pexec P φ n a σ H
    | some (.bool false) => pexec P φ n b σ H
    | _ => none
  | .block id a, σ, H => (pexec P φ n a σ H).bind fun r => match r with
    | (.exit id', σ', H') => if id' = id then some (.normal, σ', H') else some (.exit id', σ', H')
    | r => some r
  | .loop a, σ, H => piter (pexec P φ n a) n σ H
  | .exit id, σ, H => some (.exit id, σ, H)
  | .ret, σ, H => some (.ret, σ, H)

/-! ### from the model's code -/
def okOpd (n : Nat) : Operand → Bool
  | .tmp t => decide (t < n)
  | _ => true
def pOper (n : Nat) (ops : Array Oper) (o : Oper) : Option POp :=
  if (o.op.operands.toList.all (okOpd n)) && (match o.dst with | some d => decide (d < n) | none => true) then
    match o.guard with
    | none => some ⟨o.dst, o.op, none⟩
    | some (j, want) => match (ops[j]?).bind (·.dst) with
      | some t => if t < n then some ⟨o.dst, o.op, some (t, want)⟩ else none
      | none => none
  else none
def pOpers (n : Nat) (ops : Array Oper) : List Oper → Option (List POp)
  | [] => some []
  | o :: os => (pOper n ops o).bind fun p => (pOpers n ops os).bind fun ps => some (p :: ps)
def compile (P : Program) (n : Nat) : Code → Option PC
  | .skip => some .skip
  | .label _ => some .skip
  | .region _ ops false => (pOpers n ops ops.toList).bind fun l => some (.reg l)
  | .region _ ops true => if okDraw P ops then (pOpers n ops ops.toList).bind fun l => some (.drw l (loose P ops)) else none
  | .seq a b => (compile P n a).bind fun x => (compile P n b).bind fun y => some (.seq x y)
  | .cond c a b => if okOpd n c then (compile P n a).bind fun x => (compile P n b).bind fun y => some (.cond c x y) else none
  | .block id a => (compile P n a).bind fun x => some (.block id x)
  | .loop a => (compile P n a).bind fun x => some (.loop x)
  | .exit id => some (.exit id)
  | .ret => some .ret
  | .scope a => compile P n a
  | _ => none

def rep (n : Nat) (σ : Sg) : List IV := (List.range n).map (lk σ)
theorem rep_length (n : Nat) (σ : Sg) : (rep n σ).length = n := by simp [rep]
theorem rep_get {n t : Nat} (σ : Sg) (h : t < n) : (rep n σ)[t]? = some (lk σ t) := by simp [rep, h]
theorem rep_put {n : Nat} {d : Option Nat} (hd : ∀ t, d = some t → t < n) (σ : Sg) (v : IV) : put (rep n σ) d v = rep n (pput σ d v) := by
  cases d with
  | none => rfl
  | some t =>
    have ht := hd t rfl
    apply List.ext_getElem?
    intro i
    simp only [put, pput]
    by_cases hi : i < n
    · rw [rep_get _ hi]
      by_cases e : t = i
      · subst e; rw [List.getElem?_set_self (by rw [rep_length]; exact ht)]; simp [lk]
      · rw [List.getElem?_set_ne e, rep_get _ hi]; simp [lk, e]
    · rw [List.getElem?_eq_none (by simp [rep_length]; omega), List.getElem?_eq_none (by simp [rep_length]; omega)]
theorem rep_env {n : Nat} {x : Operand} (h : okOpd n x = true) (σ : Sg) : env (rep n σ) x = penv σ x := by
  cases x with
  | tmp t =>
    simp only [okOpd, decide_eq_true_eq] at h
    simp only [env, penv, List.getD_eq_getElem?_getD, rep_get σ h, Option.getD_some]
  | _ => rfl
theorem rep_opV {P : Program} {φ : Oracle} {n : Nat} {ops : Array Oper} {o : Oper} {p : POp} (h : pOper n ops o = some p) (σ : Sg) (H : Heap) :
    iopV P φ ops o (rep n σ) H = popV P φ p σ H ∧ p.d = o.dst ∧ p.op = o.op ∧ (∀ t, o.dst = some t → t < n) ∧ (∀ x ∈ o.op.operands, okOpd n x = true) ∧ iwanted ops o (rep n σ) = pwanted p σ := by
  unfold pOper at h
  by_cases hc : ((o.op.operands.toList.all (okOpd n)) && (match o.dst with | some d => decide (d < n) | none => true)) = true
  · rw [if_pos hc] at h
    simp only [Bool.and_eq_true, List.all_eq_true] at hc
    obtain ⟨h1, h2⟩ := hc
    have hd : ∀ t, o.dst = some t → t < n := by
      intro t ht; rw [ht] at h2; simpa using h2
    have hop : ∀ x ∈ o.op.operands, okOpd n x = true := fun x hx => h1 x (by simpa using hx)
    have hst : ∀ H, istep P H (env (rep n σ)) o.op = istep P H (penv σ) o.op := fun H => istep_congr (fun x hx => rep_env (hop x hx) σ)
    split at h
    · rename_i hg
      cases h
      refine ⟨?_, rfl, rfl, hd, hop, by simp [iwanted, pwanted, hg]⟩
      unfold iopV popV iwanted stepV
      rw [hg]
      simp only [if_true, hst]
      rfl
    · rename_i j want hg
      split at h
      · rename_i t ht
        split at h
        · rename_i htn
          cases h
          have hy : iyield ops (rep n σ) j == some want ↔ isB (lk σ t) want = true := by
            unfold iyield
            rw [ht]
            simp only [Option.bind_some, rep_get σ htn]
            cases lk σ t <;> simp [isB]
          have hw : iwanted ops o (rep n σ) = isB (lk σ t) want := by
            unfold iwanted
            rw [hg]
            rw [Bool.eq_iff_iff]; exact hy
          refine ⟨?_, rfl, rfl, hd, hop, by rw [hw]; rfl⟩
          unfold iopV popV
          rw [hw]
          simp only [hst]
          rfl
        · cases h
      · cases h
  · rw [if_neg hc] at h; cases h

theorem pOpers_get {n : Nat} {ops : Array Oper} : ∀ {os : List Oper} {ps : List POp}, pOpers n ops os = some ps → ps.length = os.length ∧ ∀ (i : Nat) (o : Oper), os[i]? = some o → ∃ p, ps[i]? = some p ∧ pOper n ops o = some p
  | [], ps, h => by simp only [pOpers] at h; cases h; simp
  | o :: os, ps, h => by
    simp only [pOpers] at h
    obtain ⟨p, h1, h⟩ := Option.bind_eq_some_iff.1 h
    obtain ⟨ps', h2, h⟩ := Option.bind_eq_some_iff.1 h
    cases h
    obtain ⟨g1, g2⟩ := pOpers_get h2
    refine ⟨by simp [g1], fun i o' hi => ?_⟩
    cases i with
    | zero => simp at hi; subst hi; exact ⟨p, by simp, h1⟩
    | succ i => simpa using g2 i o' (by simpa using hi)

/-- What the model's slots come to. -/
def up (n : Nat) (r : Option (Sg × Heap)) : Option (List IV × Heap) := r.bind fun q => some (rep n q.1, q.2)
theorem rep_ops {P : Program} {φ : Oracle} {n : Nat} {ops : Array Oper} : ∀ {os : List Oper} {ps : List POp}, pOpers n ops os = some ps → ∀ (σ : Sg) (H : Heap), iops P φ ops os (rep n σ) H = up n (pops P φ ps σ H)
  | [], ps, h, σ, H => by simp only [pOpers] at h; cases h; rfl
  | o :: os, ps, h, σ, H => by
    simp only [pOpers] at h
    obtain ⟨p, h1, h⟩ := Option.bind_eq_some_iff.1 h
    obtain ⟨ps', h2, h⟩ := Option.bind_eq_some_iff.1 h
    cases h
    obtain ⟨g1, g2, _, g3, _⟩ := rep_opV (P := P) (φ := φ) h1 σ H
    simp only [iops, pops, up]
    rw [g1, Option.bind_assoc]
    congr 1
    funext r
    rw [rep_put g3, ← g2]
    exact rep_ops h2 _ _
theorem rep_trace {P : Program} {φ : Oracle} {n : Nat} {ops : Array Oper} : ∀ {os : List Oper} {ps : List POp}, pOpers n ops os = some ps → ∀ (σ : Sg) (H : Heap),
    itrace P φ ops os (rep n σ) H = (ptrace P φ ps σ H).bind fun q => some (q.1.map fun r => ⟨rep n r.σ, r.h, r.v, r.h'⟩, rep n q.2.1, q.2.2)
  | [], ps, h, σ, H => by simp only [pOpers] at h; cases h; rfl
  | o :: os, ps, h, σ, H => by
    simp only [pOpers] at h
    obtain ⟨p, h1, h⟩ := Option.bind_eq_some_iff.1 h
    obtain ⟨ps', h2, h⟩ := Option.bind_eq_some_iff.1 h
    cases h
    obtain ⟨g1, g2, _, g3, _⟩ := rep_opV (P := P) (φ := φ) h1 σ H
    simp only [itrace, ptrace]
    rw [g1, Option.bind_assoc]
    congr 1
    funext r
    rw [rep_put g3, ← g2, rep_trace h2, Option.bind_assoc, Option.bind_assoc]
    rfl
theorem ptrace_ops {P : Program} {φ : Oracle} : ∀ {ps : List POp} {σ : Sg} {H : Heap} {q : List PRec × Sg × Heap}, ptrace P φ ps σ H = some q → q.1.map (·.p) = ps
  | [], σ, H, q, h => by simp only [ptrace] at h; cases h; rfl
  | p :: ps, σ, H, q, h => by
    simp only [ptrace] at h
    obtain ⟨r, h1, h⟩ := Option.bind_eq_some_iff.1 h
    obtain ⟨q', h2, h⟩ := Option.bind_eq_some_iff.1 h
    cases h
    simp [ptrace_ops h2]
theorem rep_loose {P : Program} {φ : Oracle} {n : Nat} {ops : Array Oper} {ps : List POp} (h : pOpers n ops ops.toList = some ps) {recs : List PRec} (hr : recs.map (·.p) = ps) (ij : Nat × Nat) :
    looseOk P ops (recs.map fun r => ⟨rep n r.σ, r.h, r.v, r.h'⟩) ij = plooseOk P recs ij := by
  obtain ⟨i, j⟩ := ij
  obtain ⟨g1, g2⟩ := pOpers_get h
  unfold looseOk plooseOk
  simp only [List.getElem?_map]
  cases hi : recs[i]? with
  | none => cases ops[i]? <;> simp
  | some r =>
    have hps : ps[i]? = some r.p := by rw [← hr]; simp [hi]
    have hil : i < ops.size := by rw [← Array.length_toList, ← g1]; exact (List.getElem?_eq_some_iff.1 hps).1
    obtain ⟨p, k1, k2⟩ := g2 i ops[i] (by simp [hil])
    rw [hps] at k1; cases k1
    rw [Array.getElem?_eq_getElem hil]
    cases hj : recs[j]? with
    | none => simp
    | some s =>
      simp only [Option.map_some]
      obtain ⟨_, q2, q3, _, q5, q6⟩ := rep_opV (P := P) (φ := φ) k2 r.σ r.h
      have hq : ∀ H, iq P H (env (rep n r.σ)) ops[i].op = iq P H (penv r.σ) r.p.op := fun H => by
        rw [q3]; exact iq_congr (fun x hx => rep_env (q5 x hx) r.σ)
      rw [q6, hq, hq]
theorem rep_draw {P : Program} {φ : Oracle} {n : Nat} {ops : Array Oper} {ps : List POp} (hok : okDraw P ops = true) (h : pOpers n ops ops.toList = some ps) (σ : Sg) (H : Heap) : idraw P φ ops (rep n σ) H = up n (pdraw P φ ps (loose P ops) σ H) := by
  unfold idraw pdraw
  rw [if_pos hok]
  cases hl : loose P ops with
  | nil => exact rep_ops h σ H
  | cons p l =>
    simp only
    rw [rep_trace h]
    unfold up
    cases ht : ptrace P φ ps σ H with
    | none => rfl
    | some q =>
      simp only [Option.bind_some]
      have he : (p :: l).all (looseOk P ops (q.1.map fun r => ⟨rep n r.σ, r.h, r.v, r.h'⟩)) = (p :: l).all (plooseOk P q.1) := by
        congr 1
        funext ij
        exact rep_loose (φ := φ) h (ptrace_ops ht) ij
      rw [he]
      split <;> rfl

def up3 (n : Nat) (r : Option (IX × Sg × Heap)) : Option (IX × List IV × Heap) := r.bind fun q => some (q.1, rep n q.2.1, q.2.2)
theorem rep_exec {P : Program} {φ : Oracle} {k n : Nat} : ∀ (c : Code) (pc : PC), compile P n c = some pc → ∀ (σ : Sg) (H : Heap), iexec P φ k c (rep n σ) H = up3 n (pexec P φ k pc σ H) := by
  intro c
  induction c with
  | skip => intro pc h σ H; simp only [compile] at h; cases h; rfl
  | label l => intro pc h σ H; simp only [compile] at h; cases h; rfl
  | exit id => intro pc h σ H; simp only [compile] at h; cases h; rfl
  | ret => intro pc h σ H; simp only [compile] at h; cases h; rfl
  | region id ops draw =>
    intro pc h σ H
    cases draw with
    | false =>
      simp only [compile] at h
      obtain ⟨l, h1, h⟩ := Option.bind_eq_some_iff.1 h
      cases h
      simp only [iexec, pexec, rep_ops h1, up, up3, Option.bind_assoc]
      rfl
    | true =>
      simp only [compile] at h
      split at h
      · rename_i hok
        obtain ⟨l, h1, h⟩ := Option.bind_eq_some_iff.1 h
        cases h
        simp only [iexec, pexec, rep_draw hok h1, up, up3, Option.bind_assoc]
        rfl
      · cases h
  | seq a b iha ihb =>
    intro pc h σ H
    simp only [compile] at h
    obtain ⟨x, h1, h⟩ := Option.bind_eq_some_iff.1 h
    obtain ⟨y, h2, h⟩ := Option.bind_eq_some_iff.1 h
    cases h
    simp only [iexec, pexec, iha x h1, up3, Option.bind_assoc]
    congr 1
    funext r
    obtain ⟨z, σ', H'⟩ := r
    cases z with
    | normal => simp only [Option.bind_some]; exact ihb y h2 σ' H'
    | exit id => rfl
    | ret => rfl
  | cond c a b iha ihb =>
    intro pc h σ H
    simp only [compile] at h
    split at h
    · rename_i hc
      obtain ⟨x, h1, h⟩ := Option.bind_eq_some_iff.1 h
      obtain ⟨y, h2, h⟩ := Option.bind_eq_some_iff.1 h
      cases h
      simp only [iexec, pexec, rep_env hc]
      generalize penv σ c = q
      rcases q with _ | v
      · rfl
      · cases v with
        | bool b => cases b; exact ihb y h2 σ H; exact iha x h1 σ H
        | _ => rfl
    · cases h
  | block id a ih =>
    intro pc h σ H
    simp only [compile] at h
    obtain ⟨x, h1, h⟩ := Option.bind_eq_some_iff.1 h
    cases h
    simp only [iexec, pexec, ih x h1, up3, Option.bind_assoc]
    congr 1
    funext r
    obtain ⟨z, σ', H'⟩ := r
    cases z with
    | normal => rfl
    | exit id' => simp only [Option.bind_some]; split <;> rfl
    | ret => rfl
  | loop a ih =>
    intro pc h σ H
    simp only [compile] at h
    obtain ⟨x, h1, h⟩ := Option.bind_eq_some_iff.1 h
    cases h
    simp only [iexec, pexec]
    have key : ∀ (j : Nat) (σ : Sg) (H : Heap), iter (iexec P φ k a) j (rep n σ) H = up3 n (piter (pexec P φ k x) j σ H) := by
      intro j
      induction j with
      | zero => intro σ H; rfl
      | succ j ihj =>
        intro σ H
        simp only [iter, piter, ih x h1, up3, Option.bind_assoc]
        congr 1
        funext r
        obtain ⟨z, σ', H'⟩ := r
        cases z with
        | normal => simp only [Option.bind_some]; exact ihj σ' H'
        | exit id => rfl
        | ret => rfl
    exact key k σ H
  | scope a ih => intro pc h σ H; simp only [compile] at h; exact ih pc h σ H
  | rangeFunc f ps as body _ _ => intro pc h; simp [compile] at h
  | goto l => intro pc h; simp [compile] at h
  | refuse why => intro pc h; simp [compile] at h
end Go.Shade
