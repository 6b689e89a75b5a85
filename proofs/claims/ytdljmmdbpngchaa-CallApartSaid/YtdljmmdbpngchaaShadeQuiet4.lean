/- SHADE, part 8: struct and array literals; then all operations that leave the heap alone, in one. -/
import Derived.Test.YtdljmmdbpngchaaShadeQuiet3
import Derived.Laws.Tables
namespace Go.Shade
open Go.RowKit
set_option linter.unusedSimpArgs false

theorem foldl_set : ∀ (vs : List Value) (k off : Nat) (C : Array Value), off + k + vs.length ≤ C.size →
    ((vs.zipIdx k).foldl (fun cs (p : Value × Nat) => cs.setIfInBounds (off + p.2) p.1) C).size = C.size ∧
    ∀ j, ((vs.zipIdx k).foldl (fun cs (p : Value × Nat) => cs.setIfInBounds (off + p.2) p.1) C)[j]? = if off + k ≤ j ∧ j < off + k + vs.length then vs[j - (off + k)]? else C[j]?
  | [], k, off, C, _ => ⟨rfl, fun j => by rw [if_neg (by simp only [List.length_nil]; omega)]; rfl⟩
  | v :: vs, k, off, C, h => by
    simp only [List.length_cons] at h
    obtain ⟨h1, h2⟩ := foldl_set vs (k + 1) off (C.setIfInBounds (off + k) v) (by simp; omega)
    simp only [List.zipIdx_cons, List.foldl_cons]
    refine ⟨by rw [h1]; simp, fun j => ?_⟩
    rw [h2, Array.getElem?_setIfInBounds]
    simp only [List.length_cons]
    by_cases e1 : j = off + k
    · subst e1
      rw [if_neg (by omega), if_pos rfl, if_pos (by omega), if_pos (by omega)]; simp
    · by_cases e2 : off + (k + 1) ≤ j ∧ j < off + (k + 1) + vs.length
      · rw [if_pos e2, if_pos (by omega), show j - (off + k) = j - (off + (k + 1)) + 1 by omega]; simp
      · rw [if_neg e2, if_neg (Ne.symm e1), if_neg (by omega)]

def isTuple : IV → Bool
  | .tuple _ => true
  | _ => false
def ifill (place : Nat → Option (Nat × Nat)) (cells : List IV) : List (Nat × IV) → Option (List IV)
  | [] => some cells
  | (i, v) :: rest =>
    match place i with
    | none => none
    | some (off, size) => if isTuple v = false ∧ v.cells.length = size ∧ off + size ≤ cells.length then ifill place (putAt cells off v.cells) rest else none

def PRs (m : Mp) : List (Nat × IV) → List (Nat × Value) → Prop
  | [], l => l = []
  | (i, x) :: xs, l => ∃ v vs, l = (i, v) :: vs ∧ VR m x v ∧ PRs m xs vs
theorem VRs_putAt {m : Mp} {cs xs : List IV} {C C' : List Value} {vs : List Value} {o : Nat} (h : VRs m cs C) (k : VRs m xs vs) (hn : o + xs.length ≤ cs.length) (hl : C'.length = C.length) (hg : ∀ (j : Nat), C'[j]? = if o ≤ j ∧ j < o + vs.length then vs[j - o]? else C[j]?) : VRs m (putAt cs o xs) C' := by
  rw [VRs_iff]
  refine ⟨by rw [putAt_length hn, hl, h.length], fun j x hj => ?_⟩
  rw [putAt_get hn] at hj
  rw [hg, ← k.length]
  split at hj
  · rename_i e; rw [if_pos e]; exact k.get hj
  · rename_i e; rw [if_neg e]; exact h.get hj
theorem ifill_fill {m : Mp} (place : Nat → Option (Nat × Nat)) : ∀ (parts : List (Nat × IV)) (parts' : List (Nat × Value)) (cs : List IV) (C : Array Value) (r : List IV), PRs m parts parts' → VRs m cs C.toList → ifill place cs parts = some r →
    ∃ R : Array Value, Instr.fill place C parts' = some R ∧ VRs m r R.toList
  | [], parts', cs, C, r, hp, hc, h => by
    simp only [PRs] at hp; subst hp
    simp only [ifill] at h; cases h
    exact ⟨C, rfl, hc⟩
  | (i, x) :: parts, parts', cs, C, r, hp, hc, h => by
    simp only [PRs] at hp
    obtain ⟨v, vs, rfl, hx, hps⟩ := hp
    simp only [ifill] at h
    split at h
    · cases h
    · rename_i off size hpl
      split at h
      · rename_i hcond
        obtain ⟨h1, h2, h3⟩ := hcond
        have hcells := hx.cells (fun l e => by subst e; simp [isTuple] at h1)
        have hlen := hcells.length
        have hCl := hc.length
        simp only [Array.length_toList] at hlen hCl
        obtain ⟨f1, f2⟩ := foldl_set v.cells.toList 0 off C (by simp; omega)
        have hput : VRs m (putAt cs off x.cells) ((v.cells.toList.zipIdx 0).foldl (fun cs (p : Value × Nat) => cs.setIfInBounds (off + p.2) p.1) C).toList := by
          refine VRs_putAt hc hcells (by omega) (by simpa using f1) (fun j => ?_)
          rw [Array.getElem?_toList, f2]
          simp
        obtain ⟨R, hR1, hR2⟩ := ifill_fill place parts vs _ _ r hps hput h
        refine ⟨R, ?_, hR2⟩
        simp only [Instr.fill, hpl]
        rw [if_neg (by simp; omega), ← Array.foldl_toList, Array.toList_zipIdx]
        exact hR1
      · cases h

def ibuild (P : Program) (t : TypeId) (parts : List (Nat × IV)) : Option IV :=
  (zeroOf P t).bind fun z => if isTuple z then none else
  match P.underlying t with
  | some (.array _ e) => (szOf P e).bind fun s => (ifill (fun i => some (i * s, s)) z.cells parts).bind fun r => some (.agg r)
  | some (.struct fields) => (fields.toList.mapM (fun f => (P.info? f.type).map fun i => (f.offset, i.size))).bind fun places =>
      (ifill (places.toArray[·]?) z.cells parts).bind fun r => some (.agg r)
  | _ => none
theorem run_ibuild {P : Program} {m : Mp} {t : TypeId} {parts : List (Nat × IV)} {parts' : Array (Nat × Value)} {r : IV} (hp : PRs m parts parts'.toList) (h : ibuild P t parts = some r) (w : World) :
    ∃ u, (Instr.build t parts').run P w = .ok u w ∧ VR m r u := by
  unfold ibuild at h
  obtain ⟨z, hz, h⟩ := Option.bind_eq_some_iff.1 h
  split at h
  · cases h
  · rename_i htup
    have hz0 := hz
    unfold zeroOf at hz0
    obtain ⟨zv, h1, h2⟩ := Option.bind_eq_some_iff.1 hz0
    obtain ⟨it, h3, h4⟩ := Option.bind_eq_some_iff.1 h1
    have hcells := (ofV_VR m h2).cells (fun l e => by subst e; simp [isTuple] at htup)
    split at h
    · rename_i n e hund
      obtain ⟨s, hs, h⟩ := Option.bind_eq_some_iff.1 h
      obtain ⟨q, hq, h⟩ := Option.bind_eq_some_iff.1 h
      cases h
      obtain ⟨R, hR1, hR2⟩ := ifill_fill _ _ _ _ _ _ hp hcells hq
      refine ⟨.agg R, ?_, by simp only [VR]; exact ⟨_, rfl, hR2⟩⟩
      refine run_build w t parts' R ?_
      unfold szOf at hs
      cases hie : P.info? e with
      | none => simp [hie] at hs
      | some ie => simp [hie] at hs; subst hs; simp [Program.built, h3, hund, h4, hie, hR1]
    · rename_i fields hund
      obtain ⟨places, hs, h⟩ := Option.bind_eq_some_iff.1 h
      obtain ⟨q, hq, h⟩ := Option.bind_eq_some_iff.1 h
      cases h
      obtain ⟨R, hR1, hR2⟩ := ifill_fill _ _ _ _ _ _ hp hcells hq
      refine ⟨.agg R, ?_, by simp only [VR]; exact ⟨_, rfl, hR2⟩⟩
      refine run_build w t parts' R ?_
      simp only [Program.built, h3, hund, h4, hs]
      exact hR1
    · cases h

/-! ### all of them -/
abbrev Env := Operand → Option IV
def oneOpt (ρ : Env) : Option Operand → Option (Option IV)
  | none => some none
  | some x => (ρ x).bind fun v => some (some v)
def evs (ρ : Env) : List Operand → Option (List IV)
  | [] => some []
  | x :: xs => (ρ x).bind fun v => (evs ρ xs).bind fun vs => some (v :: vs)
def evps (ρ : Env) : List (Nat × Operand) → Option (List (Nat × IV))
  | [] => some []
  | (i, x) :: xs => (ρ x).bind fun v => (evps ρ xs).bind fun vs => some ((i, v) :: vs)
def iq (P : Program) (H : Heap) (ρ : Env) : Op → Option IV
  | .move x => ρ x
  | .assign x => ρ x
  | .pick c a b => match ρ c with
    | some (.bool true) => ρ a
    | some (.bool false) => ρ b
    | _ => none
  | .load t a => match ρ a with
    | some (.ptr b o) => iload P t H b o
    | _ => none
  | .nilCheck x => match ρ x with
    | some (.ptr b o) => some (.ptr b o)
    | some (.iface t v) => some (.iface t v)
    | some (.func (.func f) a b) => some (.func (.func f) a b)
    | _ => none
  | .binOp op t x y _ => (ρ x).bind fun a => (ρ y).bind fun b => ibin P op (isConst x || isConst y) t a b
  | .unOp op _ x => (ρ x).bind fun a => iun op a
  | .convert s d x => (ρ x).bind fun a => iconv P H s d a
  | .makeInterface t x => (ρ x).bind fun a => imakeIface P t a
  | .makeFunc fn first cap => (evs ρ first.toList).bind fun a => (evs ρ cap.toList).bind fun b => some (.func fn a b)
  | .slice t x lo hi mx => (ρ x).bind fun a => (oneOpt ρ lo).bind fun l => (oneOpt ρ hi).bind fun h => (oneOpt ρ mx).bind fun k => islice P H t a l h k
  | .fieldAddr s x f => (ρ x).bind fun a => ifieldAddr P s a f
  | .field t x f => (ρ x).bind fun a => ifield P t a f
  | .indexAddr t x i => (ρ x).bind fun a => (ρ i).bind fun j => iindexAddr P t a j
  | .index t x i => (ρ x).bind fun a => (ρ i).bind fun j => iindex P t a j
  | .lookup t x i ok => (ρ x).bind fun a => (ρ i).bind fun j => ilookup P H t a j ok
  | .typeAssert x _ T ok => (ρ x).bind fun a => iassert P a T ok
  | .extract t i => (ρ t).bind fun a => iextract a i
  | .build t parts => (evps ρ parts.toList).bind fun ps => ibuild P t ps
  | .call { callee := .builtin .len, args := ⟨[x]⟩, argTypes := ⟨t :: _⟩ } => (ρ x).bind fun a => ilen P H t a
  | .call { callee := .builtin .min, args := ⟨x :: ys⟩, .. } => (ρ x).bind fun a => (evs ρ ys).bind fun l => ifold imin2 a l
  | .call { callee := .builtin .max, args := ⟨x :: ys⟩, .. } => (ρ x).bind fun a => (evs ρ ys).bind fun l => ifold imax2 a l
  | _ => none

def ER (m : Mp) (ρ : Env) (ρ' : Operand → Value) : Prop := ∀ x v, ρ x = some v → VR m v (ρ' x)
theorem evs_VRs {m : Mp} {ρ : Env} {ρ' : Operand → Value} (h : ER m ρ ρ') : ∀ {xs : List Operand} {vs : List IV}, evs ρ xs = some vs → VRs m vs (xs.map ρ')
  | [], vs, e => by simp only [evs] at e; cases e; exact VRs.nil m
  | x :: xs, vs, e => by
    simp only [evs] at e
    obtain ⟨v, h1, e⟩ := Option.bind_eq_some_iff.1 e
    obtain ⟨l, h2, e⟩ := Option.bind_eq_some_iff.1 e
    cases e
    exact VRs.cons (h _ _ h1) (evs_VRs h h2)
theorem evps_PRs {m : Mp} {ρ : Env} {ρ' : Operand → Value} (h : ER m ρ ρ') : ∀ {xs : List (Nat × Operand)} {vs : List (Nat × IV)}, evps ρ xs = some vs → PRs m vs (xs.map fun (i, x) => (i, ρ' x))
  | [], vs, e => by simp only [evps] at e; cases e; rfl
  | (i, x) :: xs, vs, e => by
    simp only [evps] at e
    obtain ⟨v, h1, e⟩ := Option.bind_eq_some_iff.1 e
    obtain ⟨l, h2, e⟩ := Option.bind_eq_some_iff.1 e
    cases e
    simp only [PRs]
    exact ⟨_, _, rfl, h _ _ h1, evps_PRs h h2⟩
theorem oneOpt_OR {m : Mp} {ρ : Env} {ρ' : Operand → Value} (h : ER m ρ ρ') {x : Option Operand} {r : Option IV} (e : oneOpt ρ x = some r) : OR m r (x.map ρ') := by
  cases x with
  | none => simp only [oneOpt] at e; cases e; rfl
  | some x =>
    simp only [oneOpt] at e
    obtain ⟨v, h1, e⟩ := Option.bind_eq_some_iff.1 e
    cases e
    exact ⟨_, rfl, h _ _ h1⟩

theorem vv {P : Program} {s : Sem Value} {w w' : World} {u : Value} (h : s.run P w = .ok u w') : (do pure (.value (← s)) : Sem Next).run P w = .ok (.value u) w' := by
  simp [h]

theorem run_iq {P : Program} {B0 : Nat} {w0 w : World} {m : Mp} {H : Heap} (hR : Rel B0 w0 m H w) {ρ : Env} {ρ' : Operand → Value} (hρ : ER m ρ ρ') {o : Oper} {r : IV} (h : iq P H ρ o.op = some r) :
    ∃ u, (execOp ρ' o).run P w = .ok (.value u) w ∧ VR m r u := by
  obtain ⟨dst, op, type, pos, after, guard⟩ := o
  simp only at h
  have fin : ∀ {s : Sem Value}, (∃ u, s.run P w = .ok u w ∧ VR m r u) → execOp ρ' ⟨dst, op, type, pos, after, guard⟩ = (do pure (.value (← s)) : Sem Next) → ∃ u, (execOp ρ' ⟨dst, op, type, pos, after, guard⟩).run P w = .ok (.value u) w ∧ VR m r u := by
    intro s hs he
    obtain ⟨u, h1, h2⟩ := hs
    exact ⟨u, by rw [he]; exact vv h1, h2⟩
  unfold iq at h
  split at h
  · exact ⟨_, rfl, hρ _ _ h⟩
  · exact ⟨_, rfl, hρ _ _ h⟩
  · rename_i c a b
    split at h
    · rename_i hc
      have := hρ _ _ hc; simp only [VR] at this
      exact ⟨ρ' a, by simp [execOp, this, asBool], hρ _ _ h⟩
    · rename_i hc
      have := hρ _ _ hc; simp only [VR] at this
      exact ⟨ρ' b, by simp [execOp, this, asBool], hρ _ _ h⟩
    · cases h
  · rename_i t a
    split at h
    · rename_i b o ha
      have hv := hρ _ _ ha; simp only [VR] at hv
      obtain ⟨l, hl, hv⟩ := hv
      obtain ⟨u, h1, h2⟩ := run_iload hR h hl
      exact fin ⟨u, by rw [hv]; simp only [Instr.loadAt, Instr.sureAddr, Sem.run_bind, Sem.run_pure, Result.andThen_ok]; exact h1, h2⟩ rfl
    · cases h
  · rename_i x
    split at h
    · rename_i b o hx
      cases h
      have hv := hρ _ _ hx; have hv' := hv; simp only [VR] at hv
      obtain ⟨l, hl, hv⟩ := hv
      exact ⟨ρ' x, by simp [execOp, hv], hv'⟩
    · rename_i t v hx
      cases h
      have hv := hρ _ _ hx; have hv' := hv; simp only [VR] at hv
      obtain ⟨y, hv, _⟩ := hv
      exact ⟨ρ' x, by simp [execOp, hv], hv'⟩
    · rename_i f a b hx
      cases h
      have hv := hρ _ _ hx; have hv' := hv; simp only [VR] at hv
      obtain ⟨a', b', hv, _⟩ := hv
      exact ⟨ρ' x, by simp [execOp, hv], hv'⟩
    · cases h
  · obtain ⟨a, h1, h⟩ := Option.bind_eq_some_iff.1 h
    obtain ⟨b, h2, h⟩ := Option.bind_eq_some_iff.1 h
    exact fin (run_ibin (hρ _ _ h1) (hρ _ _ h2) h w) rfl
  · obtain ⟨a, h1, h⟩ := Option.bind_eq_some_iff.1 h
    exact fin (run_iun (hρ _ _ h1) h w) rfl
  · obtain ⟨a, h1, h⟩ := Option.bind_eq_some_iff.1 h
    exact fin (run_iconv hR (hρ _ _ h1) h) rfl
  · obtain ⟨a, h1, h⟩ := Option.bind_eq_some_iff.1 h
    exact fin (run_imakeIface (hρ _ _ h1) h w) rfl
  · rename_i fn first cap
    obtain ⟨a, h1, h⟩ := Option.bind_eq_some_iff.1 h
    obtain ⟨b, h2, h⟩ := Option.bind_eq_some_iff.1 h
    cases h
    refine ⟨.func fn (first.map ρ') (cap.map ρ'), rfl, ?_⟩
    simp only [VR]
    exact ⟨_, _, rfl, by simpa using evs_VRs hρ h1, by simpa using evs_VRs hρ h2⟩
  · obtain ⟨a, h1, h⟩ := Option.bind_eq_some_iff.1 h
    obtain ⟨b, h2, h⟩ := Option.bind_eq_some_iff.1 h
    obtain ⟨c, h3, h⟩ := Option.bind_eq_some_iff.1 h
    obtain ⟨d, h4, h⟩ := Option.bind_eq_some_iff.1 h
    exact fin (run_islice hR (hρ _ _ h1) (oneOpt_OR hρ h2) (oneOpt_OR hρ h3) (oneOpt_OR hρ h4) h) rfl
  · obtain ⟨a, h1, h⟩ := Option.bind_eq_some_iff.1 h
    exact fin (run_ifieldAddr (hρ _ _ h1) h w) rfl
  · obtain ⟨a, h1, h⟩ := Option.bind_eq_some_iff.1 h
    exact fin (run_ifield (hρ _ _ h1) h w) rfl
  · obtain ⟨a, h1, h⟩ := Option.bind_eq_some_iff.1 h
    obtain ⟨b, h2, h⟩ := Option.bind_eq_some_iff.1 h
    exact fin (run_iindexAddr (hρ _ _ h1) (hρ _ _ h2) h w) rfl
  · obtain ⟨a, h1, h⟩ := Option.bind_eq_some_iff.1 h
    obtain ⟨b, h2, h⟩ := Option.bind_eq_some_iff.1 h
    exact fin (run_iindex (hρ _ _ h1) (hρ _ _ h2) h w) rfl
  · obtain ⟨a, h1, h⟩ := Option.bind_eq_some_iff.1 h
    obtain ⟨b, h2, h⟩ := Option.bind_eq_some_iff.1 h
    exact fin (run_ilookup hR (hρ _ _ h1) (hρ _ _ h2) h) rfl
  · obtain ⟨a, h1, h⟩ := Option.bind_eq_some_iff.1 h
    exact fin (run_iassert (hρ _ _ h1) h w) rfl
  · obtain ⟨a, h1, h⟩ := Option.bind_eq_some_iff.1 h
    exact fin (run_iextract (hρ _ _ h1) h w) rfl
  · rename_i t parts
    obtain ⟨a, h1, h⟩ := Option.bind_eq_some_iff.1 h
    exact fin (run_ibuild (parts' := parts.map fun (i, x) => (i, ρ' x)) (by simpa using evps_PRs hρ h1) h w) rfl
  · rename_i x t ts
    obtain ⟨a, h1, h⟩ := Option.bind_eq_some_iff.1 h
    obtain ⟨u, h2, h3⟩ := run_ilen (ty := type) (ts := ⟨t :: ts⟩) hR rfl (hρ _ _ h1) h
    exact ⟨u, by simp [execOp, resolve, invoke, builtin, h2], h3⟩
  · rename_i x ys ts
    obtain ⟨a, h1, h⟩ := Option.bind_eq_some_iff.1 h
    obtain ⟨l, h2, h⟩ := Option.bind_eq_some_iff.1 h
    obtain ⟨u, h3, h4⟩ := run_ifold (P := P) w (run_imin2 w) _ _ _ _ _ (hρ _ _ h1) (evs_VRs hρ h2) h
    exact ⟨u, by simp [execOp, resolve, invoke, builtin, Builtin.min_, h3], h4⟩
  · rename_i x ys ts
    obtain ⟨a, h1, h⟩ := Option.bind_eq_some_iff.1 h
    obtain ⟨l, h2, h⟩ := Option.bind_eq_some_iff.1 h
    obtain ⟨u, h3, h4⟩ := run_ifold (P := P) w (run_imax2 w) _ _ _ _ _ (hρ _ _ h1) (evs_VRs hρ h2) h
    exact ⟨u, by simp [execOp, resolve, invoke, builtin, Builtin.max_, h3], h4⟩
  · cases h
end Go.Shade
