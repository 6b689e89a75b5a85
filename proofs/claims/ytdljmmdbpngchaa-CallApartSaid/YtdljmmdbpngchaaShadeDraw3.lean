/- SHADE, part 16: such a region comes to what the text's order does, whatever order is drawn. -/
import Derived.Test.YtdljmmdbpngchaaShadeDraw2
namespace Go.Shade
open Go.RowKit
set_option linter.unusedSimpArgs false
set_option linter.unusedVariables false

structure Rec where
  ts : List IV
  h : Heap
  v : IV
  h' : Heap
def itrace (P : Program) (φ : Oracle) (ops : Array Oper) : List Oper → List IV → Heap → Option (List Rec × List IV × Heap)
  | [], ts, H => some ([], ts, H)
  | o :: os, ts, H => (iopV P φ ops o ts H).bind fun r => (itrace P φ ops os (put ts o.dst r.1) r.2).bind fun q => some (⟨ts, H, r.1, r.2⟩ :: q.1, q.2)
def looseOk (P : Program) (ops : Array Oper) (recs : List Rec) (ij : Nat × Nat) : Bool :=
  match ops[ij.1]?, recs[ij.1]?, recs[ij.2]? with
  | some o, some r, some s => !(iwanted ops o r.ts) || (ivo (iq P s.h (env r.ts) o.op) r.v && ivo (iq P s.h' (env r.ts) o.op) r.v)
  | _, _, _ => false
def idraw (P : Program) (φ : Oracle) (ops : Array Oper) (ts : List IV) (H : Heap) : Option (List IV × Heap) :=
  if okDraw P ops then
    match loose P ops with
    | [] => iops P φ ops ops.toList ts H
    | p :: ps => (itrace P φ ops ops.toList ts H).bind fun q => if (p :: ps).all (looseOk P ops q.1) then some q.2 else none
  else none

theorem iops_trace {P : Program} {φ : Oracle} {ops : Array Oper} : ∀ {os : List Oper} {ts : List IV} {H : Heap} {r : List IV × Heap}, iops P φ ops os ts H = some r → ∃ recs, itrace P φ ops os ts H = some (recs, r)
  | [], ts, H, r, h => by simp only [iops] at h; cases h; exact ⟨[], rfl⟩
  | o :: os, ts, H, r, h => by
    simp only [iops] at h
    obtain ⟨q, h1, h2⟩ := Option.bind_eq_some_iff.1 h
    obtain ⟨recs, h3⟩ := iops_trace h2
    exact ⟨⟨ts, H, q.1, q.2⟩ :: recs, by simp [itrace, h1, h3]⟩

/-- The states between the operations, and what each puts. -/
structure Walk (P : Program) (φ : Oracle) (ops : Array Oper) (l : List Oper) (ts : List IV) (H : Heap) (ts' : List IV) (H' : Heap) (S : Nat → List IV × Heap) (V : Nat → IV) : Prop where
  start : S 0 = (ts, H)
  stop : S l.length = (ts', H')
  op : ∀ i o, l[i]? = some o → iopV P φ ops o (S i).1 (S i).2 = some (V i, (S (i + 1)).2)
  slots : ∀ i o, l[i]? = some o → (S (i + 1)).1 = put (S i).1 o.dst (V i)
def stAt (recs : List Rec) (e : List IV × Heap) (i : Nat) : List IV × Heap := match recs[i]? with
  | some r => (r.ts, r.h)
  | none => e
def vAt (recs : List Rec) (i : Nat) : IV := match recs[i]? with
  | some r => r.v
  | none => .nilPtr
theorem walk_of {P : Program} {φ : Oracle} {ops : Array Oper} : ∀ {os : List Oper} {ts : List IV} {H : Heap} {recs : List Rec} {e : List IV × Heap}, itrace P φ ops os ts H = some (recs, e) →
    recs.length = os.length ∧ Walk P φ ops os ts H e.1 e.2 (stAt recs e) (vAt recs) ∧ ∀ i r, recs[i]? = some r → r.h' = (stAt recs e (i + 1)).2
  | [], ts, H, recs, e, h => by
    simp only [itrace] at h; cases h
    exact ⟨rfl, ⟨rfl, rfl, by simp, by simp⟩, by simp⟩
  | o :: os, ts, H, recs, e, h => by
    simp only [itrace] at h
    obtain ⟨q, h1, h2⟩ := Option.bind_eq_some_iff.1 h
    obtain ⟨⟨recs', e'⟩, h3, h4⟩ := Option.bind_eq_some_iff.1 h2
    cases h4
    obtain ⟨g1, g2, g3⟩ := walk_of h3
    have hs : ∀ i, stAt (⟨ts, H, q.1, q.2⟩ :: recs') e' (i + 1) = stAt recs' e' i := fun i => by simp [stAt]
    have hv : ∀ i, vAt (⟨ts, H, q.1, q.2⟩ :: recs') (i + 1) = vAt recs' i := fun i => by simp [vAt]
    refine ⟨by simp [g1], ⟨rfl, by rw [List.length_cons, hs]; exact g2.stop, fun i o' hi => ?_, fun i o' hi => ?_⟩, fun i r hi => ?_⟩
    · cases i with
      | zero =>
        simp at hi; subst hi
        rw [hs, g2.start]
        exact h1
      | succ i => rw [hs, hs, hv]; exact g2.op i o' (by simpa using hi)
    · cases i with
      | zero =>
        simp at hi; subst hi
        rw [hs, g2.start]; rfl
      | succ i => rw [hs, hs, hv]; exact g2.slots i o' (by simpa using hi)
    · cases i with
      | zero =>
        simp at hi; subst hi
        rw [hs, g2.start]
      | succ i => rw [hs]; exact g3 i r (by simpa using hi)

/-! ### what the looks say -/
structure Looks (P : Program) (ops : Array Oper) (A : Nat → Nat → Bool) : Prop where
  edge : ∀ (i : Nat) (o : Oper), ops[i]? = some o → ∀ e ∈ o.after, Region.binds .any e = true → e.on < i
  anc : ∀ (i : Nat) (o : Oper), ops[i]? = some o → ∀ j, A i j = true → ∃ e ∈ o.after, Region.binds .any e = true ∧ (e.on = j ∨ A e.on j = true)
  eff : ∀ (i j : Nat) (o p : Oper), ops[i]? = some o → ops[j]? = some p → isE P o.op = true → isE P p.op = true → i < j → A j i = true
  dst : ∀ (i j : Nat) (o p : Oper) (t : Tmp), ops[i]? = some o → ops[j]? = some p → i ≠ j → o.dst = some t → p.dst ≠ some t
  look : ∀ (i j : Nat) (o p : Oper) (t : Tmp), ops[i]? = some o → ops[j]? = some p → t ∈ o.looksAt ops → p.dst = some t → i ≠ j ∧ (A i j = true ∨ A j i = true)

theorem mask_spec {acc : List Nat} {j : Nat} : ∀ {es : List Edge}, (mask acc es).testBit j = true → ∃ e ∈ es, Region.binds .any e = true ∧ (e.on = j ∨ (acc.getD e.on 0).testBit j = true)
  | [], h => by simp [mask] at h
  | e :: es, h => by
    simp only [mask] at h
    split at h
    · rename_i hb
      rw [Nat.testBit_or, Nat.testBit_or, Nat.testBit_two_pow] at h
      simp only [Bool.or_eq_true, decide_eq_true_eq] at h
      rcases h with (h | h) | h
      · exact ⟨e, by simp, hb, .inl h⟩
      · exact ⟨e, by simp, hb, .inr h⟩
      · obtain ⟨e', h1, h2⟩ := mask_spec h; exact ⟨e', by simp [h1], h2⟩
    · obtain ⟨e', h1, h2⟩ := mask_spec h; exact ⟨e', by simp [h1], h2⟩
theorem ancs_prefix : ∀ (os : List Oper) (acc : List Nat) (k : Nat), k < acc.length → (ancs os acc).getD k 0 = acc.getD k 0
  | [], acc, k, _ => rfl
  | o :: os, acc, k, h => by
    simp only [ancs]
    rw [ancs_prefix os _ k (by simp; omega)]
    simp [List.getD_eq_getElem?_getD, List.getElem?_append_left h]
theorem ancs_spec : ∀ (os : List Oper) (acc : List Nat) (i : Nat) (o : Oper), os[i]? = some o → (∀ e ∈ o.after.toList, Region.binds .any e = true → e.on < acc.length + i) →
    ∀ j, ((ancs os acc).getD (acc.length + i) 0).testBit j = true → ∃ e ∈ o.after.toList, Region.binds .any e = true ∧ (e.on = j ∨ ((ancs os acc).getD e.on 0).testBit j = true)
  | [], acc, i, o, h, _, j, _ => by simp at h
  | p :: os, acc, i, o, h, he, j, hj => by
    simp only [ancs] at hj ⊢
    cases i with
    | zero =>
      simp at h; subst h
      rw [ancs_prefix _ _ _ (by simp)] at hj
      simp only [Nat.add_zero, List.getD_eq_getElem?_getD, List.getElem?_append_right (Nat.le_refl _), Nat.sub_self] at hj
      simp at hj
      obtain ⟨e, h1, h2, h3⟩ := mask_spec hj
      refine ⟨e, h1, h2, ?_⟩
      rcases h3 with h3 | h3
      · exact .inl h3
      · right
        have hlt := he e h1 h2
        rw [ancs_prefix _ _ _ (by simp; omega)]
        rw [List.getD_eq_getElem?_getD, List.getElem?_append_left (by omega), ← List.getD_eq_getElem?_getD]
        exact h3
    | succ i =>
      have hl : (acc ++ [mask acc p.after.toList]).length + i = acc.length + (i + 1) := by simp; omega
      have := ancs_spec os (acc ++ [mask acc p.after.toList]) i o (by simpa using h) (fun e h1 h2 => by have := he e h1 h2; omega) j (by rw [hl]; exact hj)
      exact this

theorem okDraw_looks {P : Program} {ops : Array Oper} (h : okDraw P ops = true) : Looks P ops (fun i j => ((ancs ops.toList []).getD i 0).testBit j) := by
  unfold okDraw at h
  simp only [List.all_eq_true, Bool.and_eq_true] at h
  have hm : ∀ {i : Nat} {o : Oper}, ops[i]? = some o → (o, i) ∈ ops.toList.zipIdx := by
    intro i o hi
    rw [List.mem_zipIdx_iff_getElem?]; simpa using hi
  have hedge : ∀ (i : Nat) (o : Oper), ops[i]? = some o → ∀ e ∈ o.after, Region.binds .any e = true → e.on < i := by
    intro i o hi e he hb
    have := (h (o, i) (hm hi)).1 e (by simpa using he)
    simp only [hb, Bool.not_true, Bool.false_or, decide_eq_true_eq] at this
    exact this
  refine ⟨hedge, fun i o hi j hj => ?_, fun i j o p hi hj ho hp hlt => ?_, fun i j o p t hi hj hne ht hp => ?_, fun i j o p t hi hj ht hp => ?_⟩
  · have := ancs_spec ops.toList [] i o (by simpa using hi) (fun e h1 h2 => by simpa using hedge i o hi e (by simpa using h1) h2) j (by simpa using hj)
    obtain ⟨e, h1, h2, h3⟩ := this
    exact ⟨e, by simpa using h1, h2, h3⟩
  · have := ((h (o, i) (hm hi)).2 (p, j) (hm hj)).1.1
    simp only [ho, hp, hlt, decide_true, Bool.and_self, Bool.not_true, Bool.false_or] at this
    exact this
  · have := ((h (o, i) (hm hi)).2 (p, j) (hm hj)).1.2
    simp [ht, hp, hne] at this
  · have := ((h (o, i) (hm hi)).2 (p, j) (hm hj)).2 t ht
    simp only [hp, BEq.rfl, Bool.not_true, Bool.false_or, Bool.and_eq_true, bne_iff_ne, ne_eq, Bool.or_eq_true] at this
    exact this
end Go.Shade
