/- SHADE, part 17: the proof of that. -/
import Derived.Test.YtdljmmdbpngchaaShadeDraw3
namespace Go.Shade
open Go.RowKit
set_option linter.unusedSimpArgs false
set_option linter.unusedVariables false

section
variable {P : Program} {φ : Oracle} {ops : Array Oper} {A : Nat → Nat → Bool} {ts ts' : List IV} {H H' : Heap} {S : Nat → List IV × Heap} {V : Nat → IV}

theorem put_length (ts : List IV) (d : Option Tmp) (v : IV) : (put ts d v).length = ts.length := by cases d <;> simp [put]
theorem put_same {ts : List IV} {t : Tmp} {v : IV} (h : t < ts.length) : (put ts (some t) v)[t]? = some v := by simp [put, h]
theorem put_other {ts : List IV} {d : Option Tmp} {t : Tmp} {v : IV} (h : d ≠ some t) : (put ts d v)[t]? = ts[t]? := by
  cases d with
  | none => rfl
  | some d => simp only [put]; rw [List.getElem?_set_ne]; exact fun e => h (by rw [e])

theorem walk_slots (L : Looks P ops A) (W : Walk P φ ops ops.toList ts H ts' H' S V) : ∀ k, k ≤ ops.size →
    (S k).1.length = ts.length ∧ (∀ (j : Nat) p t, j < k → ops[j]? = some p → p.dst = some t → t < ts.length → (S k).1[t]? = some (V j)) ∧
    (∀ t, (∀ (j : Nat) p, j < k → ops[j]? = some p → p.dst ≠ some t) → (S k).1[t]? = ts[t]?)
  | 0, _ => by rw [W.start]; exact ⟨rfl, fun j p t h => by omega, fun t _ => rfl⟩
  | k + 1, hk => by
    obtain ⟨h1, h2, h3⟩ := walk_slots L W k (by omega)
    obtain ⟨o, ho⟩ : ∃ o, ops[k]? = some o := ⟨ops[k], Array.getElem?_eq_getElem (by omega)⟩
    have hs := W.slots k o (by simpa using ho)
    rw [hs]
    refine ⟨by rw [put_length, h1], fun j p t hj hp ht hlt => ?_, fun t hno => ?_⟩
    · by_cases e : j = k
      · subst e
        rw [ho] at hp; cases hp
        rw [ht]; exact put_same (by rw [h1]; exact hlt)
      · rw [put_other (L.dst j k p o t hp ho e ht)]
        exact h2 j p t (by omega) hp ht hlt
    · rw [put_other (hno k o (by omega) ho)]
      exact h3 t (fun j p hj hp => hno j p (by omega) hp)

theorem walk_still (W : Walk P φ ops ops.toList ts H ts' H' S V) {i : Nat} {o : Oper} (ho : ops[i]? = some o) (he : isE P o.op = false) : (S (i + 1)).2 = (S i).2 := by
  have h := W.op i o (by simpa using ho)
  unfold iopV at h
  rw [notE he] at h
  split at h
  · cases hq : iq P (S i).2 (env (S i).1) o.op with
    | none => simp [hq] at h
    | some v => simp [hq] at h; exact h.2.symm
  · simp at h; exact h.2.symm

/-- Between two effects the heap stays. -/
theorem walk_between (W : Walk P φ ops ops.toList ts H ts' H' S V) (a : Nat) : ∀ b, a ≤ b → b ≤ ops.size → (∀ (e : Nat) p, a ≤ e → e < b → ops[e]? = some p → isE P p.op = false) → (S b).2 = (S a).2 := by
  intro b
  induction b with
  | zero => intro h1 _ _; have : a = 0 := by omega
            subst this; rfl
  | succ b ih =>
    intro hab hb hno
    by_cases e : a = b + 1
    · rw [e]
    · obtain ⟨o, ho⟩ : ∃ o, ops[b]? = some o := ⟨ops[b], Array.getElem?_eq_getElem (by omega)⟩
      rw [walk_still W ho (hno b o (by omega) (by omega) ho)]
      exact ih (by omega) (by omega) (fun e p h1 h2 => hno e p h1 (by omega))

structure Inv (P : Program) (ops : Array Oper) (ts : List IV) (H : Heap) (S : Nat → List IV × Heap) (V : Nat → IV) (listed : Array Bool) (tsc : List IV) (Hc : Heap) : Prop where
  size : listed.size = ops.size
  closed : ∀ (i : Nat) (o : Oper), ops[i]? = some o → listed.getD i false = true → ∀ e ∈ o.after, Region.binds .any e = true → listed.getD e.on false = true
  len : tsc.length = ts.length
  cur1 : ∀ (j : Nat) (p : Oper) (t : Tmp), ops[j]? = some p → listed.getD j false = true → p.dst = some t → t < ts.length → tsc[t]? = some (V j)
  cur2 : ∀ (t : Tmp), (∀ (j : Nat) (p : Oper), ops[j]? = some p → listed.getD j false = true → p.dst ≠ some t) → tsc[t]? = ts[t]?
  heap : (∃ (e : Nat) (p : Oper), ops[e]? = some p ∧ isE P p.op = true ∧ listed.getD e false = true ∧ (∀ (e' : Nat) (p' : Oper), ops[e']? = some p' → isE P p'.op = true → listed.getD e' false = true → e' ≤ e) ∧ Hc = (S (e + 1)).2) ∨
    ((∀ (e : Nat) (p : Oper), ops[e]? = some p → isE P p.op = true → listed.getD e false = false) ∧ Hc = H)

theorem Inv.anc {listed : Array Bool} {tsc : List IV} {Hc : Heap} (L : Looks P ops A) (I : Inv P ops ts H S V listed tsc Hc) : ∀ (i : Nat) (o : Oper), ops[i]? = some o → (∀ e ∈ o.after, Region.binds .any e = true → listed.getD e.on false = true) → ∀ j, A i j = true → listed.getD j false = true := by
  intro i
  induction i using Nat.strongRecOn with
  | _ i ih =>
    intro o ho hed j hj
    obtain ⟨e, h1, h2, h3⟩ := L.anc i o ho j hj
    rcases h3 with h3 | h3
    · rw [← h3]; exact hed e h1 h2
    · have hlt := L.edge i o ho e h1 h2
      have hin : i < ops.size := (Array.getElem?_eq_some_iff.1 ho).1
      obtain ⟨p, hp⟩ : ∃ p, ops[e.on]? = some p := ⟨ops[e.on], Array.getElem?_eq_getElem (by omega)⟩
      exact ih e.on hlt p hp (I.closed e.on p hp (hed e h1 h2)) j h3

/-- What a read (i) that is due sees, wherever the drawn order has come to. -/
theorem Inv.reads {listed : Array Bool} {tsc : List IV} {Hc : Heap} (L : Looks P ops A) (W : Walk P φ ops ops.toList ts H ts' H' S V) (I : Inv P ops ts H S V listed tsc Hc)
    {i : Nat} {o : Oper} (ho : ops[i]? = some o) (hi : listed.getD i false = false) (hanc : ∀ j, A i j = true → listed.getD j false = true) (he : isE P o.op = false)
    (lo : ∀ (j : Nat) (p : Oper), ops[j]? = some p → isE P p.op = true → A i j = false → A j i = false → iq P (S j).2 (env (S i).1) o.op = some (V i) ∧ iq P (S (j + 1)).2 (env (S i).1) o.op = some (V i))
    (h0 : iq P (S i).2 (env (S i).1) o.op = some (V i)) : iq P Hc (env (S i).1) o.op = some (V i) := by
  have hin : i < ops.size := (Array.getElem?_eq_some_iff.1 ho).1
  have noA : ∀ (j : Nat) (p : Oper), ops[j]? = some p → listed.getD j false = true → A j i = false := by
    intro j p hp hj
    cases hA : A j i with
    | false => rfl
    | true =>
      have := I.anc L j p hp (I.closed j p hp hj) i hA
      rw [hi] at this; cases this
  have small : ∀ a b, A a b = true → (∃ o, ops[a]? = some o) → b < a := by
    intro a
    induction a using Nat.strongRecOn with
    | _ a ih =>
      intro b hb ⟨oa, hoa⟩
      obtain ⟨e, h1, h2, h3⟩ := L.anc a oa hoa b hb
      have hlt := L.edge a oa hoa e h1 h2
      rcases h3 with h3 | h3
      · omega
      · have hin : a < ops.size := (Array.getElem?_eq_some_iff.1 hoa).1
        have := ih e.on hlt b h3 ⟨ops[e.on], Array.getElem?_eq_getElem (by omega)⟩
        omega
  -- from a state b on (b no later than i) to the next effect ahead of i, if there is one
  have fwd : ∀ b, b ≤ i → (∀ (e : Nat) p, b ≤ e → e < i → ops[e]? = some p → isE P p.op = true → listed.getD e false = false) → iq P (S b).2 (env (S i).1) o.op = some (V i) := by
    intro b hb hno
    by_cases hex : ∃ e p, b ≤ e ∧ e < i ∧ ops[e]? = some p ∧ isE P p.op = true
    · -- the first of them
      have : ∃ e, (∃ p, b ≤ e ∧ e < i ∧ ops[e]? = some p ∧ isE P p.op = true) ∧ ∀ e', e' < e → ¬ (∃ p, b ≤ e' ∧ e' < i ∧ ops[e']? = some p ∧ isE P p.op = true) := by
        obtain ⟨e, he⟩ := hex
        induction e using Nat.strongRecOn with
        | _ e ih =>
          by_cases hs : ∃ e', e' < e ∧ ∃ p, b ≤ e' ∧ e' < i ∧ ops[e']? = some p ∧ isE P p.op = true
          · obtain ⟨e', h1, h2⟩ := hs; exact ih e' h1 h2
          · exact ⟨e, he, fun e' h1 h2 => hs ⟨e', h1, h2⟩⟩
      obtain ⟨e, ⟨p, h1, h2, h3, h4⟩, h5⟩ := this
      have hbe : (S e).2 = (S b).2 := walk_between W b e h1 (by omega) (fun e' p' g1 g2 g3 => by
        cases hE : isE P p'.op with
        | false => rfl
        | true => exact absurd ⟨p', g1, by omega, g3, hE⟩ (h5 e' g2))
      rw [← hbe]
      have hel := hno e p h1 h2 h3 h4
      refine (lo e p h3 h4 ?_ ?_).1
      · cases hA : A i e with
        | false => rfl
        | true => have := hanc e hA; rw [hel] at this; cases this
      · cases hA : A e i with
        | false => rfl
        | true => have := small e i hA ⟨p, h3⟩; omega
    · have hbe : (S i).2 = (S b).2 := walk_between W b i hb (by omega) (fun e' p' g1 g2 g3 => by
        cases hE : isE P p'.op with
        | false => rfl
        | true => exact absurd ⟨e', p', g1, g2, g3, hE⟩ hex)
      rw [← hbe]; exact h0
  rcases I.heap with ⟨e, p, h1, h2, h3, h4, rfl⟩ | ⟨h1, rfl⟩
  · by_cases hlt : e < i
    · exact fwd (e + 1) (by omega) (fun e' p' g1 g2 g3 g4 => by
        cases hl : listed.getD e' false with
        | false => rfl
        | true => have := h4 e' p' g3 g4 hl; omega)
    · have hne : e ≠ i := fun h => by subst h; rw [hi] at h3; cases h3
      refine (lo e p h1 h2 ?_ (noA e p h1 h3)).2
      cases hA : A i e with
      | false => rfl
      | true => have := small i e hA ⟨o, ho⟩; omega
  · have := fwd 0 (by omega) (fun e p _ _ g3 g4 => h1 e p g3 g4)
    rwa [W.start] at this

theorem getD_true_false {l : Array Bool} {i : Nat} (h : i < l.size) : l.getD i true = l.getD i false := by
  simp [Array.getD_eq_getD_getElem?, Array.getElem?_eq_getElem h]
theorem set_getD {l : Array Bool} {i j : Nat} (hi : i < l.size) : (l.setIfInBounds i true).getD j false = if i = j then true else l.getD j false := by
  simp only [Array.getD_eq_getD_getElem?, Array.getElem?_setIfInBounds]
  by_cases e : i = j
  · subst e; simp [hi]
  · simp [e]

/-- One operation more. -/
theorem Inv.step {listed : Array Bool} {tsc : List IV} {Hc : Heap} (L : Looks P ops A) (W : Walk P φ ops ops.toList ts H ts' H' S V) (I : Inv P ops ts H S V listed tsc Hc)
    {i : Nat} {o : Oper} (ho : ops[i]? = some o) (hi : listed.getD i false = false) (hed : ∀ e ∈ o.after, Region.binds .any e = true → listed.getD e.on false = true)
    (lo : isE P o.op = false → readsH o.op = true → iwanted ops o (S i).1 = true → ∀ (j : Nat) (p : Oper), ops[j]? = some p → isE P p.op = true → A i j = false → A j i = false → iq P (S j).2 (env (S i).1) o.op = some (V i) ∧ iq P (S (j + 1)).2 (env (S i).1) o.op = some (V i)) :
    ∃ Hn, iopV P φ ops o tsc Hc = some (V i, Hn) ∧ Inv P ops ts H S V (listed.setIfInBounds i true) (put tsc o.dst (V i)) Hn := by
  have hin : i < ops.size := (Array.getElem?_eq_some_iff.1 ho).1
  have hil : i < listed.size := by rw [I.size]; exact hin
  have hanc := I.anc L i o ho hed
  obtain ⟨s1, s2, s3⟩ := walk_slots L W i (by omega)
  have small : ∀ a b, A a b = true → (∃ o, ops[a]? = some o) → b < a := by
    intro a
    induction a using Nat.strongRecOn with
    | _ a ih =>
      intro b hb ⟨oa, hoa⟩
      obtain ⟨e, h1, h2, h3⟩ := L.anc a oa hoa b hb
      have hlt := L.edge a oa hoa e h1 h2
      rcases h3 with h3 | h3
      · omega
      · have hin : a < ops.size := (Array.getElem?_eq_some_iff.1 hoa).1
        have := ih e.on hlt b h3 ⟨ops[e.on], Array.getElem?_eq_getElem (by omega)⟩
        omega
  -- what it looks at stands as in the text's order
  have hlook : ∀ t ∈ o.looksAt ops, tsc[t]? = (S i).1[t]? := by
    intro t ht
    by_cases htl : t < ts.length
    · by_cases hw : ∃ (j : Nat) (p : Oper), ops[j]? = some p ∧ p.dst = some t
      · obtain ⟨j, p, hp, hd⟩ := hw
        obtain ⟨hne, hA⟩ := L.look i j o p t ho hp ht hd
        have uniq : ∀ (k : Nat) (q : Oper), ops[k]? = some q → q.dst = some t → k = j := by
          intro k q hq hqd
          by_cases e : k = j
          · exact e
          · exact absurd hd (L.dst k j q p t hq hp e hqd)
        rcases hA with hA | hA
        · have hlt := small i j hA ⟨o, ho⟩
          rw [I.cur1 j p t hp (hanc j hA) hd htl, s2 j p t hlt hp hd htl]
        · have hlt := small j i hA ⟨p, hp⟩
          have hjl : listed.getD j false = false := by
            cases hl : listed.getD j false with
            | false => rfl
            | true =>
              have := I.anc L j p hp (I.closed j p hp hl) i hA
              rw [hi] at this; cases this
          rw [I.cur2 t (fun k q hq hl hqd => by have := uniq k q hq hqd; subst this; rw [hjl] at hl; cases hl),
            s3 t (fun k q hk hq hqd => by have := uniq k q hq hqd; omega)]
      · rw [I.cur2 t (fun k q hq _ hqd => hw ⟨k, q, hq, hqd⟩), s3 t (fun k q _ hq hqd => hw ⟨k, q, hq, hqd⟩)]
    · have hge : ts.length ≤ t := Nat.le_of_not_lt htl
      rw [List.getElem?_eq_none (by rw [I.len]; exact hge), List.getElem?_eq_none (by rw [s1]; exact hge)]
  have hop := W.op i o (by simpa using ho)
  have hlen : (put tsc o.dst (V i)).length = ts.length := by rw [put_length, I.len]
  have hsz : (listed.setIfInBounds i true).size = ops.size := by simpa using I.size
  have hclosed : ∀ (k : Nat) (q : Oper), ops[k]? = some q → (listed.setIfInBounds i true).getD k false = true → ∀ e ∈ q.after, Region.binds .any e = true → (listed.setIfInBounds i true).getD e.on false = true := by
    intro k q hq hk e he hb
    rw [set_getD hil] at hk ⊢
    by_cases ek : i = k
    · subst ek
      rw [ho] at hq; cases hq
      by_cases e2 : i = e.on
      · rw [if_pos e2]
      · rw [if_neg e2]; exact hed e he hb
    · rw [if_neg ek] at hk
      by_cases e2 : i = e.on
      · rw [if_pos e2]
      · rw [if_neg e2]; exact I.closed k q hq hk e he hb
  have hcur1 : ∀ (j : Nat) (p : Oper) (t : Tmp), ops[j]? = some p → (listed.setIfInBounds i true).getD j false = true → p.dst = some t → t < ts.length → (put tsc o.dst (V i))[t]? = some (V j) := by
    intro j p t hp hj hd htl
    rw [set_getD hil] at hj
    by_cases e : i = j
    · subst e
      rw [ho] at hp; cases hp
      rw [hd]; exact put_same (by rw [I.len]; exact htl)
    · rw [if_neg e] at hj
      rw [put_other (L.dst j i p o t hp ho (Ne.symm e) hd)]
      exact I.cur1 j p t hp hj hd htl
  have hcur2 : ∀ (t : Tmp), (∀ (j : Nat) (p : Oper), ops[j]? = some p → (listed.setIfInBounds i true).getD j false = true → p.dst ≠ some t) → (put tsc o.dst (V i))[t]? = ts[t]? := by
    intro t hno
    rw [put_other (hno i o ho (by rw [set_getD hil, if_pos rfl]))]
    refine I.cur2 t (fun j p hp hj => hno j p hp ?_)
    rw [set_getD hil]; split <;> simp_all
  cases hE : isE P o.op with
  | true =>
    -- an effect: the heap is the one ahead of it in the text's order
    have hHc : Hc = (S i).2 := by
      rcases I.heap with ⟨e, p, h1, h2, h3, h4, rfl⟩ | ⟨h1, rfl⟩
      · have hei : e < i := by
          rcases Nat.lt_or_ge e i with h | h
          · exact h
          · have hne : e ≠ i := fun h => by subst h; rw [hi] at h3; cases h3
            have hA := L.eff i e o p ho h1 hE h2 (by omega)
            have := I.anc L e p h1 (I.closed e p h1 h3) i hA
            rw [hi] at this; cases this
        refine (walk_between W (e + 1) i (by omega) (by omega) (fun e' p' g1 g2 g3 => ?_)).symm
        cases hE' : isE P p'.op with
        | false => rfl
        | true =>
          have hA := L.eff e' i p' o g3 ho hE' hE g2
          have := h4 e' p' g3 hE' (hanc e' hA)
          omega
      · have := walk_between W 0 i (by omega) (by omega) (fun e' p' g1 g2 g3 => by
          cases hE' : isE P p'.op with
          | false => rfl
          | true =>
            have hA := L.eff e' i p' o g3 ho hE' hE g2
            have h2 := h1 e' p' g3 hE'
            rw [hanc e' hA] at h2; cases h2)
        rw [this, W.start]
    refine ⟨(S (i + 1)).2, ?_, hsz, hclosed, hlen, hcur1, hcur2, .inl ⟨i, o, ho, hE, by rw [set_getD hil, if_pos rfl], fun e' p' g1 g2 g3 => ?_, rfl⟩⟩
    · rw [iopV_congr hlook, hHc]; exact hop
    · rw [set_getD hil] at g3
      by_cases e : i = e'
      · omega
      · rw [if_neg e] at g3
        rcases Nat.lt_or_ge i e' with h | h
        · have hA := L.eff i e' o p' ho g1 hE g2 h
          have := I.anc L e' p' g1 (I.closed e' p' g1 g3) i hA
          rw [hi] at this; cases this
        · exact h
  | false =>
    refine ⟨Hc, ?_, hsz, hclosed, hlen, hcur1, hcur2, ?_⟩
    · rw [iopV_congr hlook]
      unfold iopV at hop ⊢
      rw [notE hE] at hop ⊢
      by_cases hw : iwanted ops o (S i).1 = true
      · rw [if_pos hw] at hop ⊢
        have h0 : iq P (S i).2 (env (S i).1) o.op = some (V i) := by
          cases hq : iq P (S i).2 (env (S i).1) o.op with
          | none => simp [hq] at hop
          | some v => simp [hq] at hop; rw [hop.1]
        have h1 : iq P Hc (env (S i).1) o.op = some (V i) := by
          cases hr : readsH o.op with
          | false => rw [noRead hr Hc (S i).2]; exact h0
          | true => exact I.reads L W ho hi hanc hE (lo hE hr hw) h0
        rw [h1]; rfl
      · rw [if_neg hw] at hop ⊢
        simp at hop
        rw [← hop.1]
    · rcases I.heap with ⟨e, p, h1, h2, h3, h4, h5⟩ | ⟨h1, h2⟩
      · refine .inl ⟨e, p, h1, h2, by rw [set_getD hil]; split <;> simp_all, fun e' p' g1 g2 g3 => ?_, h5⟩
        rw [set_getD hil] at g3
        by_cases ee : i = e'
        · subst ee; rw [ho] at g1; cases g1; rw [hE] at g2; cases g2
        · rw [if_neg ee] at g3; exact h4 e' p' g1 g2 g3
      · refine .inr ⟨fun e p g1 g2 => ?_, h2⟩
        rw [set_getD hil]
        by_cases ee : i = e
        · subst ee; rw [ho] at g1; cases g1; rw [hE] at g2; cases g2
        · rw [if_neg ee]; exact h1 e p g1 g2
end
end Go.Shade
