/- SHADE, part 2: loads, stores and new rows keep the relation between the ideal heap and the world. -/
import Derived.Test.YtdljmmdbpngchaaShadeBase
import Derived.WalkKit
import Derived.Laws.IdiomCopy
namespace Go.Shade
open Go.RowKit

theorem below_same {B : Nat} {w0 w w' : World} (h : Below B w0 w) (hh : w'.heap = w.heap) (ho : w'.os = w.os) (ht : w'.tape = w.tape) (hp : w'.output = w.output) : Below B w0 w' :=
  ⟨ho.trans h.os, ht.trans h.tape, hp.trans h.output, by rw [hh]; exact h.size, fun k hk => by rw [hh]; exact h.block k hk⟩

theorem Rel.same {B0 : Nat} {w0 w w' : World} {m : Mp} {H : Heap} (h : Rel B0 w0 m H w) (hh : w'.heap = w.heap) (ho : w'.os = w.os) (ht : w'.tape = w.tape) (hp : w'.output = w.output) : Rel B0 w0 m H w' :=
  ⟨below_same h.below hh ho ht hp, by rw [hh]; exact h.base, h.dom, fun i o hi => (h.good i o hi).move (Ext.refl _) (fun l _ _ => by rw [hh]), h.inj⟩

theorem Rel.drew {B0 : Nat} {w0 w : World} {m : Mp} {H : Heap} (h : Rel B0 w0 m H w) (n : Nat) : Rel B0 w0 m H { w with drawn := n } := h.same rfl rfl rfl rfl

/-- A world that has new blocks at most. -/
theorem Rel.under {B0 : Nat} {w0 w w' : World} {m : Mp} {H : Heap} (h : Rel B0 w0 m H w) (hb : Below w.heap.size w w') : Rel B0 w0 m H w' := by
  refine ⟨h.below.trans (hb.mono h.base), Nat.le_trans h.base hb.size, h.dom, fun i o hi => ?_, h.inj⟩
  exact (h.good i o hi).move (Ext.refl _) (fun k hk hlt => hb.block _ hlt)

theorem cell_of {w : World} {cb : Nat} {C : Array Value} {e : TypeId} {fr : Nat × Nat} (h : w.heap[cb]? = some (.cells C e fr)) (o : Nat) : w.cell? ⟨cb, o, none⟩ = C[o]? := by
  simp [World.cell?, h]
theorem frozen_of {w : World} {cb : Nat} {C : Array Value} {e : TypeId} {fr : Nat × Nat} (h : w.heap[cb]? = some (.cells C e fr)) (o : Nat) : w.frozen? ⟨cb, o, none⟩ = decide (fr.1 ≤ o ∧ o < fr.2) := by
  obtain ⟨lo, hi⟩ := fr
  simp [World.frozen?, h]
theorem add_none (b o i : Nat) : (⟨b, o, none⟩ : Addr).add i = ⟨b, o + i, none⟩ := by
  unfold Addr.add; split <;> simp_all
theorem vone_one (v : Value) : v.oneCell' = vone v := by cases v <;> rfl

/-! ### reading -/
theorem Rel.row {B0 : Nat} {w0 w : World} {m : Mp} {H : Heap} (h : Rel B0 w0 m H w) {i : Nat} {cs : List IV} {ro : Bool} (hi : H[i]? = some (.row cs ro)) :
    ∃ l, m i = some l ∧ ∀ j v, cs[j]? = some v → v.one = true ∧ ∃ u, w.cell? ⟨l.cb, l.co + j, none⟩ = some u ∧ VR m v u := by
  have hg := h.good i _ hi
  cases ro with
  | false =>
    obtain ⟨l, C, e, fr, h1, h2, _, _, _, _, h7⟩ := hg
    exact ⟨l, h1, fun j v hj => by obtain ⟨h8, u, h9, h10⟩ := h7 j v hj; exact ⟨h8, u, by rw [cell_of h2]; exact h9, h10⟩⟩
  | true =>
    obtain ⟨l, h1, hg⟩ := hg
    refine ⟨l, h1, fun j v hj => ?_⟩
    obtain ⟨C, e, fr, h2, _, h7⟩ := hg (by intro e; subst e; simp at hj)
    obtain ⟨h8, u, h9, h10⟩ := h7 j v hj
    exact ⟨h8, u, by rw [cell_of h2]; exact h9, h10⟩

/-- n cells from place o on. -/
theorem Rel.cells {B0 : Nat} {w0 w : World} {m : Mp} {H : Heap} (h : Rel B0 w0 m H w) {i : Nat} {cs : List IV} {ro : Bool} (hi : H[i]? = some (.row cs ro)) {l : Loc} (hl : m i = some l) (o n : Nat) (hn : o + n ≤ cs.length) :
    ∃ us : List Value, us.length = n ∧ VRs m ((cs.drop o).take n) us ∧ ∀ j v, us[j]? = some v → w.cell? ((⟨l.cb, l.co + o, none⟩ : Addr).add j) = some v := by
  obtain ⟨l', hl', hc⟩ := h.row hi
  rw [hl] at hl'; cases hl'
  have key : ∀ n, o + n ≤ cs.length → ∃ us : List Value, us.length = n ∧ VRs m ((cs.drop o).take n) us ∧ ∀ j v, us[j]? = some v → w.cell? ((⟨l.cb, l.co + o, none⟩ : Addr).add j) = some v := by
    intro n
    induction n with
    | zero => intro _; exact ⟨[], rfl, by simp [VRs], by simp⟩
    | succ n ih =>
      intro hn
      obtain ⟨us, h1, h2, h3⟩ := ih (by omega)
      have hlt : o + n < cs.length := by omega
      obtain ⟨_, u, h4, h5⟩ := hc (o + n) cs[o + n] (List.getElem?_eq_getElem hlt)
      refine ⟨us ++ [u], by simp [h1], ?_, fun j v hj => ?_⟩
      · have he : (cs.drop o).take (n + 1) = (cs.drop o).take n ++ [cs[o + n]] := by
          rw [List.take_succ_eq_append_getElem (by simp; omega)]; simp
        rw [he]; exact h2.append (VRs.cons h5 (VRs.nil m))
      · rw [add_none]
        rw [List.getElem?_append] at hj
        split at hj
        · have := h3 j v hj; rwa [add_none] at this
        · rename_i hge
          have hj0 : j - us.length = 0 := by
            rcases Nat.eq_zero_or_pos (j - us.length) with h | h
            · exact h
            · rw [List.getElem?_eq_none (by simp; omega)] at hj; exact absurd hj (by simp)
          rw [hj0] at hj; simp at hj; subst hj
          have : j = n := by omega
          subst this
          rw [Nat.add_assoc]; exact h4
  exact key n hn

/-! ### storing -/
theorem setCells_far {g : Nat} : ∀ (vs : List Value) (o : Nat) (w : World) (k : Nat), k ≠ g → (w.setCells g o vs).heap[k]? = w.heap[k]?
  | [], _, _, _, _ => rfl
  | v :: r, o, w, k, h => by rw [World.setCells, setCells_far r _ _ k h]; exact Below.heap_setCell w _ v k h
theorem setCells_same (g : Nat) : ∀ (vs : List Value) (o : Nat) (w : World), (w.setCells g o vs).os = w.os ∧ (w.setCells g o vs).tape = w.tape ∧ (w.setCells g o vs).output = w.output ∧ (w.setCells g o vs).heap.size = w.heap.size ∧ (w.setCells g o vs).drawn = w.drawn
  | [], _, _ => ⟨rfl, rfl, rfl, rfl, rfl⟩
  | v :: r, o, w => by
    rw [World.setCells]
    obtain ⟨h1, h2, h3, h4, h5⟩ := setCells_same g r (o + 1) (w.setCell ⟨g, o, none⟩ v)
    exact ⟨h1, h2, h3, by rw [h4]; simp [World.setCell], h5⟩
theorem setCell_block {w : World} {g : Nat} {C : Array Value} {e : TypeId} {fr : Nat × Nat} (h : w.heap[g]? = some (.cells C e fr)) (o : Nat) (v : Value) : (w.setCell ⟨g, o, none⟩ v).heap[g]? = some (.cells (C.setIfInBounds o v) e fr) := by
  simp [World.setCell, Array.getElem?_modify, h]
/-- What a block holds behind a store of many cells. -/
theorem setCells_block {g : Nat} {e : TypeId} {fr : Nat × Nat} : ∀ (vs : List Value) (o : Nat) (w : World) (C : Array Value), w.heap[g]? = some (.cells C e fr) → o + vs.length ≤ C.size →
    ∃ C', (w.setCells g o vs).heap[g]? = some (.cells C' e fr) ∧ C'.size = C.size ∧ ∀ j, C'[j]? = if o ≤ j ∧ j < o + vs.length then vs[j - o]? else C[j]?
  | [], o, w, C, h, _ => ⟨C, h, rfl, fun j => by rw [if_neg (by simp only [List.length_nil]; omega)]⟩
  | v :: r, o, w, C, h, hn => by
    simp only [List.length_cons] at hn
    obtain ⟨C', h1, h2, h3⟩ := setCells_block r (o + 1) (w.setCell ⟨g, o, none⟩ v) _ (setCell_block h o v) (by simp; omega)
    refine ⟨C', by rw [World.setCells]; exact h1, by rw [h2]; simp, fun j => ?_⟩
    rw [h3, Array.getElem?_setIfInBounds]
    by_cases e1 : j = o
    · subst e1; simp only [List.length_cons]; rw [if_neg (by omega), if_pos trivial, if_pos (by omega), if_pos (by omega)]; simp
    · by_cases e2 : o + 1 ≤ j ∧ j < o + 1 + r.length
      · rw [if_pos e2, if_pos (by simp; omega)]
        obtain ⟨k, rfl⟩ : ∃ k, j = o + 1 + k := ⟨j - (o + 1), by omega⟩
        have : o + 1 + k - o = k + 1 := by omega
        rw [this, show o + 1 + k - (o + 1) = k by omega]; simp
      · rw [if_neg e2, if_neg (Ne.symm e1), if_neg (by simp; omega)]

/-- The cells from place o on are replaced. -/
def putAt (cs : List IV) (o : Nat) : List IV → List IV
  | [v] => cs.set o v
  | vs => cs.take o ++ vs ++ cs.drop (o + vs.length)
theorem putAt_length {cs vs : List IV} {o : Nat} (h : o + vs.length ≤ cs.length) : (putAt cs o vs).length = cs.length := by
  unfold putAt; split
  · simp
  · simp; omega
theorem putAt_get {cs vs : List IV} {o : Nat} (h : o + vs.length ≤ cs.length) (j : Nat) : (putAt cs o vs)[j]? = if o ≤ j ∧ j < o + vs.length then vs[j - o]? else cs[j]? := by
  unfold putAt; split
  · rename_i v
    simp only [List.length_singleton] at h ⊢
    rw [List.getElem?_set]
    by_cases e : o = j
    · subst e; simp; omega
    · rw [if_neg e, if_neg (by omega)]
  · rw [List.append_assoc, List.getElem?_append, List.length_take]
    by_cases e1 : j < o
    · rw [if_pos (by omega), if_neg (by omega), List.getElem?_take, if_pos e1]
    · rw [if_neg (by omega), Nat.min_eq_left (by omega), List.getElem?_append]
      by_cases e2 : j - o < vs.length
      · rw [if_pos e2, if_pos (by omega)]
      · rw [if_neg e2, if_neg (by omega), List.getElem?_drop]
        congr 1; omega

/-- A store into a row of one's own. -/
theorem Rel.put {B0 : Nat} {w0 w : World} {m : Mp} {H : Heap} (h : Rel B0 w0 m H w) {i : Nat} {cs : List IV} (hi : H[i]? = some (.row cs false)) {l : Loc} (hl : m i = some l) {o : Nat} {xs : List IV} {vs : List Value}
    (hx : VRs m xs vs) (h1 : xs.all IV.one = true) (hn : o + xs.length ≤ cs.length) :
    (∀ (P : Program), (storeCells ⟨l.cb, l.co + o, none⟩ vs).run P w = .ok () (w.setCells l.cb (l.co + o) vs)) ∧
    Rel B0 w0 m (H.set i (.row (putAt cs o xs) false)) (w.setCells l.cb (l.co + o) vs) := by
  have hg := h.good i _ hi
  obtain ⟨l', C, e, fr, g1, g2, g3, g4, g5, g6, g7⟩ := hg
  rw [hl] at g1; cases g1
  have hlen := hx.length
  have hone : ∀ v ∈ vs, v.oneCell' = true := by
    intro v hv
    obtain ⟨j, hj⟩ := List.mem_iff_getElem?.1 hv
    have hjl : j < xs.length := by rw [hlen]; exact (List.getElem?_eq_some_iff.1 hj).1
    obtain ⟨u, hu, hr⟩ := hx.get (List.getElem?_eq_getElem hjl)
    rw [hj] at hu; cases hu
    rw [vone_one]; exact hr.one (List.all_eq_true.1 h1 _ (List.getElem_mem hjl))
  refine ⟨fun P => ?_, ?_⟩
  · have := run_storeCells_cells (P := P) l.cb (l.co + o) vs 0 w (fun j hj => by
      rw [cell_of g2, Array.getElem?_eq_getElem (by omega)]; rfl) (fun j hj => by
      rw [frozen_of g2]; exact decide_eq_false (g6 _ (by omega))) hone
    simpa using this
  · obtain ⟨s1, s2, s3, s4, s5⟩ := setCells_same l.cb vs (l.co + o) w
    obtain ⟨C', c1, c2, c3⟩ := setCells_block vs (l.co + o) w C g2 (by omega)
    refine ⟨⟨s1.trans h.below.os, s2.trans h.below.tape, s3.trans h.below.output, by rw [s4]; exact h.below.size, fun k hk => ?_⟩, by rw [s4]; exact h.base, fun k q hq => by simpa using h.dom k q hq, fun k q hk => ?_, fun a b p q la lb ha hb hp hq hne hma hmb => ?_⟩
    · rw [setCells_far _ _ _ _ (by omega)]; exact h.below.block k hk
    · rw [List.getElem?_set] at hk
      by_cases e : i = k
      · subst e
        have hlt : i < H.length := (List.getElem?_eq_some_iff.1 hi).1
        simp [hlt] at hk; subst hk
        refine ⟨l, C', e, fr, hl, c1, c2.trans g3, by rw [putAt_length hn]; exact g4, g5, g6, fun j v hj => ?_⟩
        rw [putAt_get hn] at hj
        rw [c3]
        by_cases e3 : o ≤ j ∧ j < o + xs.length
        · rw [if_pos e3] at hj
          rw [if_pos (by omega)]
          obtain ⟨u, hu, hr⟩ := hx.get hj
          refine ⟨List.all_eq_true.1 h1 _ (List.mem_of_getElem? hj), u, ?_, hr⟩
          rw [show l.co + j - (l.co + o) = j - o by omega]; exact hu
        · rw [if_neg e3] at hj
          rw [if_neg (by omega)]
          exact g7 j v hj
      · rw [if_neg e] at hk
        have hgk := h.good k q hk
        by_cases hd : q.held = true
        · refine hgk.move (Ext.refl _) (fun lk hlk _ => setCells_far _ _ _ _ ?_)
          exact h.inj k i q _ lk l hk hi hd rfl (Ne.symm e) hlk hl
        · cases q with
          | dead => trivial
          | map es c => simp [IObj.held] at hd
          | row cs' ro =>
            cases ro with
            | false => simp [IObj.held] at hd
            | true =>
              refine hgk.ro_move (Ext.refl _) (fun lk hlk hlt _ => setCells_far _ _ _ _ ?_)
              omega
    · have held_of : ∀ {a : Nat} {p : IObj}, (H.set i (IObj.row (putAt cs o xs) false))[a]? = some p → ∃ p', H[a]? = some p' ∧ (p.held = true → p'.held = true) := by
        intro a p ha
        rw [List.getElem?_set] at ha
        by_cases e : i = a
        · subst e; exact ⟨_, hi, fun _ => rfl⟩
        · rw [if_neg e] at ha; exact ⟨p, ha, id⟩
      obtain ⟨p', ha', hp'⟩ := held_of ha
      obtain ⟨q', hb', hq'⟩ := held_of hb
      exact h.inj a b p' q' la lb ha' hb' (hp' hp) (hq' hq) hne hma hmb

/-! ### new rows -/
def grow (m : Mp) (n : Nat) (l : Loc) : Mp := fun i => if i = n then some l else m i
theorem grow_ext {B0 : Nat} {w0 w : World} {m : Mp} {H : Heap} (h : Rel B0 w0 m H w) (l : Loc) : Ext m (grow m H.length l) := by
  intro i k hi
  have := h.dom i k hi
  simp [grow, show i ≠ H.length by omega, hi]
theorem grow_at (m : Mp) (n : Nat) (l : Loc) : grow m n l n = some l := by simp [grow]

theorem Rel.push {B0 : Nat} {w0 w : World} {m : Mp} {H : Heap} (h : Rel B0 w0 m H w) (o : IObj) (ob : Obj) (n : Nat)
    (hg : Good B0 (grow m H.length ⟨w.heap.size, 0, n⟩) (w.alloc ob) H.length o) :
    Rel B0 w0 (grow m H.length ⟨w.heap.size, 0, n⟩) (H ++ [o]) (w.alloc ob) := by
  have hext := grow_ext h ⟨w.heap.size, 0, n⟩
  have hold : ∀ i p, H[i]? = some p → i ≠ H.length := fun i p hi => by have := (List.getElem?_eq_some_iff.1 hi).1; omega
  refine ⟨h.below.alloc h.base ob, by have := h.base; show B0 ≤ (w.heap.push ob).size; rw [Array.size_push]; omega, fun i l hi => ?_, fun i p hi => ?_, fun i j p q li lj hi hj hp hq hne hmi hmj => ?_⟩
  · simp only [grow] at hi
    split at hi
    · simp; omega
    · have := h.dom i l hi; simp; omega
  · rw [List.getElem?_append] at hi
    split at hi
    · rename_i hlt
      exact (h.good i p hi).move hext (fun l hl hlt' => Below.heap_alloc w ob _ hlt')
    · rename_i hge
      have hz : i - H.length = 0 := by
        rcases Nat.eq_zero_or_pos (i - H.length) with e | e
        · exact e
        · rw [List.getElem?_eq_none (by simp; omega)] at hi; exact absurd hi (by simp)
      rw [hz] at hi; simp at hi; subst hi
      have : i = H.length := by omega
      subst this; exact hg
  · have lt_of : ∀ {i : Nat} {p : IObj} {li : Loc}, i ≠ H.length → (H ++ [o])[i]? = some p → p.held = true → grow m H.length ⟨w.heap.size, 0, n⟩ i = some li → H[i]? = some p ∧ m i = some li ∧ li.cb < w.heap.size := by
      intro i p li hne hi hp hmi
      rw [List.getElem?_append] at hi
      split at hi
      · simp only [grow, if_neg hne] at hmi
        obtain ⟨l', h1, _, h3⟩ := (h.good i p hi).held_ge hp
        rw [hmi] at h1; cases h1
        exact ⟨hi, hmi, h3⟩
      · rw [List.getElem?_eq_none (by simp; omega)] at hi; exact absurd hi (by simp)
    by_cases ei : i = H.length
    · subst ei
      obtain ⟨_, _, hlt⟩ := lt_of (Ne.symm hne) hj hq hmj
      simp only [grow, if_true] at hmi; cases hmi
      simp; omega
    · by_cases ej : j = H.length
      · subst ej
        obtain ⟨_, _, hlt⟩ := lt_of ei hi hp hmi
        simp only [grow, if_true] at hmj; cases hmj
        simp; omega
      · obtain ⟨a1, a2, _⟩ := lt_of ei hi hp hmi
        obtain ⟨b1, b2, _⟩ := lt_of ej hj hq hmj
        exact h.inj i j p q li lj a1 b1 hp hq hne a2 b2

end Go.Shade
