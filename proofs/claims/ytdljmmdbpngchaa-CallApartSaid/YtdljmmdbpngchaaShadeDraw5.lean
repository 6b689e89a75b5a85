/- SHADE, part 18: the region as a whole. -/
import Derived.Test.YtdljmmdbpngchaaShadeDraw4
namespace Go.Shade
open Go.RowKit
set_option linter.unusedSimpArgs false
set_option linter.unusedVariables false

def open_ (n : Nat) (listed : Array Bool) : Nat := (List.range n).countP fun i => !listed.getD i false
theorem countP_lt {l : List Nat} (hn : l.Nodup) {p q : Nat → Bool} {i : Nat} (hi : i ∈ l) (hp : p i = true) (hq : q i = false) (h : ∀ j, j ≠ i → q j = p j) : l.countP q + 1 = l.countP p := by
  induction l with
  | nil => cases hi
  | cons a l ih =>
    rw [List.nodup_cons] at hn
    by_cases e : a = i
    · subst e
      have : l.countP q = l.countP p := List.countP_congr (fun j hj => by
        have hne : j ≠ a := fun e => by subst e; exact hn.1 hj
        rw [h j hne])
      rw [List.countP_cons_of_neg (by simp [hq]), List.countP_cons_of_pos hp, this]
    · have hi' : i ∈ l := by
        cases hi with
        | head => exact absurd rfl e
        | tail _ h => exact h
      have := ih hn.2 hi'
      by_cases hpa : p a = true
      · rw [List.countP_cons_of_pos hpa, List.countP_cons_of_pos (by rw [h a e]; exact hpa)]; omega
      · rw [List.countP_cons_of_neg hpa, List.countP_cons_of_neg (by rw [h a e]; exact hpa)]; omega
theorem open_set {n : Nat} {listed : Array Bool} {i : Nat} (hs : listed.size = n) (hi : i < n) (h : listed.getD i false = false) : open_ n (listed.setIfInBounds i true) + 1 = open_ n listed := by
  refine countP_lt List.nodup_range (by simpa using hi) (by simp [h]) (by rw [set_getD (by omega)]; simp) (fun j hj => by rw [set_getD (by omega), if_neg (Ne.symm hj)])

section
variable {P : Program} {φ : Oracle} {ops : Array Oper} {A : Nat → Nat → Bool} {ts ts' : List IV} {H H' : Heap} {S : Nat → List IV × Heap} {V : Nat → IV}

theorem ready_mem {listed : Array Bool} {i : Nat} (hs : listed.size = ops.size) : i ∈ Region.ready .any ops listed ↔
    ∃ o, ops[i]? = some o ∧ listed.getD i false = false ∧ ∀ e ∈ o.after, Region.binds .any e = true → listed.getD e.on false = true := by
  unfold Region.ready
  simp only [List.mem_filter, List.mem_range, Bool.and_eq_true, Bool.not_eq_true']
  constructor
  · rintro ⟨h1, h2, h3⟩
    rw [Array.getElem?_eq_getElem h1] at h3
    rw [getD_true_false (by omega)] at h2
    refine ⟨ops[i], Array.getElem?_eq_getElem h1, h2, fun e he hb => ?_⟩
    simp only [Option.map_some, Option.getD_some, Array.all_eq_true_iff_forall_mem] at h3
    have := h3 e he
    simpa [hb] using this
  · rintro ⟨o, h1, h2, h3⟩
    have hin : i < ops.size := (Array.getElem?_eq_some_iff.1 h1).1
    refine ⟨hin, by rw [getD_true_false (by omega)]; exact h2, ?_⟩
    rw [h1]
    simp only [Option.map_some, Option.getD_some, Array.all_eq_true_iff_forall_mem]
    intro e he
    cases hb : Region.binds .any e with
    | false => rfl
    | true => simpa [hb] using h3 e he hb

theorem Inv.over {listed : Array Bool} {tsc : List IV} {Hc : Heap} (L : Looks P ops A) (W : Walk P φ ops ops.toList ts H ts' H' S V) (I : Inv P ops ts H S V listed tsc Hc) (hr : Region.ready .any ops listed = []) : tsc = ts' ∧ Hc = H' := by
  have hall : ∀ i, i < ops.size → listed.getD i false = true := by
    intro i
    induction i using Nat.strongRecOn with
    | _ i ih =>
      intro hi
      cases hl : listed.getD i false with
      | true => rfl
      | false =>
        have : i ∈ Region.ready .any ops listed := (ready_mem I.size).2 ⟨ops[i], Array.getElem?_eq_getElem hi, hl, fun e he hb => by
          have hlt := L.edge i ops[i] (Array.getElem?_eq_getElem hi) e he hb
          exact ih e.on hlt (by omega)⟩
        rw [hr] at this; cases this
  have hstop := W.stop
  rw [Array.length_toList] at hstop
  obtain ⟨s1, s2, s3⟩ := walk_slots L W ops.size (Nat.le_refl _)
  have h1 : (S ops.size).1 = ts' := by rw [hstop]
  have h2 : (S ops.size).2 = H' := by rw [hstop]
  constructor
  · rw [← h1]
    apply List.ext_getElem?
    intro t
    by_cases htl : t < ts.length
    · by_cases hw : ∃ (j : Nat) (p : Oper), ops[j]? = some p ∧ p.dst = some t
      · obtain ⟨j, p, hp, hd⟩ := hw
        have hj : j < ops.size := (Array.getElem?_eq_some_iff.1 hp).1
        rw [I.cur1 j p t hp (hall j hj) hd htl, s2 j p t hj hp hd htl]
      · rw [I.cur2 t (fun k q hq _ hqd => hw ⟨k, q, hq, hqd⟩), s3 t (fun k q _ hq hqd => hw ⟨k, q, hq, hqd⟩)]
    · rw [List.getElem?_eq_none (by rw [I.len]; omega), List.getElem?_eq_none (by rw [s1]; omega)]
  · rw [← h2]
    rcases I.heap with ⟨e, p, g1, g2, g3, g4, rfl⟩ | ⟨g1, rfl⟩
    · have hin : e < ops.size := (Array.getElem?_eq_some_iff.1 g1).1
      refine (walk_between W (e + 1) ops.size (by omega) (Nat.le_refl _) (fun e' p' k1 k2 k3 => ?_)).symm
      cases hE : isE P p'.op with
      | false => rfl
      | true => have := g4 e' p' k3 hE (hall e' k2); omega
    · have := walk_between W 0 ops.size (by omega) (Nat.le_refl _) (fun e' p' k1 k2 k3 => by
        cases hE : isE P p'.op with
        | false => rfl
        | true => have h := g1 e' p' k3 hE; rw [hall e' k2] at h; cases h)
      rw [this, W.start]

theorem wp_any {Q : Exit → Act → World → Prop} (hφ : Sound P φ) (L : Looks P ops A) (W : Walk P φ ops ops.toList ts H ts' H' S V)
    (lo : ∀ (i : Nat) (o : Oper), ops[i]? = some o → isE P o.op = false → readsH o.op = true → iwanted ops o (S i).1 = true → ∀ (j : Nat) (p : Oper), ops[j]? = some p → isE P p.op = true → A i j = false → A j i = false → iq P (S j).2 (env (S i).1) o.op = some (V i) ∧ iq P (S (j + 1)).2 (env (S i).1) o.op = some (V i))
    {B0 : Nat} {w0 : World} : ∀ (fuel : Nat) (listed : Array Bool) (tsc : List IV) (Hc : Heap) (m : Mp) (a : Act) (w : World), Inv P ops ts H S V listed tsc Hc → open_ ops.size listed ≤ fuel → Rel B0 w0 m Hc w → TR m tsc a →
      (∀ m' a' w', Ext m m' → Rel B0 w0 m' H' w' → TR m' ts' a' → Q .normal a' w') → wpAny P .any ops Q fuel listed a w := by
  have fin : ∀ (listed : Array Bool) (tsc : List IV) (Hc : Heap) (m : Mp) (a : Act) (w : World), Inv P ops ts H S V listed tsc Hc → Rel B0 w0 m Hc w → TR m tsc a →
      (∀ m' a' w', Ext m m' → Rel B0 w0 m' H' w' → TR m' ts' a' → Q .normal a' w') → Region.ready .any ops listed = [] → Q .normal a w := by
    intro listed tsc Hc m a w I hR hT hQ hr
    obtain ⟨rfl, rfl⟩ := I.over L W hr
    exact hQ m a w (Ext.refl m) hR hT
  intro fuel
  induction fuel with
  | zero =>
    intro listed tsc Hc m a w I hf hR hT hQ
    have hr : Region.ready .any ops listed = [] := by
      cases h : Region.ready .any ops listed with
      | nil => rfl
      | cons i r =>
        have hi : i ∈ Region.ready .any ops listed := by rw [h]; simp
        obtain ⟨o, h1, h2, _⟩ := (ready_mem I.size).1 hi
        have hin : i < ops.size := (Array.getElem?_eq_some_iff.1 h1).1
        have := open_set I.size hin h2
        omega
    exact ⟨hr, fin listed tsc Hc m a w I hR hT hQ hr⟩
  | succ fuel ih =>
    intro listed tsc Hc m a w I hf hR hT hQ
    refine ⟨fin listed tsc Hc m a w I hR hT hQ, fun i hi => ?_⟩
    obtain ⟨o, h1, h2, h3⟩ := (ready_mem I.size).1 hi
    have hin : i < ops.size := (Array.getElem?_eq_some_iff.1 h1).1
    obtain ⟨Hn, h4, h5⟩ := I.step L W h1 h2 h3 (fun hE hr hw => lo i o h1 hE hr hw)
    refine wp_iop hφ h1 h4 hR hT (fun m' w' u hm hR' hv => ?_)
    have := open_set I.size hin h2
    exact ih _ _ _ m' _ _ h5 (by omega) hR' ((hT.ext hm).put _ hv) (fun m2 a2 w2 g1 g2 g3 => hQ m2 a2 w2 (hm.trans g1) g2 g3)

theorem Inv.first (W : Walk P φ ops ops.toList ts H ts' H' S V) : Inv P ops ts H S V (Array.replicate ops.size false) ts H := by
  have hf : ∀ i, (Array.replicate ops.size false).getD i false = false := by
    intro i
    simp only [Array.getD_eq_getD_getElem?, Array.getElem?_replicate]
    split <;> rfl
  refine ⟨by simp, fun i o _ h => ?_, rfl, fun j p t _ h => ?_, fun t _ => rfl, .inr ⟨fun e p _ _ => hf e, rfl⟩⟩
  · rw [hf] at h; cases h
  · rw [hf] at h; cases h

theorem loose_mem {i j : Nat} {o p : Oper} (ho : ops[i]? = some o) (hp : ops[j]? = some p) (h1 : isE P o.op = false) (h2 : readsH o.op = true) (h3 : isE P p.op = true)
    (h4 : ((ancs ops.toList []).getD i 0).testBit j = false) (h5 : ((ancs ops.toList []).getD j 0).testBit i = false) : (i, j) ∈ loose P ops := by
  unfold loose
  simp only [List.mem_flatMap]
  refine ⟨(o, i), by rw [List.mem_zipIdx_iff_getElem?]; simpa using ho, ?_⟩
  simp only [h1, h2, Bool.not_true, Bool.or_self, Bool.false_eq_true, if_false, List.mem_filterMap]
  refine ⟨(p, j), by rw [List.mem_zipIdx_iff_getElem?]; simpa using hp, ?_⟩
  rw [h3, h4, h5]; rfl

theorem wp_idraw {Q : Exit → Act → World → Prop} (hφ : Sound P φ) (hm : P.follows .mixedOrders = true) {id : Nat} {B0 : Nat} {w0 w : World} {m : Mp} {a : Act}
    (e : idraw P φ ops ts H = some (ts', H')) (hR : Rel B0 w0 m H w) (hT : TR m ts a) (hQ : ∀ m' a' w', Ext m m' → Rel B0 w0 m' H' w' → TR m' ts' a' → Q .normal a' w') : (Code.region id ops true).wp P Q a w := by
  unfold idraw at e
  split at e
  · rename_i hok
    have L := okDraw_looks hok
    have key : ∀ recs, itrace P φ ops ops.toList ts H = some (recs, (ts', H')) → (∀ ij ∈ loose P ops, looseOk P ops recs ij = true) → (Code.region id ops true).wp P Q a w := by
      intro recs ht hlo
      obtain ⟨g1, W, g3⟩ := walk_of ht
      refine wp_region_any hm ?_
      refine wp_any hφ L W (fun i o ho hE hr hw j p hp hE2 hA1 hA2 => ?_) ops.size _ ts H m a _ (Inv.first W) ?_ (hR.drew _) hT hQ
      · have := hlo _ (loose_mem ho hp hE hr hE2 hA1 hA2)
        have hi : i < recs.length := by rw [g1, Array.length_toList]; exact (Array.getElem?_eq_some_iff.1 ho).1
        have hj : j < recs.length := by rw [g1, Array.length_toList]; exact (Array.getElem?_eq_some_iff.1 hp).1
        unfold looseOk at this
        simp only [ho, List.getElem?_eq_getElem hi, List.getElem?_eq_getElem hj] at this
        have s1 : (stAt recs (ts', H') i).1 = recs[i].ts := by simp [stAt, List.getElem?_eq_getElem hi]
        have s2 : vAt recs i = recs[i].v := by simp [vAt, List.getElem?_eq_getElem hi]
        have s3 : (stAt recs (ts', H') j).2 = recs[j].h := by simp [stAt, List.getElem?_eq_getElem hj]
        have s4 := g3 j recs[j] (List.getElem?_eq_getElem hj)
        rw [s1] at hw ⊢
        rw [s2, s3, ← s4]
        simp only [hw, Bool.not_true, Bool.false_or, Bool.and_eq_true] at this
        exact ⟨ivo_eq this.1, ivo_eq this.2⟩
      · unfold open_
        exact Nat.le_trans List.countP_le_length (by simp)
    split at e
    · rename_i hl
      obtain ⟨recs, ht⟩ := iops_trace e
      exact key recs ht (by rw [hl]; simp)
    · rename_i p ps hl
      obtain ⟨⟨recs, q⟩, ht, e⟩ := Option.bind_eq_some_iff.1 e
      split at e
      · rename_i hall
        cases e
        refine key recs ht (fun ij hij => ?_)
        rw [hl] at hij
        exact List.all_eq_true.1 hall ij hij
      · cases e
  · cases e
end
end Go.Shade
