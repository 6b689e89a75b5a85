/- CALL, part 6: slices of calls; whether two are the same. -/
import Derived.Test.YtdljmmdbpngchaaCallDec2
namespace Go.Shade
set_option linter.unusedVariables false
set_option linter.unusedSimpArgs false

/-- A slice of calls, wherever it lies: its calls. -/
def CS (H : Heap) (v : IV) (l : List Cl) : Prop :=
  (v = .nilSlice ∧ l = []) ∨ ∃ b o n lb ex sz, v = .slice b o n lb ex sz ∧ n ≤ lb ∧ (sz = 0 ∨ sz = 7) ∧ l.length = n ∧ ∀ i c, l[i]? = some c → lloadn H 7 (.ptr b (o + i * 7)) = some (.agg c.cells)
theorem CS.len {H : Heap} {v : IV} {l : List Cl} (h : CS H v l) : llen H .slice v = some (.int .i64 (l.length : Nat)) := by
  rcases h with ⟨rfl, rfl⟩ | ⟨b, o, n, lb, ex, sz, rfl, h1, h2, h3, h4⟩
  · rfl
  · subst h3; rfl
theorem CS.at {H : Heap} {v : IV} {l : List Cl} (h : CS H v l) {i : Nat} {c : Cl} (hi : l[i]? = some c) : ∃ b o, lix 7 v (.int .i64 (i : Nat)) = some (.ptr b o) ∧ lloadn H 7 (.ptr b o) = some (.agg c.cells) := by
  rcases h with ⟨rfl, rfl⟩ | ⟨b, o, n, lb, ex, sz, rfl, h1, h2, h3, h4⟩
  · simp at hi
  · have := (List.getElem?_eq_some_iff.1 hi).1
    refine ⟨b, o + i * 7, ?_, h4 i c hi⟩
    rw [lix_slice, if_pos (by omega)]
    simp
theorem lloadn_keep {H H' : Heap} {b o n : Nat} (h : H'[b]? = H[b]?) : lloadn H' n (.ptr b o) = lloadn H n (.ptr b o) := by rw [lloadn_ptr, lloadn_ptr, h]
theorem CS.keepB {B : Nat} {H H' : Heap} {v : IV} {l : List Cl} (h : CS H v l) (hl : low B v) (hk : ∀ i, i < B → H'[i]? = H[i]?) : CS H' v l := by
  rcases h with ⟨rfl, rfl⟩ | ⟨b, o', n, lb, ex, sz, rfl, h1, h2, h3, h4⟩
  · exact .inl ⟨rfl, rfl⟩
  · exact .inr ⟨b, o', n, lb, ex, sz, rfl, h1, h2, h3, fun i c hi => by rw [lloadn_keep (hk b (hl _ _ _ _ _ _ rfl))]; exact h4 i c hi⟩
theorem flat7_get : ∀ (l : List Cl) (i : Nat) (c : Cl), l[i]? = some c → ((flat7 l).drop (i * 7)).take 7 = c.cells
  | [], i, c, h => by simp at h
  | d :: l, 0, c, h => by
    simp at h; subst h
    simp only [flat7, List.map_cons, List.flatten_cons, Nat.zero_mul, List.drop_zero]
    rw [List.take_append_of_le_length (by simp [Cl.cells])]; rfl
  | d :: l, i + 1, c, h => by
    have := flat7_get l i c (by simpa using h)
    simp only [flat7, List.map_cons, List.flatten_cons] at this ⊢
    have e : (i + 1) * 7 = d.cells.length + i * 7 := by simp [Cl.cells]; omega
    rw [e, ← List.drop_drop, List.drop_left']
    · exact this
    · rfl
/-- One's own slice of calls. -/
theorem Buf.calls {B : Nat} {H : Heap} {v : IV} {l : List Cl} (h : Buf B 7 H v (flat7 l)) : CS H v l := by
  rcases h with ⟨rfl, e⟩ | ⟨r, n, ex, rfl, g1, g2, g3⟩
  · refine .inl ⟨rfl, ?_⟩
    have := flat7_length l
    rw [e] at this; simp at this; exact List.length_eq_zero_iff.1 (by omega)
  · rw [flat7_length] at g3
    refine .inr ⟨r, 0, n, n, ex, 7, rfl, Nat.le_refl _, .inr rfl, by omega, fun i c hi => ?_⟩
    have hil := (List.getElem?_eq_some_iff.1 hi).1
    rw [lloadn_ptr, g2, ogn_row, if_pos (by rw [flat7_length]; omega), Nat.zero_add, flat7_get l i c hi]
theorem call_eq (c d : Cl) : leq (.struct [(0, .int), (1, .int), (2, .int), (3, .int), (4, .int), (5, .str), (6, .str)]) (.agg c.cells) (.agg d.cells) = some (decide (c = d)) := by
  have : leq (.struct [(0, .int), (1, .int), (2, .int), (3, .int), (4, .int), (5, .str), (6, .str)]) (.agg c.cells) (.agg d.cells) = some ((c.op == d.op) && ((c.fd == d.fd) && ((c.fl == d.fl) && ((c.n == d.n) && ((c.off == d.off) && ((c.a == d.a) && ((c.b == d.b) && true))))))) := rfl
  rw [this]
  congr 1
  rw [Bool.eq_iff_iff]
  simp only [Bool.and_eq_true, beq_iff_eq, decide_eq_true_eq, and_true]
  obtain ⟨a1, a2, a3, a4, a5, a6, a7⟩ := c
  obtain ⟨b1, b2, b3, b4, b5, b6, b7⟩ := d
  simp
theorem same_loop {cal : FuncId → Bool} {φ : Oracle} {N : Nat} {H : Heap} {v1 v2 : IV} {l1 l2 : List Cl} (h1 : CS H v1 l1) (h2 : CS H v2 l2) (hl : l1.length = l2.length) (hb : l1.length < 4611686018427387904) : ∀ (k i n : Nat), i + k = l1.length → k < n →
    veneerlaw08SameC0S cal φ N (fun H => some (.bool true, H)) n v1 v2 (.int .i64 (l1.length : Nat)) (.int .i64 (i : Nat)) H = some (.bool (decide (l1.drop i = l2.drop i)), H) := by
  intro k
  induction k with
  | zero =>
    intro i n hi hn
    obtain ⟨n, rfl⟩ : ∃ m, n = m + 1 := ⟨n - 1, by omega⟩
    have hd : decide (((i : Nat) : Int) < (l1.length : Nat)) = false := decide_eq_false (by omega)
    rw [veneerlaw08SameC0S, lbin_lss, ob_some, hd, cnd_false, List.drop_of_length_le (by omega), List.drop_of_length_le (by omega)]
    rfl
  | succ k ih =>
    intro i n hi hn
    obtain ⟨n, rfl⟩ : ∃ m, n = m + 1 := ⟨n - 1, by omega⟩
    have hd : decide (((i : Nat) : Int) < (l1.length : Nat)) = true := decide_eq_true (by omega)
    have e1 := List.getElem?_eq_getElem (l := l1) (i := i) (by omega)
    have e2 := List.getElem?_eq_getElem (l := l2) (i := i) (by omega)
    obtain ⟨b1, o1, x1, y1⟩ := h1.at e1
    obtain ⟨b2, o2, x2, y2⟩ := h2.at e2
    have d1 : l1.drop i = l1[i] :: l1.drop (i + 1) := List.drop_eq_getElem_cons (by omega)
    have d2 : l2.drop i = l2[i] :: l2.drop (i + 1) := List.drop_eq_getElem_cons (by omega)
    have hd' : (l1.drop i = l2.drop i) ↔ (l1[i] = l2[i] ∧ l1.drop (i + 1) = l2.drop (i + 1)) := by rw [d1, d2, List.cons.injEq]
    rw [veneerlaw08SameC0S, lbin_lss, ob_some, hd, cnd_true, x1, ob_some, y1, ob_some, x2, ob_some, y2, ob_some, call_eq, leqv_t, ob_some]
    by_cases he : l1[i] = l2[i]
    · rw [decide_eq_true he, Bool.not_true, cnd_false, lbin_add, ob_some, wrap_i64 (by omega) (by omega)]
      have := ih (i + 1) n (by omega) (by omega)
      rw [show (((i : Nat) : Int) + 1) = ((i + 1 : Nat) : Int) by omega, this]
      simp only [hd', he, true_and]
    · rw [decide_eq_false he, Bool.not_false, cnd_true]
      simp only [hd', he, false_and, decide_false]
theorem same_s {cal : FuncId → Bool} {φ : Oracle} {N : Nat} {H : Heap} {v1 v2 : IV} {l1 l2 : List Cl} (h1 : CS H v1 l1) (h2 : CS H v2 l2) (hN : l1.length < N) (hb : l1.length < 4611686018427387904) :
    veneerlaw08SameS cal φ N v1 v2 H = some (.bool (decide (l1 = l2)), H) := by
  unfold veneerlaw08SameS veneerlaw08SameC5S veneerlaw08SameC4S veneerlaw08SameC3S veneerlaw08SameC2S veneerlaw08SameC1S
  rw [h1.len, ob_some, h2.len, ob_some, lbin_neq, ob_some]
  by_cases hl : l1.length = l2.length
  · have : decide (((l1.length : Nat) : Int) = (l2.length : Nat)) = true := decide_eq_true (by omega)
    rw [this, Bool.not_true, cnd_false, ob_some]
    have := same_loop (cal := cal) (φ := φ) (N := N) h1 h2 hl hb l1.length 0 N (by omega) hN
    simpa using this
  · have : decide (((l1.length : Nat) : Int) = (l2.length : Nat)) = false := decide_eq_false (by omega)
    rw [this, Bool.not_false, cnd_true]
    have : ¬ l1 = l2 := fun e => hl (by rw [e])
    rw [decide_eq_false this]
end Go.Shade
