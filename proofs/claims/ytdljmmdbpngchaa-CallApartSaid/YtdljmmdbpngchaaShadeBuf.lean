/- SHADE, part 33: what a function builds by appending; slices that came in. -/
import Derived.Test.YtdljmmdbpngchaaShadeK
namespace Go.Shade
set_option linter.unusedSimpArgs false
set_option linter.unusedVariables false

/-- A slice of one's own: nil, or a whole row at B or above. -/
def Buf (B : Nat) (s : Nat) (H : Heap) (v : IV) (cs : List IV) : Prop :=
  (v = .nilSlice ∧ cs = []) ∨ ∃ r n ex, v = .slice r 0 n n ex s ∧ B ≤ r ∧ H[r]? = some (.row cs false) ∧ cs.length = n * s
def Keep (B : Nat) (H H' : Heap) : Prop := (∀ i, i < B → H'[i]? = H[i]?) ∧ H.length ≤ H'.length
theorem Keep.refl (B : Nat) (H : Heap) : Keep B H H := ⟨fun _ _ => rfl, Nat.le_refl _⟩
theorem Keep.trans {B : Nat} {H H' H'' : Heap} (h : Keep B H H') (k : Keep B H' H'') : Keep B H H'' := ⟨fun i hi => (k.1 i hi).trans (h.1 i hi), Nat.le_trans h.2 k.2⟩
theorem Keep.mono {B C : Nat} {H H' : Heap} (h : Keep B H H') (hc : C ≤ B) : Keep C H H' := ⟨fun i hi => h.1 i (by omega), h.2⟩
theorem Keep.push {B : Nat} (H X : Heap) (h : B ≤ H.length) : Keep B H (H ++ X) := ⟨fun i hi => List.getElem?_append_left (by omega), by simp⟩
theorem Keep.set {B : Nat} (H : Heap) {r : Nat} (o : IObj) (h : B ≤ r) : Keep B H (H.set r o) := ⟨fun i hi => List.getElem?_set_ne (by omega), by simp⟩
theorem Keep.get {B : Nat} {H H' : Heap} (h : Keep B H H') {i : Nat} {o : IObj} (hi : i < B) (e : H[i]? = some o) : H'[i]? = some o := (h.1 i hi).trans e
theorem Buf.keep {B C s : Nat} {H H' : Heap} {v : IV} {cs : List IV} (h : Buf B s H v cs) (k : Keep C H H') (hc : ∀ r n m ex, v = .slice r 0 n m ex s → r < C) : Buf B s H' v cs := by
  rcases h with h | ⟨r, n, ex, rfl, h1, h2, h3⟩
  · exact .inl h
  · exact .inr ⟨r, n, ex, rfl, h1, k.get (hc r n n ex rfl) h2, h3⟩
theorem Buf.len {B s : Nat} {H : Heap} {v : IV} {cs : List IV} (h : Buf B s H v cs) (hs : 0 < s) : ∃ n, xlen v = some n ∧ cs.length = n * s ∧ llen H .slice v = some (.int .i64 n) := by
  rcases h with ⟨rfl, rfl⟩ | ⟨r, n, ex, rfl, h1, h2, h3⟩
  · exact ⟨0, rfl, by simp, rfl⟩
  · exact ⟨n, rfl, h3, rfl⟩
theorem Buf.cells {B s : Nat} {H : Heap} {v : IV} {cs : List IV} (h : Buf B s H v cs) {n : Nat} (hn : xlen v = some n) : lsl H s v n = some cs := by
  rcases h with ⟨rfl, rfl⟩ | ⟨r, k, ex, rfl, h1, h2, h3⟩
  · simp only [xlen, Option.some.injEq] at hn; subst hn; rfl
  · simp only [xlen, Option.some.injEq] at hn; subst hn
    simp only [lsl, Nat.le_refl, if_true]
    split
    · rename_i e; subst e; simp at h3; subst h3; rfl
    · simp only [irow, h2, Nat.zero_add, h3, Nat.le_refl, if_true, List.drop_zero]
      rw [List.take_of_length_le (by omega)]
theorem lfresh_eq {s b : Nat} {H : Heap} {old new : List IV} {k : Nat} (h1 : k * b ≤ 140737488355328) (h2 : (old ++ new).length = k * s) : lfresh s b H old new k = some (.val (.slice H.length 0 k k false s), H ++ [.row (old ++ new) false]) := by
  unfold lfresh; rw [if_pos ⟨h1, h2⟩]
theorem app_buf {B s b : Nat} {H : Heap} {v x : IV} {cs new : List IV} {k : Nat} (h : Buf B s H v cs) (hB : B ≤ H.length) (hs : 0 < s) (hx : xlen x = some k) (hc : lxcells H s x k = some new) (hl : new.length = k * s) (h1 : new.all IV.one = true) (hb : (cs.length + new.length) * b ≤ 140737488355328) :
    ∃ v' H', lapp H s b v x = some (v', H') ∧ Buf B s H' v' (cs ++ new) ∧ Keep B H H' := by
  unfold lapp lappend
  rw [hx]
  simp only [Option.bind_some]
  by_cases h0 : k = 0
  · subst h0
    have hnew : new = [] := by simp at hl; exact hl
    subst hnew
    simp only [if_true, List.append_nil]
    rcases h with ⟨rfl, rfl⟩ | ⟨r, n, ex, rfl, g1, g2, g3⟩
    · exact ⟨_, _, rfl, .inl ⟨rfl, rfl⟩, Keep.refl _ _⟩
    · exact ⟨_, _, rfl, .inr ⟨r, n, ex, rfl, g1, g2, g3⟩, Keep.refl _ _⟩
  · rw [if_neg h0, hc]
    simp only [Option.bind_some]
    rw [if_pos ⟨hl, h1⟩]
    rcases h with ⟨rfl, rfl⟩ | ⟨r, n, ex, rfl, g1, g2, g3⟩
    · have hk : k * b ≤ 140737488355328 := by
        refine Nat.le_trans (Nat.mul_le_mul_right b ?_) hb
        simp only [List.length_nil, Nat.zero_add, hl]
        exact Nat.le_mul_of_pos_right k hs
      simp only [lfresh_eq (old := []) hk (by simpa using hl)]
      exact ⟨_, _, rfl, .inr ⟨H.length, k, false, rfl, hB, by simp, by simpa using hl⟩, Keep.push H _ hB⟩
    · have hold : lsl H s (.slice r 0 n n ex s) n = some cs := Buf.cells (B := B) (.inr ⟨r, n, ex, rfl, g1, g2, g3⟩) rfl
      have hlen : (cs ++ new).length = (n + k) * s := by simp only [List.length_append, g3, hl, Nat.add_mul]
      have hk : (n + k) * b ≤ 140737488355328 := by
        refine Nat.le_trans (Nat.mul_le_mul_right b ?_) hb
        rw [g3, hl, ← Nat.add_mul]
        exact Nat.le_mul_of_pos_right (n + k) hs
      simp only
      rw [if_neg (by omega), hold]
      simp only [Option.bind_some]
      cases ex with
      | true =>
        simp only [if_true, lfresh_eq (H := H) hk hlen]
        exact ⟨_, _, rfl, .inr ⟨H.length, n + k, false, rfl, hB, by simp, hlen⟩, Keep.push H _ hB⟩
      | false =>
        simp only [Bool.false_eq_true, if_false, g2, if_true, lfresh_eq (H := H.set r .dead) hk hlen]
        refine ⟨_, _, rfl, .inr ⟨(H.set r .dead).length, n + k, false, rfl, by simpa using hB, by simp, hlen⟩, ?_⟩
        exact (Keep.set H .dead g1).trans (Keep.push _ _ (by simpa using hB))
def bytes (l : List UInt8) : List IV := l.map fun b => .int .u8 b.toNat
theorem bytes_length (l : List UInt8) : (bytes l).length = l.length := by simp [bytes]
theorem bytes_one (l : List UInt8) : (bytes l).all IV.one = true := by simp [bytes, IV.one]
theorem bytes_append (a b : List UInt8) : bytes (a ++ b) = bytes a ++ bytes b := by simp [bytes]
theorem ibytes_bytes : ∀ (l : List UInt8), ibytes (bytes l) = some l
  | [] => rfl
  | b :: l => by
    have := ibytes_bytes l
    simp only [bytes, List.map_cons, ibytes] at this ⊢
    rw [this]; simp
theorem bytes_inB (l : List UInt8) (n : Nat) : inBs n (bytes l) = true := by
  induction l with
  | nil => rfl
  | cons b l ih => simp only [bytes, List.map_cons, inBs, inB, Bool.true_and] at ih ⊢; exact ih
theorem lxcells_str {H : Heap} {l : List UInt8} : lxcells H 1 (.str l) l.length = some (bytes l) := by simp [lxcells, bytes]
theorem app_str {B b : Nat} {H : Heap} {v : IV} {cs : List IV} {l : List UInt8} (h : Buf B 1 H v cs) (hB : B ≤ H.length) (hb : (cs.length + l.length) * b ≤ 140737488355328) : ∃ v' H', lapp H 1 b v (.str l) = some (v', H') ∧ Buf B 1 H' v' (cs ++ bytes l) ∧ Keep B H H' :=
  app_buf h hB (by omega) rfl lxcells_str (by simp [bytes_length]) (bytes_one l) (by rw [bytes_length]; exact hb)
theorem app_own {B C s b : Nat} {H : Heap} {v x : IV} {cs new : List IV} (h : Buf B s H v cs) (hB : B ≤ H.length) (hs : 0 < s) (hx : Buf C s H x new) (h1 : new.all IV.one = true) (hb : (cs.length + new.length) * b ≤ 140737488355328) : ∃ v' H', lapp H s b v x = some (v', H') ∧ Buf B s H' v' (cs ++ new) ∧ Keep B H H' := by
  obtain ⟨n, h2, h3, _⟩ := hx.len hs
  refine app_buf h hB hs h2 ?_ h3 h1 hb
  have : lxcells H s x n = lsl H s x n := by
    rcases hx with ⟨rfl, _⟩ | ⟨r, k, ex, rfl, _⟩ <;> rfl
  rw [this]; exact hx.cells h2
end Go.Shade
