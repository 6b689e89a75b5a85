/- SHADE, part 1: ideal values, the relation between ideal and true values, and between an ideal heap and a world. -/
import Derived.Calls
import Derived.Below
import Derived.LoopN
import Derived.Orders
namespace Go.Shade
open Go.RowKit

/-- An ideal value: as the model's, but addresses are of an ideal heap, texts are lists, a slice tells what is known of its capacity. -/
inductive IV where
  | bool (b : Bool)
  | int (k : IntKind) (n : Int)
  | str (s : List UInt8)
  | ptr (b o : Nat)
  | nilPtr
  | slice (b o n lb : Nat) (ex : Bool) (sz : Nat)
  | nilSlice
  | map (r : Nat)
  | nilMap
  | func (f : Fn) (first captured : List IV)
  | nilFunc
  | iface (t : TypeId) (v : IV)
  | nilIface
  | agg (cs : List IV)
  | tuple (vs : List IV)
  deriving Inhabited

/-- Where an ideal row lies: the block, the place of its first cell, the block's size. -/
structure Loc where
  cb : Nat
  co : Nat
  cs : Nat

abbrev Mp := Nat → Option Loc
def Ext (m m' : Mp) : Prop := ∀ i l, m i = some l → m' i = some l
theorem Ext.refl (m : Mp) : Ext m m := fun _ _ h => h
theorem Ext.trans {a b c : Mp} (h : Ext a b) (k : Ext b c) : Ext a c := fun i l e => k i l (h i l e)

mutual
def VR (m : Mp) : IV → Value → Prop
  | .bool b, v => v = .bool b
  | .int k n, v => v = .int k n
  | .str s, v => v = .string ⟨s.toArray⟩
  | .ptr b o, v => ∃ l, m b = some l ∧ v = .pointer (some ⟨l.cb, l.co + o, none⟩)
  | .nilPtr, v => v = .pointer none
  | .slice b o n lb ex sz, v => ∃ l o' c sp, m b = some l ∧ v = .slice (some ⟨l.cb, o', sp⟩) n c ∧ n ≤ lb ∧ lb ≤ c ∧ (ex = true → c = lb) ∧ (0 < lb → o' = l.co + o ∧ sp = none) ∧ (0 < sz → o' + c * sz ≤ l.cs ∧ sp = none)
  | .nilSlice, v => v = .slice none 0 0
  | .map r, v => ∃ l, m r = some l ∧ v = .map (some l.cb)
  | .nilMap, v => v = .map none
  | .func f a b, v => ∃ a' b', v = .func f a' b' ∧ VRs m a a'.toList ∧ VRs m b b'.toList
  | .nilFunc, v => v = .nilFunc
  | .iface t x, v => ∃ y, v = .iface t y ∧ VR m x y
  | .nilIface, v => v = .nilIface
  | .agg l, v => ∃ a, v = .agg a ∧ VRs m l a.toList
  | .tuple l, v => ∃ a, v = .tuple a ∧ VRs m l a.toList
def VRs (m : Mp) : List IV → List Value → Prop
  | [], vs => vs = []
  | x :: xs, vs => ∃ v vs', vs = v :: vs' ∧ VR m x v ∧ VRs m xs vs'
end

theorem VR_int (m : Mp) (k : IntKind) (n : Int) : VR m (.int k n) (.int k n) := by simp only [VR]
theorem VR_bool (m : Mp) (b : Bool) : VR m (.bool b) (.bool b) := by simp only [VR]
theorem VR_str (m : Mp) (s : List UInt8) : VR m (.str s) (.string ⟨s.toArray⟩) := by simp only [VR]

mutual
theorem VR.ext {m m' : Mp} (hm : Ext m m') : ∀ (x : IV) (v : Value), VR m x v → VR m' x v
  | .bool b, v, h => by simpa [VR] using h
  | .int k n, v, h => by simpa [VR] using h
  | .str s, v, h => by simpa [VR] using h
  | .ptr b o, v, h => by
    obtain ⟨l, h1, h2⟩ := by simpa only [VR] using h
    simp only [VR]; exact ⟨l, hm _ _ h1, h2⟩
  | .nilPtr, v, h => by simpa [VR] using h
  | .slice b o n lb ex sz, v, h => by
    obtain ⟨l, o', c, sp, h1, h2⟩ := by simpa only [VR] using h
    simp only [VR]; exact ⟨l, o', c, sp, hm _ _ h1, h2⟩
  | .nilSlice, v, h => by simpa [VR] using h
  | .map r, v, h => by
    obtain ⟨l, h1, h2⟩ := by simpa only [VR] using h
    simp only [VR]; exact ⟨l, hm _ _ h1, h2⟩
  | .nilMap, v, h => by simpa [VR] using h
  | .func f a b, v, h => by
    obtain ⟨a', b', h1, h2, h3⟩ := by simpa only [VR] using h
    simp only [VR]; exact ⟨a', b', h1, VRs.ext hm a _ h2, VRs.ext hm b _ h3⟩
  | .nilFunc, v, h => by simpa [VR] using h
  | .iface t x, v, h => by
    obtain ⟨y, h1, h2⟩ := by simpa only [VR] using h
    simp only [VR]; exact ⟨y, h1, VR.ext hm x _ h2⟩
  | .nilIface, v, h => by simpa [VR] using h
  | .agg l, v, h => by
    obtain ⟨a, h1, h2⟩ := by simpa only [VR] using h
    simp only [VR]; exact ⟨a, h1, VRs.ext hm l _ h2⟩
  | .tuple l, v, h => by
    obtain ⟨a, h1, h2⟩ := by simpa only [VR] using h
    simp only [VR]; exact ⟨a, h1, VRs.ext hm l _ h2⟩
theorem VRs.ext {m m' : Mp} (hm : Ext m m') : ∀ (xs : List IV) (vs : List Value), VRs m xs vs → VRs m' xs vs
  | [], vs, h => by simpa [VRs] using h
  | x :: xs, vs, h => by
    obtain ⟨v, vs', h1, h2, h3⟩ := by simpa only [VRs] using h
    simp only [VRs]; exact ⟨v, vs', h1, VR.ext hm x _ h2, VRs.ext hm xs _ h3⟩
end

theorem VRs_iff {m : Mp} : ∀ (xs : List IV) (vs : List Value), VRs m xs vs ↔ (xs.length = vs.length ∧ ∀ (i : Nat) (x : IV), xs[i]? = some x → ∃ v, vs[i]? = some v ∧ VR m x v)
  | [], vs => by
    simp only [VRs]
    constructor
    · rintro rfl; simp
    · rintro ⟨h, _⟩; exact (List.length_eq_zero_iff.1 h.symm)
  | x :: xs, vs => by
    simp only [VRs]
    constructor
    · rintro ⟨v, vs', rfl, h2, h3⟩
      obtain ⟨h4, h5⟩ := (VRs_iff xs vs').1 h3
      refine ⟨by simp [h4], fun i y hy => ?_⟩
      cases i with
      | zero => simp at hy; subst hy; exact ⟨v, by simp, h2⟩
      | succ i => simpa using h5 i y (by simpa using hy)
    · rintro ⟨h4, h5⟩
      cases vs with
      | nil => simp at h4
      | cons v vs' =>
        obtain ⟨u, hu, h2⟩ := h5 0 x (by simp)
        simp at hu; subst hu
        exact ⟨v, vs', rfl, h2, (VRs_iff xs vs').2 ⟨by simpa using h4, fun i y hy => by simpa using h5 (i + 1) y (by simpa using hy)⟩⟩

theorem VRs.length {m : Mp} {xs : List IV} {vs : List Value} (h : VRs m xs vs) : xs.length = vs.length := ((VRs_iff _ _).1 h).1
theorem VRs.get {m : Mp} {xs : List IV} {vs : List Value} (h : VRs m xs vs) {i : Nat} {x : IV} (hx : xs[i]? = some x) : ∃ v, vs[i]? = some v ∧ VR m x v := ((VRs_iff _ _).1 h).2 i x hx
theorem VRs.append {m : Mp} : ∀ {xs : List IV} {vs : List Value} {ys : List IV} {us : List Value}, VRs m xs vs → VRs m ys us → VRs m (xs ++ ys) (vs ++ us)
  | [], vs, ys, us, h, k => by simp only [VRs] at h; subst h; simpa using k
  | x :: xs, vs, ys, us, h, k => by
    simp only [VRs] at h
    obtain ⟨v, vs', rfl, h2, h3⟩ := h
    simp only [List.cons_append, VRs]
    exact ⟨v, vs' ++ us, rfl, h2, h3.append k⟩
theorem VRs.set {m : Mp} {xs : List IV} {vs : List Value} (h : VRs m xs vs) (i : Nat) {x : IV} {v : Value} (hx : VR m x v) : VRs m (xs.set i x) (vs.set i v) := by
  rw [VRs_iff] at *
  refine ⟨by simp [h.1], fun j y hy => ?_⟩
  rw [List.getElem?_set] at hy ⊢
  by_cases e : i = j
  · subst e
    simp only [if_true] at hy ⊢
    split at hy
    · rename_i hlt
      simp only [Option.some.injEq] at hy; subst hy
      exact ⟨v, by simp [← h.1, hlt], hx⟩
    · exact absurd hy (by simp)
  · simp only [e, if_false] at hy ⊢
    exact h.2 j y hy
theorem VRs.take {m : Mp} {xs : List IV} {vs : List Value} (h : VRs m xs vs) (n : Nat) : VRs m (xs.take n) (vs.take n) := by
  rw [VRs_iff] at *
  refine ⟨by simp [h.1], fun j y hy => ?_⟩
  rw [List.getElem?_take] at hy ⊢
  split at hy
  · rename_i hlt; simpa [hlt] using h.2 j y hy
  · exact absurd hy (by simp)
theorem VRs.drop {m : Mp} {xs : List IV} {vs : List Value} (h : VRs m xs vs) (n : Nat) : VRs m (xs.drop n) (vs.drop n) := by
  rw [VRs_iff] at *
  refine ⟨by simp [h.1], fun j y hy => ?_⟩
  rw [List.getElem?_drop] at hy ⊢
  exact h.2 _ y hy
theorem VRs.nil (m : Mp) : VRs m [] [] := by simp [VRs]
theorem VRs.cons {m : Mp} {x : IV} {v : Value} {xs : List IV} {vs : List Value} (h : VR m x v) (k : VRs m xs vs) : VRs m (x :: xs) (v :: vs) := by
  simp only [VRs]; exact ⟨v, vs, rfl, h, k⟩
theorem VRs.replicate {m : Mp} {x : IV} {v : Value} (h : VR m x v) : ∀ n, VRs m (List.replicate n x) (List.replicate n v)
  | 0 => VRs.nil m
  | n + 1 => by simp only [List.replicate_succ]; exact VRs.cons h (VRs.replicate h n)

/-- Of one cell: no struct, no tuple. -/
def IV.one : IV → Bool
  | .agg _ | .tuple _ => false
  | _ => true
def vone : Value → Bool
  | .agg _ | .tuple _ => false
  | _ => true
def IV.cells : IV → List IV
  | .agg cs => cs
  | v => [v]
theorem VR.one {m : Mp} {x : IV} {v : Value} (h : VR m x v) (hx : x.one = true) : vone v = true := by
  cases x <;> simp only [VR] at h <;> first
    | (subst h; rfl)
    | (simp [IV.one] at hx; done)
    | (obtain ⟨l, h1, h2⟩ := h; subst h2; rfl)
    | (obtain ⟨l, o, c, sp, h1, h2, _⟩ := h; subst h2; rfl)
    | (obtain ⟨a, b, h1, _⟩ := h; subst h1; rfl)
    | (obtain ⟨y, h1, _⟩ := h; subst h1; rfl)
theorem VR.cells {m : Mp} {x : IV} {v : Value} (h : VR m x v) (hx : ∀ l, x ≠ .tuple l) : VRs m x.cells v.cells.toList := by
  cases x <;> simp only [VR] at h <;> first
    | (subst h; simp [IV.cells, Value.cells, VRs, VR]; done)
    | (obtain ⟨a, rfl, ha⟩ := h; simpa [IV.cells, Value.cells] using ha)
    | exact absurd rfl (hx _)
    | skip
  all_goals
    first
    | (obtain ⟨l, h1, rfl⟩ := h; simp only [IV.cells, Value.cells]; exact VRs.cons (by simp only [VR]; exact ⟨l, h1, rfl⟩) (VRs.nil m))
    | (obtain ⟨l, o', c, sp, h1, rfl, h2⟩ := h; simp only [IV.cells, Value.cells]; exact VRs.cons (by simp only [VR]; exact ⟨l, o', c, sp, h1, rfl, h2⟩) (VRs.nil m))
    | (obtain ⟨a', b', rfl, h2⟩ := h; simp only [IV.cells, Value.cells]; exact VRs.cons (by simp only [VR]; exact ⟨a', b', rfl, h2⟩) (VRs.nil m))
    | (obtain ⟨y, rfl, h2⟩ := h; simp only [IV.cells, Value.cells]; exact VRs.cons (by simp only [VR]; exact ⟨y, rfl, h2⟩) (VRs.nil m))

/-- What an ideal address stands for. ro: memory that was there before. -/
inductive IObj where
  | row (cs : List IV) (ro : Bool)
  | map (es : List (IV × IV × Nat)) (clock : Nat)
  | dead

abbrev Heap := List IObj

def ERel (m : Mp) (x : IV × IV × Nat) (e : MapEntry) : Prop := VR m x.1 e.key ∧ VR m x.2.1 e.val ∧ e.born = x.2.2

def Good (B0 : Nat) (m : Mp) (w : World) (i : Nat) : IObj → Prop
  | .row cs false => ∃ l C e fr, m i = some l ∧ w.heap[l.cb]? = some (.cells C e fr) ∧ C.size = l.cs ∧ l.co + cs.length ≤ l.cs ∧ B0 ≤ l.cb ∧ (∀ j, j < l.cs → ¬ (fr.1 ≤ j ∧ j < fr.2)) ∧
      ∀ j v, cs[j]? = some v → v.one = true ∧ ∃ u, C[l.co + j]? = some u ∧ VR m v u
  | .row cs true => ∃ l, m i = some l ∧ (cs ≠ [] → ∃ C e fr, w.heap[l.cb]? = some (.cells C e fr) ∧ l.cb < B0 ∧ ∀ j v, cs[j]? = some v → v.one = true ∧ ∃ u, C[l.co + j]? = some u ∧ VR m v u)
  | .map es clock => ∃ l es', m i = some l ∧ w.heap[l.cb]? = some (.map es' clock) ∧ B0 ≤ l.cb ∧ es.length = es'.size ∧ ∀ (j : Nat) x, es[j]? = some x → ∃ e, es'[j]? = some e ∧ ERel m x e
  | .dead => True

def IObj.held : IObj → Bool
  | .row _ false | .map _ _ => true
  | _ => false

structure Rel (B0 : Nat) (w0 : World) (m : Mp) (H : Heap) (w : World) : Prop where
  below : Below B0 w0 w
  base : B0 ≤ w.heap.size
  dom : ∀ i l, m i = some l → i < H.length
  good : ∀ i o, H[i]? = some o → Good B0 m w i o
  inj : ∀ i j o p l k, H[i]? = some o → H[j]? = some p → o.held = true → p.held = true → i ≠ j → m i = some l → m j = some k → l.cb ≠ k.cb

theorem Good.held_ge {B0 : Nat} {m : Mp} {w : World} {i : Nat} {o : IObj} (h : Good B0 m w i o) (ho : o.held = true) : ∃ l, m i = some l ∧ B0 ≤ l.cb ∧ l.cb < w.heap.size := by
  have key : ∀ {k : Nat} {x : Obj}, w.heap[k]? = some x → k < w.heap.size := fun hk => (Array.getElem?_eq_some_iff.1 hk).1
  cases o with
  | row cs ro =>
    cases ro with
    | false => obtain ⟨l, C, e, fr, h1, h2, _, _, h3, _⟩ := h; exact ⟨l, h1, h3, key h2⟩
    | true => simp [IObj.held] at ho
  | map es c => obtain ⟨l, es', h1, h2, h3, _⟩ := h; exact ⟨l, h1, h3, key h2⟩
  | dead => simp [IObj.held] at ho
theorem Good.ro_move {B0 : Nat} {m m' : Mp} {w w' : World} {i : Nat} {cs : List IV} (h : Good B0 m w i (.row cs true)) (hm : Ext m m') (hw : ∀ l, m i = some l → l.cb < B0 → l.cb < w.heap.size → w'.heap[l.cb]? = w.heap[l.cb]?) : Good B0 m' w' i (.row cs true) := by
  obtain ⟨l, h1, h2⟩ := h
  refine ⟨l, hm _ _ h1, fun hne => ?_⟩
  obtain ⟨C, e, fr, h3, h4, h7⟩ := h2 hne
  exact ⟨C, e, fr, (hw l h1 h4 (Array.getElem?_eq_some_iff.1 h3).1).trans h3, h4, fun j v hj => by obtain ⟨h8, u, h9, h10⟩ := h7 j v hj; exact ⟨h8, u, h9, h10.ext hm⟩⟩

/-- What is good stays good where its block does. -/
theorem Good.move {B0 : Nat} {m m' : Mp} {w w' : World} {i : Nat} {o : IObj} (h : Good B0 m w i o) (hm : Ext m m') (hw : ∀ l, m i = some l → l.cb < w.heap.size → w'.heap[l.cb]? = w.heap[l.cb]?) : Good B0 m' w' i o := by
  have key : ∀ {k : Nat} {x : Obj}, w.heap[k]? = some x → k < w.heap.size := fun hk => (Array.getElem?_eq_some_iff.1 hk).1
  cases o with
  | row cs ro =>
    cases ro with
    | false =>
      obtain ⟨l, C, e, fr, h1, h2, h3, h4, h5, h6, h7⟩ := h
      exact ⟨l, C, e, fr, hm _ _ h1, (hw l h1 (key h2)).trans h2, h3, h4, h5, h6, fun j v hj => by obtain ⟨h8, u, h9, h10⟩ := h7 j v hj; exact ⟨h8, u, h9, h10.ext hm⟩⟩
    | true =>
      exact Good.ro_move h hm fun l hl _ hlt => hw l hl hlt
  | map es c =>
    obtain ⟨l, es', h1, h2, h3, h4, h5⟩ := h
    exact ⟨l, es', hm _ _ h1, (hw l h1 (key h2)).trans h2, h3, h4, fun j x hj => by obtain ⟨e, h6, h7, h8, h9⟩ := h5 j x hj; exact ⟨e, h6, h7.ext hm, h8.ext hm, h9⟩⟩
  | dead => trivial

end Go.Shade
