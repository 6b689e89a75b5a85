/- SHADE, part 31: an ideal heap may be put in another order, and what isn't wanted let go; tables that grow. -/
import Derived.Test.YtdljmmdbpngchaaShadeL4
namespace Go.Shade
open Go.RowKit
set_option linter.unusedSimpArgs false
set_option linter.unusedVariables false

mutual
/-- A value with its places renamed. -/
def ren (f : Nat → Nat) : IV → IV
  | .ptr b o => .ptr (f b) o
  | .slice b o n lb ex sz => .slice (f b) o n lb ex sz
  | .map r => .map (f r)
  | .func g a b => .func g (rens f a) (rens f b)
  | .iface t v => .iface t (ren f v)
  | .agg cs => .agg (rens f cs)
  | .tuple vs => .tuple (rens f vs)
  | .bool b => .bool b
  | .int k n => .int k n
  | .str s => .str s
  | .nilPtr => .nilPtr
  | .nilSlice => .nilSlice
  | .nilMap => .nilMap
  | .nilFunc => .nilFunc
  | .nilIface => .nilIface
def rens (f : Nat → Nat) : List IV → List IV
  | [] => []
  | v :: vs => ren f v :: rens f vs
end
mutual
/-- All places lie below n. -/
def inB (n : Nat) : IV → Bool
  | .ptr b _ => decide (b < n)
  | .slice b .. => decide (b < n)
  | .map r => decide (r < n)
  | .func _ a b => inBs n a && inBs n b
  | .iface _ v => inB n v
  | .agg cs => inBs n cs
  | .tuple vs => inBs n vs
  | _ => true
def inBs (n : Nat) : List IV → Bool
  | [] => true
  | v :: vs => inB n v && inBs n vs
end
def sub (n : Nat) (f : Nat → Nat) (m : Mp) : Mp := fun i => if i < n then m (f i) else none
mutual
theorem VR_ren {n : Nat} {f : Nat → Nat} {m : Mp} : ∀ (v : IV) (u : Value), inB n v = true → VR m (ren f v) u → VR (sub n f m) v u
  | .ptr b o, u, hb, h => by
    simp only [inB, decide_eq_true_eq] at hb
    simp only [ren, VR] at h ⊢
    obtain ⟨l, h1, h2⟩ := h
    exact ⟨l, by simp only [sub, if_pos hb]; exact h1, h2⟩
  | .slice b o k lb ex sz, u, hb, h => by
    simp only [inB, decide_eq_true_eq] at hb
    simp only [ren, VR] at h ⊢
    obtain ⟨l, o', c, sp, h1, h2⟩ := h
    exact ⟨l, o', c, sp, by simp only [sub, if_pos hb]; exact h1, h2⟩
  | .map r, u, hb, h => by
    simp only [inB, decide_eq_true_eq] at hb
    simp only [ren, VR] at h ⊢
    obtain ⟨l, h1, h2⟩ := h
    exact ⟨l, by simp only [sub, if_pos hb]; exact h1, h2⟩
  | .func g a b, u, hb, h => by
    simp only [inB, Bool.and_eq_true] at hb
    simp only [ren, VR] at h ⊢
    obtain ⟨a', b', h1, h2, h3⟩ := h
    exact ⟨a', b', h1, VRs_ren a _ hb.1 h2, VRs_ren b _ hb.2 h3⟩
  | .iface t v, u, hb, h => by
    simp only [inB] at hb
    simp only [ren, VR] at h ⊢
    obtain ⟨y, h1, h2⟩ := h
    exact ⟨y, h1, VR_ren v y hb h2⟩
  | .agg cs, u, hb, h => by
    simp only [inB] at hb
    simp only [ren, VR] at h ⊢
    obtain ⟨a, h1, h2⟩ := h
    exact ⟨a, h1, VRs_ren cs _ hb h2⟩
  | .tuple cs, u, hb, h => by
    simp only [inB] at hb
    simp only [ren, VR] at h ⊢
    obtain ⟨a, h1, h2⟩ := h
    exact ⟨a, h1, VRs_ren cs _ hb h2⟩
  | .bool b, u, _, h => by simpa [ren, VR] using h
  | .int k i, u, _, h => by simpa [ren, VR] using h
  | .str s, u, _, h => by simpa [ren, VR] using h
  | .nilPtr, u, _, h => by simpa [ren, VR] using h
  | .nilSlice, u, _, h => by simpa [ren, VR] using h
  | .nilMap, u, _, h => by simpa [ren, VR] using h
  | .nilFunc, u, _, h => by simpa [ren, VR] using h
  | .nilIface, u, _, h => by simpa [ren, VR] using h
theorem VRs_ren {n : Nat} {f : Nat → Nat} {m : Mp} : ∀ (vs : List IV) (us : List Value), inBs n vs = true → VRs m (rens f vs) us → VRs (sub n f m) vs us
  | [], us, _, h => by simpa [rens, VRs] using h
  | v :: vs, us, hb, h => by
    simp only [inBs, Bool.and_eq_true] at hb
    simp only [rens, VRs] at h ⊢
    obtain ⟨u, us', h1, h2, h3⟩ := h
    exact ⟨u, us', h1, VR_ren v u hb.1 h2, VRs_ren vs us' hb.2 h3⟩
end
theorem rens_get {f : Nat → Nat} : ∀ {vs : List IV} {i : Nat} {v : IV}, vs[i]? = some v → (rens f vs)[i]? = some (ren f v)
  | [], i, v, h => by simp at h
  | x :: vs, 0, v, h => by simp at h; subst h; rfl
  | x :: vs, i + 1, v, h => by simp only [List.getElem?_cons_succ] at h; simp only [rens, List.getElem?_cons_succ]; exact rens_get h
theorem rens_length {f : Nat → Nat} : ∀ {vs : List IV}, (rens f vs).length = vs.length
  | [] => rfl
  | _ :: vs => by simp [rens, rens_length (vs := vs)]
theorem inBs_get {n : Nat} : ∀ {vs : List IV} {i : Nat} {v : IV}, inBs n vs = true → vs[i]? = some v → inB n v = true
  | [], i, v, _, h => by simp at h
  | x :: vs, 0, v, hb, h => by simp only [inBs, Bool.and_eq_true] at hb; simp at h; subst h; exact hb.1
  | x :: vs, i + 1, v, hb, h => by simp only [inBs, Bool.and_eq_true] at hb; simp only [List.getElem?_cons_succ] at h; exact inBs_get hb.2 h
theorem ren_one {f : Nat → Nat} (v : IV) : (ren f v).one = v.one := by cases v <;> rfl
def renO (f : Nat → Nat) : IObj → IObj
  | .row cs ro => .row (rens f cs) ro
  | .map es c => .map (es.map fun e => (ren f e.1, ren f e.2.1, e.2.2)) c
  | .dead => .dead
def inBO (n : Nat) : IObj → Bool
  | .row cs _ => inBs n cs
  | .map es _ => es.all fun e => inB n e.1 && inB n e.2.1
  | .dead => true
theorem Good_ren {B0 n : Nat} {f : Nat → Nat} {m : Mp} {w : World} {i : Nat} {o : IObj} (hi : i < n) (hb : inBO n o = true) (h : Good B0 m w (f i) (renO f o)) : Good B0 (sub n f m) w i o := by
  have hm : ∀ l, m (f i) = some l → sub n f m i = some l := fun l hl => by simp only [sub, if_pos hi]; exact hl
  cases o with
  | row cs ro =>
    simp only [inBO] at hb
    cases ro with
    | false =>
      obtain ⟨l, C, e, fr, h1, h2, h3, h4, h5, h6, h7⟩ := h
      refine ⟨l, C, e, fr, hm _ h1, h2, h3, by rw [rens_length] at h4; exact h4, h5, h6, fun j v hj => ?_⟩
      obtain ⟨g1, u, g2, g3⟩ := h7 j _ (rens_get hj)
      exact ⟨by rw [ren_one] at g1; exact g1, u, g2, VR_ren v u (inBs_get hb hj) g3⟩
    | true =>
      obtain ⟨l, h1, h2⟩ := h
      refine ⟨l, hm _ h1, fun hne => ?_⟩
      obtain ⟨C, e, fr, h3, h4, h7⟩ := h2 (by intro e; apply hne; have := congrArg List.length e; rw [rens_length] at this; exact List.length_eq_zero_iff.1 this)
      refine ⟨C, e, fr, h3, h4, fun j v hj => ?_⟩
      obtain ⟨g1, u, g2, g3⟩ := h7 j _ (rens_get hj)
      exact ⟨by rw [ren_one] at g1; exact g1, u, g2, VR_ren v u (inBs_get hb hj) g3⟩
  | map es c =>
    obtain ⟨l, es', h1, h2, h3, h4, h5⟩ := h
    refine ⟨l, es', hm _ h1, h2, h3, by simpa using h4, fun j x hj => ?_⟩
    obtain ⟨e, g1, g2, g3, g4⟩ := h5 j (ren f x.1, ren f x.2.1, x.2.2) (by simp [hj])
    have hx : inB n x.1 = true ∧ inB n x.2.1 = true := by
      simp only [inBO, List.all_eq_true] at hb
      have := hb x (List.mem_of_getElem? hj)
      simpa using this
    exact ⟨e, g1, VR_ren _ _ hx.1 g2, VR_ren _ _ hx.2 g3, g4⟩
  | dead => trivial
theorem Rel.gc {B0 : Nat} {w0 w : World} {m : Mp} {H K : Heap} (h : Rel B0 w0 m H w) (f : Nat → Nat) (hk : ∀ (i : Nat) o, K[i]? = some o → inBO K.length o = true ∧ H[f i]? = some (renO f o))
    (hinj : ∀ i j, i < K.length → j < K.length → i ≠ j → f i ≠ f j) : Rel B0 w0 (sub K.length f m) K w := by
  refine ⟨h.below, h.base, fun i l hi => ?_, fun i o hi => ?_, fun i j o p li lj hi hj ho hp hne hmi hmj => ?_⟩
  · simp only [sub] at hi
    split at hi
    · assumption
    · cases hi
  · obtain ⟨h1, h2⟩ := hk i o hi
    exact Good_ren (List.getElem?_eq_some_iff.1 hi).1 h1 (h.good _ _ h2)
  · obtain ⟨h1, h2⟩ := hk i o hi
    obtain ⟨h3, h4⟩ := hk j p hj
    have hil := (List.getElem?_eq_some_iff.1 hi).1
    have hjl := (List.getElem?_eq_some_iff.1 hj).1
    simp only [sub, if_pos hil] at hmi
    simp only [sub, if_pos hjl] at hmj
    have hh : ∀ {q : IObj}, q.held = true → (renO f q).held = true := by
      intro q hq; cases q with
      | row cs ro => cases ro <;> first | rfl | (simp [IObj.held] at hq)
      | map es c => rfl
      | dead => simp [IObj.held] at hq
    exact h.inj _ _ _ _ li lj h2 h4 (hh ho) (hh hp) (hinj i j hil hjl hne) hmi hmj
/-- A call's outcome in another order. -/
theorem SimCall.gc {P : Program} {g : FuncId} {args : List IV} {H H' K : Heap} {r r' : IV} (h : SimCall P g args H r H') (f : Nat → Nat) (hf : ∀ i, i < H.length → f i = i) (hle : H.length ≤ K.length)
    (hk : ∀ (i : Nat) o, K[i]? = some o → inBO K.length o = true ∧ H'[f i]? = some (renO f o)) (hinj : ∀ i j, i < K.length → j < K.length → i ≠ j → f i ≠ f j) (hr : r = ren f r') (hb : inB K.length r' = true) : SimCall P g args H r' K := by
  intro B0 w0 w m us hR hA
  refine (h B0 w0 w m us hR hA).mono ?_
  rintro e w' ⟨m', u, he, hext, hR', hu⟩
  refine ⟨sub K.length f m', u, he, fun i l hi => ?_, hR'.gc f hk hinj, VR_ren r' u hb (hr ▸ hu)⟩
  have hlt := hR.dom i l hi
  simp only [sub, if_pos (Nat.lt_of_lt_of_le hlt hle), hf i hlt]
  exact hext i l hi

mutual
theorem VR_inB {n : Nat} {m : Mp} (hd : ∀ i l, m i = some l → i < n) : ∀ (v : IV) (u : Value), VR m v u → inB n v = true
  | .ptr b o, u, h => by
    simp only [VR] at h
    obtain ⟨l, h1, _⟩ := h
    simp only [inB, decide_eq_true_eq]; exact hd _ _ h1
  | .slice b o k lb ex sz, u, h => by
    simp only [VR] at h
    obtain ⟨l, o', c, sp, h1, _⟩ := h
    simp only [inB, decide_eq_true_eq]; exact hd _ _ h1
  | .map r, u, h => by
    simp only [VR] at h
    obtain ⟨l, h1, _⟩ := h
    simp only [inB, decide_eq_true_eq]; exact hd _ _ h1
  | .func g a b, u, h => by
    simp only [VR] at h
    obtain ⟨a', b', _, h2, h3⟩ := h
    simp only [inB, VRs_inB hd a _ h2, VRs_inB hd b _ h3, Bool.and_self]
  | .iface t v, u, h => by
    simp only [VR] at h
    obtain ⟨y, _, h2⟩ := h
    simp only [inB]; exact VR_inB hd v y h2
  | .agg cs, u, h => by
    simp only [VR] at h
    obtain ⟨a, _, h2⟩ := h
    simp only [inB]; exact VRs_inB hd cs _ h2
  | .tuple cs, u, h => by
    simp only [VR] at h
    obtain ⟨a, _, h2⟩ := h
    simp only [inB]; exact VRs_inB hd cs _ h2
  | .bool b, u, _ => rfl
  | .int k i, u, _ => rfl
  | .str s, u, _ => rfl
  | .nilPtr, u, _ => rfl
  | .nilSlice, u, _ => rfl
  | .nilMap, u, _ => rfl
  | .nilFunc, u, _ => rfl
  | .nilIface, u, _ => rfl
theorem VRs_inB {n : Nat} {m : Mp} (hd : ∀ i l, m i = some l → i < n) : ∀ (vs : List IV) (us : List Value), VRs m vs us → inBs n vs = true
  | [], us, _ => rfl
  | v :: vs, us, h => by
    simp only [VRs] at h
    obtain ⟨u, us', _, h2, h3⟩ := h
    simp only [inBs, VR_inB hd v u h2, VRs_inB hd vs us' h3, Bool.and_self]
end
mutual
theorem ren_id {n : Nat} {f : Nat → Nat} (hf : ∀ i, i < n → f i = i) : ∀ (v : IV), inB n v = true → ren f v = v
  | .ptr b o, h => by simp only [inB, decide_eq_true_eq] at h; simp only [ren, hf b h]
  | .slice b o k lb ex sz, h => by simp only [inB, decide_eq_true_eq] at h; simp only [ren, hf b h]
  | .map r, h => by simp only [inB, decide_eq_true_eq] at h; simp only [ren, hf r h]
  | .func g a b, h => by
    simp only [inB, Bool.and_eq_true] at h
    simp only [ren, rens_id hf a h.1, rens_id hf b h.2]
  | .iface t v, h => by simp only [inB] at h; simp only [ren, ren_id hf v h]
  | .agg cs, h => by simp only [inB] at h; simp only [ren, rens_id hf cs h]
  | .tuple cs, h => by simp only [inB] at h; simp only [ren, rens_id hf cs h]
  | .bool b, _ => rfl
  | .int k i, _ => rfl
  | .str s, _ => rfl
  | .nilPtr, _ => rfl
  | .nilSlice, _ => rfl
  | .nilMap, _ => rfl
  | .nilFunc, _ => rfl
  | .nilIface, _ => rfl
theorem rens_id {n : Nat} {f : Nat → Nat} (hf : ∀ i, i < n → f i = i) : ∀ (vs : List IV), inBs n vs = true → rens f vs = vs
  | [], _ => rfl
  | v :: vs, h => by
    simp only [inBs, Bool.and_eq_true] at h
    simp only [rens, ren_id hf v h.1, rens_id hf vs h.2]
end
mutual
theorem inB_le {n k : Nat} (h : n ≤ k) : ∀ (v : IV), inB n v = true → inB k v = true
  | .ptr b o, hv => by simp only [inB, decide_eq_true_eq] at hv ⊢; omega
  | .slice b o _ lb ex sz, hv => by simp only [inB, decide_eq_true_eq] at hv ⊢; omega
  | .map r, hv => by simp only [inB, decide_eq_true_eq] at hv ⊢; omega
  | .func g a b, hv => by
    simp only [inB, Bool.and_eq_true] at hv ⊢
    exact ⟨inBs_le h a hv.1, inBs_le h b hv.2⟩
  | .iface t v, hv => by simp only [inB] at hv ⊢; exact inB_le h v hv
  | .agg cs, hv => by simp only [inB] at hv ⊢; exact inBs_le h cs hv
  | .tuple cs, hv => by simp only [inB] at hv ⊢; exact inBs_le h cs hv
  | .bool b, _ => rfl
  | .int k i, _ => rfl
  | .str s, _ => rfl
  | .nilPtr, _ => rfl
  | .nilSlice, _ => rfl
  | .nilMap, _ => rfl
  | .nilFunc, _ => rfl
  | .nilIface, _ => rfl
theorem inBs_le {n k : Nat} (h : n ≤ k) : ∀ (vs : List IV), inBs n vs = true → inBs k vs = true
  | [], _ => rfl
  | v :: vs, hv => by
    simp only [inBs, Bool.and_eq_true] at hv ⊢
    exact ⟨inB_le h v hv.1, inBs_le h vs hv.2⟩
end
theorem inBs_of {n : Nat} : ∀ {vs : List IV}, (∀ (i : Nat) v, vs[i]? = some v → inB n v = true) → inBs n vs = true
  | [], _ => rfl
  | v :: vs, h => by
    simp only [inBs, Bool.and_eq_true]
    exact ⟨h 0 v rfl, inBs_of fun i x hx => h (i + 1) x (by simpa using hx)⟩
theorem Good.inBO {B0 n : Nat} {m : Mp} {w : World} {i : Nat} {o : IObj} (hd : ∀ i l, m i = some l → i < n) (h : Good B0 m w i o) : Shade.inBO n o = true := by
  cases o with
  | row cs ro =>
    cases ro with
    | false =>
      obtain ⟨l, C, e, fr, h1, h2, h3, h4, h5, h6, h7⟩ := h
      exact inBs_of fun j v hj => by obtain ⟨_, u, _, h9⟩ := h7 j v hj; exact VR_inB hd v u h9
    | true =>
      obtain ⟨l, h1, h2⟩ := h
      refine inBs_of fun j v hj => ?_
      obtain ⟨C, e, fr, _, _, h7⟩ := h2 (by intro e; subst e; simp at hj)
      obtain ⟨_, u, _, h9⟩ := h7 j v hj; exact VR_inB hd v u h9
  | map es c =>
    obtain ⟨l, es', h1, h2, h3, h4, h5⟩ := h
    simp only [Shade.inBO, List.all_eq_true, Bool.and_eq_true]
    intro x hx
    obtain ⟨j, hj⟩ := List.mem_iff_getElem?.1 hx
    obtain ⟨e, _, g2, g3, _⟩ := h5 j x hj
    exact ⟨VR_inB hd _ _ g2, VR_inB hd _ _ g3⟩
  | dead => rfl
theorem renO_id {n : Nat} {f : Nat → Nat} (hf : ∀ i, i < n → f i = i) {o : IObj} (h : inBO n o = true) : renO f o = o := by
  cases o with
  | row cs ro => simp only [inBO] at h; simp only [renO, rens_id hf cs h]
  | map es c =>
    simp only [inBO, List.all_eq_true, Bool.and_eq_true] at h
    simp only [renO]
    congr 1
    have : es.map (fun e => (ren f e.1, ren f e.2.1, e.2.2)) = es.map id := by
      apply List.map_congr_left
      intro x hx
      obtain ⟨h1, h2⟩ := h x hx
      simp only [ren_id hf _ h1, ren_id hf _ h2]; rfl
    rw [this, List.map_id]
  | dead => rfl
theorem inBO_le {n k : Nat} (h : n ≤ k) {o : IObj} (ho : inBO n o = true) : inBO k o = true := by
  cases o with
  | row cs ro => exact inBs_le h cs ho
  | map es c =>
    simp only [inBO, List.all_eq_true, Bool.and_eq_true] at ho ⊢
    intro x hx
    exact ⟨inB_le h _ (ho x hx).1, inB_le h _ (ho x hx).2⟩
  | dead => rfl
/-- A call's outcome, cleaned: what was there as it was, or as is told; new rows in a new order. -/
theorem SimCall.clean {P : Program} {g : FuncId} {args : List IV} {H H1 K : Heap} {r r' : IV} (h : SimCall P g args H r H1) (f : Nat → Nat) (hf : ∀ i, i < H.length → f i = i) (hle : H.length ≤ K.length)
    (hk : ∀ (i : Nat) o, K[i]? = some o → (i < H.length ∧ H[i]? = some o ∧ H1[i]? = some o) ∨ (inBO K.length o = true ∧ H1[f i]? = some (renO f o))) (hinj : ∀ i j, i < K.length → j < K.length → i ≠ j → f i ≠ f j) (hr : r = ren f r') (hb : inB K.length r' = true) : SimCall P g args H r' K := by
  intro B0 w0 w m us hR hA
  refine (h B0 w0 w m us hR hA).mono ?_
  rintro e w' ⟨m', u, he, hext, hR', hu⟩
  have hk' : ∀ (i : Nat) o, K[i]? = some o → inBO K.length o = true ∧ H1[f i]? = some (renO f o) := by
    intro i o hi
    rcases hk i o hi with ⟨h1, h2, h3⟩ | h4
    · have hb := (hR.good i o h2).inBO hR.dom
      exact ⟨inBO_le hle hb, by rw [hf i h1, renO_id hf hb]; exact h3⟩
    · exact h4
  refine ⟨Shade.sub K.length f m', u, he, fun i l hi => ?_, hR'.gc f hk' hinj, VR_ren r' u hb (hr ▸ hu)⟩
  have hlt := hR.dom i l hi
  simp only [Shade.sub, if_pos (Nat.lt_of_lt_of_le hlt hle), hf i hlt]
  exact hext i l hi
/-- Nothing new is wanted. -/
theorem SimCall.drop {P : Program} {g : FuncId} {args : List IV} {H H1 : Heap} {r : IV} (h : SimCall P g args H r H1) (hk : ∀ (i : Nat) o, H[i]? = some o → H1[i]? = some o) (hb : inB 0 r = true) : SimCall P g args H r H :=
  h.clean id (fun _ _ => rfl) (Nat.le_refl _) (fun i o hi => .inl ⟨(List.getElem?_eq_some_iff.1 hi).1, hi, hk i o hi⟩) (fun _ _ _ _ h => h) (ren_id (n := 0) (fun _ h => absurd h (by omega)) r hb).symm (inB_le (Nat.zero_le _) r hb)
/-- One new row, without places in it. -/
theorem SimCall.one {P : Program} {g : FuncId} {args : List IV} {H H1 : Heap} {r r' : IV} {q : Nat} {cs : List IV} (h : SimCall P g args H r H1) (hk : ∀ (i : Nat) o, H[i]? = some o → H1[i]? = some o) (hq : H1[q]? = some (.row cs false)) (hge : H.length ≤ q) (hc : inBs 0 cs = true)
    (hr : r = ren (fun i => if i = H.length then q else i) r') (hb : inB (H.length + 1) r' = true) : SimCall P g args H r' (H ++ [.row cs false]) := by
  refine h.clean (fun i => if i = H.length then q else i) (fun i hi => if_neg (by omega)) (by simp) (fun i o hi => ?_) (fun i j hi hj hne => ?_) hr (by simpa using hb)
  · rw [List.getElem?_append] at hi
    split at hi
    · rename_i hlt; exact .inl ⟨hlt, hi, hk i o hi⟩
    · right
      have hz : i - H.length = 0 := by
        rcases Nat.eq_zero_or_pos (i - H.length) with e | e
        · exact e
        · rw [List.getElem?_eq_none (by simp; omega)] at hi; exact absurd hi (by simp)
      rw [hz] at hi; simp at hi; subst hi
      have hi' : i = H.length := by omega
      subst hi'
      refine ⟨inBs_le (Nat.zero_le _) cs hc, ?_⟩
      simp only [if_true, renO]
      rw [rens_id (n := 0) (fun _ h => absurd h (by omega)) cs hc]; exact hq
  · simp at hi hj
    by_cases e1 : i = H.length
    · rw [if_pos e1, if_neg (by omega)]; omega
    · rw [if_neg e1]
      by_cases e2 : j = H.length
      · rw [if_pos e2]; omega
      · rw [if_neg e2]; exact hne

theorem ren_idf : ∀ (v : IV), inB 0 v = true → ren (fun i => i) v = v := fun v h => ren_id (n := 0) (fun _ h => absurd h (by omega)) v h
/-- One row of what was there is changed. -/
theorem SimCall.upd {P : Program} {g : FuncId} {args : List IV} {H H1 : Heap} {r : IV} {p : Nat} {o : IObj} (h : SimCall P g args H r H1) (hk : ∀ (i : Nat) x, (H.set p o)[i]? = some x → H1[i]? = some x) (ho : inBO H.length o = true) (hb : inB H.length r = true) : SimCall P g args H r (H.set p o) := by
  refine h.clean (fun i => i) (fun _ _ => rfl) (by simp) (fun i x hi => ?_) (fun _ _ _ _ h => h) (ren_id (n := H.length) (fun _ _ => rfl) r hb).symm (by simpa using hb)
  by_cases e : p = i
  · subst e
    right
    have hi' := hi
    rw [List.getElem?_set, if_pos rfl] at hi'
    split at hi'
    · cases hi'
      refine ⟨by simpa using ho, ?_⟩
      rw [renO_id (n := H.length) (fun _ _ => rfl) ho]; exact hk _ _ hi
    · cases hi'
  · left
    have hi' := hi
    rw [List.getElem?_set_ne e] at hi'
    exact ⟨(List.getElem?_eq_some_iff.1 hi').1, hi', hk i x hi⟩

/-! ### tables -/
def ext (T : Table) (f : FuncId) (g : List IV → Heap → Option (IV × Heap)) : Table := fun x => if x = f then some g else T x
theorem soundExt {P : Program} {T : Table} {f : FuncId} {g : List IV → Heap → Option (IV × Heap)} (hT : SoundT P T) (h : ∀ args H r H', g args H = some (r, H') → SimCall P f args H r H') : SoundT P (ext T f g) := by
  intro x g' hx args H r H' e
  unfold ext at hx
  split at hx
  · rename_i e1; subst e1; cases hx; exact h args H r H' e
  · exact hT x g' hx args H r H' e
open Classical in
/-- A summary that is told by a relation. -/
noncomputable def tab (S : List IV → Heap → IV × Heap → Prop) : List IV → Heap → Option (IV × Heap) := fun args H => if h : ∃ x, S args H x then some (Classical.choose h) else none
theorem tab_eq {S : List IV → Heap → IV × Heap → Prop} {args : List IV} {H : Heap} {x : IV × Heap} (hf : ∀ x y, S args H x → S args H y → x = y) (h : S args H x) : tab S args H = some x := by
  unfold tab
  have hex : ∃ x, S args H x := ⟨x, h⟩
  rw [dif_pos hex, hf _ _ (Classical.choose_spec hex) h]
theorem tab_some {S : List IV → Heap → IV × Heap → Prop} {args : List IV} {H : Heap} {x : IV × Heap} (h : tab S args H = some x) : S args H x := by
  unfold tab at h
  split at h
  · rename_i hex; cases h; exact Classical.choose_spec hex
  · cases h
theorem SimCall.weak {P : Program} {g : FuncId} {args : List IV} {H H' : Heap} {r r' : IV} (h : SimCall P g args H r H') (hr : ∀ m u, VR m r u → VR m r' u) : SimCall P g args H r' H' := by
  intro B0 w0 w m us hR hA
  refine (h B0 w0 w m us hR hA).mono ?_
  rintro e w' ⟨m', u, he, hext, hR', hu⟩
  exact ⟨m', u, he, hext, hR', hr m' u hu⟩
theorem VR_exact {m : Mp} {b o n lb sz : Nat} {ex : Bool} {u : Value} (h : VR m (.slice b o n lb ex sz) u) : VR m (.slice b o n lb false sz) u := by
  simp only [VR] at h ⊢
  obtain ⟨l, o', c, sp, h1, h2, h3, h4, h5, h6, h7⟩ := h
  exact ⟨l, o', c, sp, h1, h2, h3, h4, (fun h => by cases h), h6, h7⟩
/-- From a function's low code, run with enough rounds, to a call. -/
theorem sim_low {P : Program} {T : Table} {cal : FuncId → Bool} (hT : SoundT P T) (hm : P.follows .mixedOrders = true) (hcal : ∀ g, cal g = true → callable P g = true) {f : FuncId} {fn : Func} {lf : LFun} (h : T f = none) (hf : P.funcs[f]? = some fn) (hc : lowF P fn = some lf) {args : List IV} {H H' : Heap} {r : IV} (hl : args.length ≤ lf.n) (hr : lrun cal (den P T) lf args H = some (r, H')) : SimCall P f args H r H' :=
  sound_den hT hm f args H r H' (low_den hcal h hf hc hl hr)
end Go.Shade
