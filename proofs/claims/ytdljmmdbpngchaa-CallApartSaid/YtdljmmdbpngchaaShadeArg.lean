/- SHADE, part 28: arguments that came in: numbers, texts, structs and slices of such become rows that are only read. -/
import Derived.Test.YtdljmmdbpngchaaShadeMem
import Derived.ProofKit
import Derived.Deep.Slices
namespace Go.Shade
open Go.RowKit
set_option linter.unusedSimpArgs false
set_option linter.unusedVariables false

inductive CT where
  | int (k : IntKind)
  | bool
  | str
  | sl (es : List CT)
mutual
def Fit (H : Heap) : CT → IV → Prop
  | .int k, v => ∃ n, v = .int k n ∧ (Lit.int k n).wf = true
  | .bool, v => ∃ b, v = .bool b
  | .str, v => ∃ s, v = .str s ∧ s.length ≤ maxLen
  | .sl es, v => v = .nilSlice ∨ ∃ (b n : Nat) (elems : List (List IV)), v = .slice b 0 n elems.length true 0 ∧ H[b]? = some (.row elems.flatten true) ∧ n ≤ elems.length ∧ elems.length ≤ maxLen ∧ ∀ e ∈ elems, Fits H es e
def Fits (H : Heap) : List CT → List IV → Prop
  | [], vs => vs = []
  | c :: cs, vs => ∃ v r, vs = v :: r ∧ Fit H c v ∧ Fits H cs r
end
mutual
theorem Fit.mono {H H' : Heap} (h : ∀ (b : Nat) o, H[b]? = some o → H'[b]? = some o) : ∀ (c : CT) (v : IV), Fit H c v → Fit H' c v
  | .int k, v, hf => by simpa [Fit] using hf
  | .bool, v, hf => by simpa [Fit] using hf
  | .str, v, hf => by simpa [Fit] using hf
  | .sl es, v, hf => by
    simp only [Fit] at hf ⊢
    rcases hf with hf | ⟨b, n, elems, h1, h2, h3, h4, h5⟩
    · exact .inl hf
    · exact .inr ⟨b, n, elems, h1, h _ _ h2, h3, h4, fun e he => Fits.mono h es e (h5 e he)⟩
theorem Fits.mono {H H' : Heap} (h : ∀ (b : Nat) o, H[b]? = some o → H'[b]? = some o) : ∀ (cs : List CT) (vs : List IV), Fits H cs vs → Fits H' cs vs
  | [], vs, hf => by simpa [Fits] using hf
  | c :: cs, vs, hf => by
    simp only [Fits] at hf ⊢
    obtain ⟨v, r, h1, h2, h3⟩ := hf
    exact ⟨v, r, h1, Fit.mono h c v h2, Fits.mono h cs r h3⟩
end
theorem app_mono {H : Heap} (X : Heap) : ∀ (b : Nat) o, H[b]? = some o → (H ++ X)[b]? = some o := by
  intro b o h
  rw [List.getElem?_append_left (List.getElem?_eq_some_iff.1 h).1]; exact h
theorem Fits.append {H : Heap} : ∀ {cs ds : List CT} {vs us : List IV}, Fits H cs vs → Fits H ds us → Fits H (cs ++ ds) (vs ++ us)
  | [], ds, vs, us, h, k => by simp only [Fits] at h; subst h; simpa using k
  | c :: cs, ds, vs, us, h, k => by
    simp only [Fits] at h
    obtain ⟨v, r, rfl, h2, h3⟩ := h
    simp only [List.cons_append, Fits]
    exact ⟨v, r ++ us, rfl, h2, h3.append k⟩
theorem Fits.length {H : Heap} : ∀ {cs : List CT} {vs : List IV}, Fits H cs vs → vs.length = cs.length
  | [], vs, h => by simp only [Fits] at h; subst h; rfl
  | c :: cs, vs, h => by
    simp only [Fits] at h
    obtain ⟨v, r, rfl, h2, h3⟩ := h
    simp [h3.length]
theorem Fit.one {H : Heap} {c : CT} {v : IV} (h : Fit H c v) : v.one = true := by
  cases c <;> simp only [Fit] at h
  · obtain ⟨n, rfl, _⟩ := h; rfl
  · obtain ⟨n, rfl⟩ := h; rfl
  · obtain ⟨n, rfl, _⟩ := h; rfl
  · rcases h with rfl | ⟨b, n, e, rfl, _⟩ <;> rfl
theorem Fits.one {H : Heap} : ∀ {cs : List CT} {vs : List IV}, Fits H cs vs → ∀ v ∈ vs, v.one = true
  | [], vs, h => by simp only [Fits] at h; subst h; simp
  | c :: cs, vs, h => by
    simp only [Fits] at h
    obtain ⟨v, r, rfl, h2, h3⟩ := h
    intro x hx
    rcases List.mem_cons.1 hx with rfl | hx
    · exact h2.one
    · exact h3.one x hx

def flatFs (P : Program) (fl : TypeId → Option (List CT)) : Nat → List Field → Option (List CT)
  | _, [] => some []
  | off, f :: fs => if f.offset = off then (fl f.type).bind fun c => if c.length = P.cellsOf f.type then (flatFs P fl (off + c.length) fs).map (c ++ ·) else none else none
def flat (P : Program) : Nat → TypeId → Option (List CT)
  | 0, _ => none
  | n + 1, t => match P.underlying t with
    | some .bool => some [.bool]
    | some (.int k) => some [.int k]
    | some .string => some [.str]
    | some (.slice e) => (flat P n e).bind fun es => if es.length = P.cellsOf e ∧ es ≠ [] then some [.sl es] else none
    | some (.struct fs) => (flatFs P (flat P n) 0 fs.toList).bind fun cs => if cs.length = P.cellsOf t then some cs else none
    | _ => none

theorem Rel.pushRo {B0 : Nat} {w0 w : World} {m : Mp} {H : Heap} (h : Rel B0 w0 m H w) (l : Loc) (cs : List IV)
    (hg : cs ≠ [] → ∃ C e fr, w.heap[l.cb]? = some (.cells C e fr) ∧ l.cb < B0 ∧ ∀ (j : Nat) v, cs[j]? = some v → v.one = true ∧ ∃ u, C[l.co + j]? = some u ∧ VR m v u) :
    Rel B0 w0 (grow m H.length l) (H ++ [.row cs true]) w := by
  have hext := grow_ext h l
  refine ⟨h.below, h.base, fun i k hi => ?_, fun i o hi => ?_, fun i j o p li lj hi hj ho hp hne hmi hmj => ?_⟩
  · simp only [grow] at hi
    split at hi
    · simp; omega
    · have := h.dom i k hi; simp; omega
  · rw [List.getElem?_append] at hi
    split at hi
    · exact (h.good i o hi).move hext (fun _ _ _ => rfl)
    · rename_i hge
      have hz : i - H.length = 0 := by
        rcases Nat.eq_zero_or_pos (i - H.length) with e | e
        · exact e
        · rw [List.getElem?_eq_none (by simp; omega)] at hi; exact absurd hi (by simp)
      rw [hz] at hi; simp at hi; subst hi
      have : i = H.length := by omega
      subst this
      refine ⟨l, grow_at _ _ _, fun hne => ?_⟩
      obtain ⟨C, e, fr, h1, h2, h3⟩ := hg hne
      exact ⟨C, e, fr, h1, h2, fun j v hj => by obtain ⟨h4, u, h5, h6⟩ := h3 j v hj; exact ⟨h4, u, h5, h6.ext hext⟩⟩
  · have key : ∀ {a : Nat} {q : IObj}, (H ++ [IObj.row cs true])[a]? = some q → q.held = true → H[a]? = some q ∧ a ≠ H.length := by
      intro a q ha hq
      rw [List.getElem?_append] at ha
      split at ha
      · exact ⟨ha, by omega⟩
      · rename_i hge
        have hz : a - H.length = 0 := by
          rcases Nat.eq_zero_or_pos (a - H.length) with e | e
          · exact e
          · rw [List.getElem?_eq_none (by simp; omega)] at ha; exact absurd ha (by simp)
        rw [hz] at ha; simp at ha; subst ha; simp [IObj.held] at hq
    obtain ⟨h1, h2⟩ := key hi ho
    obtain ⟨h3, h4⟩ := key hj hp
    simp only [grow, if_neg h2] at hmi
    simp only [grow, if_neg h4] at hmj
    exact h.inj i j o p li lj h1 h3 ho hp hne hmi hmj

/-- What an argument's cells become. -/
def Opened (B0 : Nat) (w0 w : World) (m : Mp) (H : Heap) (cts : List CT) (cs : List Value) : Prop :=
  ∃ m' X ivs, Ext m m' ∧ Rel B0 w0 m' (H ++ X) w ∧ VRs m' ivs cs ∧ Fits (H ++ X) cts ivs
theorem add_add' (a : Addr) (i j : Nat) : (a.add i).add j = a.add (i + j) := by
  unfold Addr.add
  by_cases hi : i = 0
  · subst hi; simp
  · by_cases hj : j = 0
    · subst hj; simp
    · rw [if_neg hi, if_neg hj, if_neg (by omega)]; simp [Nat.add_assoc]
theorem cell_lt {w : World} {a : Addr} {v : Value} (h : w.cell? a = some v) : a.spot = none ∧ ∃ C e fr, w.heap[a.block]? = some (.cells C e fr) ∧ C[a.off]? = some v := by
  unfold World.cell? at h
  split at h
  · rename_i c e fr hc
    split at h
    · cases h
    · rename_i hs
      exact ⟨by simpa using hs, c, e, fr, hc, h⟩
  · cases h

section
variable {K : Type} {enc : TypeId × Value → K} {P : Program} {w w0 : World} {B0 : Nat} {held : Bool}
theorem open_fields (hB : B0 = w.heap.size) {n : Nat} (ih : ∀ t cts, flat P n t = some cts → ∀ fuel cs x, DataW.trod enc P w 0 (fun _ => true) held fuel t cs = some x → ∀ m H, Rel B0 w0 m H w → Opened B0 w0 w m H cts cs) {fuel : Nat} {cs : List Value} :
    ∀ (fs : List Field) (off : Nat) (cts : List CT), flatFs P (flat P n) off fs = some cts → cs.length = off + cts.length →
      (∀ f ∈ fs, ∃ x, DataW.trod enc P w 0 (fun _ => true) held fuel f.type ((cs.drop f.offset).take (P.cellsOf f.type)) = some x) → ∀ m H, Rel B0 w0 m H w → Opened B0 w0 w m H cts (cs.drop off)
  | [], off, cts, h, hl, _, m, H, hR => by
    simp only [flatFs] at h; cases h
    refine ⟨m, [], [], Ext.refl m, by simpa using hR, ?_, by simp [Fits]⟩
    rw [List.drop_of_length_le (by simpa using Nat.le_of_eq hl)]; exact VRs.nil m
  | f :: fs, off, cts, h, hl, hx, m, H, hR => by
    simp only [flatFs] at h
    split at h
    · rename_i hoff
      obtain ⟨c, hc, h⟩ := Option.bind_eq_some_iff.1 h
      split at h
      · rename_i hcl
        simp only [Option.map_eq_some_iff] at h
        obtain ⟨r, hr, rfl⟩ := h
        obtain ⟨x, hx1⟩ := hx f (by simp)
        obtain ⟨m1, X1, v1, e1, r1, s1, f1⟩ := ih f.type c hc _ _ _ hx1 m H hR
        obtain ⟨m2, X2, v2, e2, r2, s2, f2⟩ := open_fields hB ih fs (off + c.length) r hr (by simp at hl; omega) (fun g hg => hx g (by simp [hg])) m1 (H ++ X1) r1
        refine ⟨m2, X1 ++ X2, v1 ++ v2, e1.trans e2, by simpa using r2, ?_, ?_⟩
        · have : cs.drop off = (cs.drop off).take c.length ++ cs.drop (off + c.length) := by
            rw [← List.drop_drop, List.take_append_drop]
          rw [this]
          rw [hoff, ← hcl] at s1
          exact (s1.ext e2).append s2
        · rw [← List.append_assoc]
          exact (f1.mono (app_mono X2)).append f2
      · cases h
    · cases h
theorem open_flat (hB : B0 = w.heap.size) : ∀ (n : Nat) (t : TypeId) (cts : List CT), flat P n t = some cts → ∀ (fuel : Nat) (cs : List Value) (x : DataW K × List MemPlace), DataW.trod enc P w 0 (fun _ => true) held fuel t cs = some x → ∀ m H, Rel B0 w0 m H w → Opened B0 w0 w m H cts cs
  | 0, _, _, h => by simp [flat] at h
  | n + 1, t, cts, h => by
    intro fuel cs x hx m H hR
    have hxx := hx
    simp only [flat] at h
    split at h
    · rename_i hu
      cases h
      obtain ⟨b, rfl, _⟩ := DataW.trod_bool hu hx
      exact ⟨m, [], [.bool b], Ext.refl m, by simpa using hR, VRs.cons (VR_bool m b) (VRs.nil m), by simp [Fits, Fit]⟩
    · rename_i k hu
      cases h
      obtain ⟨i, rfl, _, hw⟩ := DataW.trod_int hu hx
      exact ⟨m, [], [.int k i], Ext.refl m, by simpa using hR, VRs.cons (VR_int m k i) (VRs.nil m), by simp [Fits, Fit, hw]⟩
    · rename_i hu
      cases h
      obtain ⟨s, rfl, _, hw⟩ := DataW.trod_string hu hx
      refine ⟨m, [], [.str s.data.toList], Ext.refl m, by simpa using hR, VRs.cons (by simp [VR]) (VRs.nil m), ?_⟩
      simp only [Fits, Fit]
      exact ⟨_, _, rfl, ⟨_, rfl, by rw [Array.length_toList]; exact hw⟩, rfl⟩
    · rename_i e hu
      obtain ⟨es, he, h⟩ := Option.bind_eq_some_iff.1 h
      split at h
      · rename_i hne
        cases h
        rcases Go.Deep.open_slice hu hx with ⟨rfl, _⟩ | ⟨a, len, cap, mm, k, D, Pl, rfl, _, hlc, hcm, hmm, _, hi⟩
        · refine ⟨m, [], [.nilSlice], Ext.refl m, by simpa using hR, VRs.cons (by simp [VR]) (VRs.nil m), ?_⟩
          simp only [Fits, Fit]
          exact ⟨_, _, rfl, .inl rfl, rfl⟩
        · simp only [if_true] at hmm
          subst hmm
          have hC : 0 < es.length := List.length_pos_iff.2 hne.2
          have key : ∀ j, j ≤ mm → ∃ (m' : Mp) (X : Heap) (elems : List (List IV)), Ext m m' ∧ Rel B0 w0 m' (H ++ X) w ∧ elems.length = j ∧ (∀ e' ∈ elems, Fits (H ++ X) es e') ∧ elems.flatten.length = j * es.length ∧
              (∀ (q : Nat) v, elems.flatten[q]? = some v → ∃ u, w.cell? (a.add q) = some u ∧ VR m' v u) := by
            intro j
            induction j with
            | zero => intro _; exact ⟨m, [], [], Ext.refl m, by simpa using hR, rfl, by simp, by simp, by simp⟩
            | succ j ihj =>
              intro hj
              obtain ⟨m1, X1, el, e1, r1, l1, f1, c1, v1⟩ := ihj (by omega)
              obtain ⟨cs', hc, ht⟩ := hi j (by omega)
              obtain ⟨_, hcl, hat⟩ := World.cells?_some hc
              obtain ⟨m2, X2, iv, e2, r2, s2, f2⟩ := open_flat hB n e es he _ _ _ ht m1 (H ++ X1) r1
              have hivl := f2.length
              refine ⟨m2, X1 ++ X2, el ++ [iv], e1.trans e2, by simpa using r2, by simp [l1], ?_, ?_, ?_⟩
              · intro e' he'
                rw [← List.append_assoc]
                rcases List.mem_append.1 he' with he' | he'
                · exact (f1 e' he').mono (app_mono X2)
                · simp at he'; subst he'; exact f2
              · simp only [List.flatten_append, List.length_append, c1, List.flatten_cons, List.flatten_nil, List.append_nil, hivl]
                rw [Nat.add_mul]; omega
              · intro q v hq
                simp only [List.flatten_append, List.flatten_cons, List.flatten_nil, List.append_nil] at hq
                rw [List.getElem?_append] at hq
                split at hq
                · obtain ⟨u, hu1, hu2⟩ := v1 q v hq
                  exact ⟨u, hu1, hu2.ext e2⟩
                · rename_i hge
                  rw [c1] at hge hq
                  obtain ⟨u, hu1, hu2⟩ := s2.get hq
                  have hql : q - j * es.length < es.length := by have h9 := (List.getElem?_eq_some_iff.1 hq).1; rw [hivl] at h9; exact h9
                  have := hat (q - j * es.length) (by rw [← hne.1]; exact hql)
                  rw [hu1, add_add', ← hne.1, show j * es.length + (q - j * es.length) = q by omega] at this
                  exact ⟨u, this, hu2⟩
          obtain ⟨m1, X1, el, e1, r1, l1, f1, c1, v1⟩ := key mm (Nat.le_refl _)
          have hspot : 0 < mm → a.spot = none := by
            intro hm
            have hl : 0 < el.flatten.length := by rw [c1]; exact Nat.mul_pos hm hC
            obtain ⟨u, hu1, _⟩ := v1 0 _ (List.getElem?_eq_getElem hl)
            have := (cell_lt hu1).1
            simpa [Addr.add] using this
          have hrow : el.flatten ≠ [] → ∃ C e fr, w.heap[a.block]? = some (.cells C e fr) ∧ a.block < B0 ∧ ∀ (j : Nat) v, el.flatten[j]? = some v → v.one = true ∧ ∃ u, C[a.off + j]? = some u ∧ VR m1 v u := by
            intro hne'
            have hl : 0 < el.flatten.length := List.length_pos_iff.2 hne'
            obtain ⟨u, hu1, _⟩ := v1 0 _ (List.getElem?_eq_getElem hl)
            obtain ⟨_, C, e', fr, hc, _⟩ := cell_lt hu1
            have ha0 : (a.add 0) = a := by simp [Addr.add]
            rw [ha0] at hc
            refine ⟨C, e', fr, hc, by rw [hB]; exact (Array.getElem?_eq_some_iff.1 hc).1, fun j v hj => ?_⟩
            obtain ⟨u', hu', hr'⟩ := v1 j v hj
            obtain ⟨_, C', e'', fr', hc', hcu⟩ := cell_lt hu'
            have hab : (a.add j).block = a.block := by unfold Addr.add; split <;> rfl
            have hao : (a.add j).off = a.off + j := by unfold Addr.add; split <;> simp_all
            rw [hab, hc] at hc'; cases hc'
            rw [hao] at hcu
            have hmem : v ∈ el.flatten := List.mem_of_getElem? hj
            obtain ⟨e0, he0, hve⟩ := List.mem_flatten.1 hmem
            exact ⟨(f1 e0 he0).one v hve, u', hcu, hr'⟩
          have hp := r1.pushRo ⟨a.block, a.off, 0⟩ el.flatten hrow
          have hext := grow_ext r1 ⟨a.block, a.off, 0⟩
          refine ⟨_, X1 ++ [.row el.flatten true], [.slice (H ++ X1).length 0 len el.length true 0], e1.trans hext, by rw [← List.append_assoc]; exact hp, VRs.cons ?_ (VRs.nil _), ?_⟩
          · simp only [VR]
            refine ⟨_, a.off, mm, a.spot, grow_at _ _ _, rfl, by omega, by omega, fun _ => l1.symm, fun h0 => ⟨rfl, hspot (by omega)⟩, fun h0 => absurd h0 (by omega)⟩
          · simp only [Fits, Fit]
            refine ⟨_, _, rfl, .inr ⟨_, len, el, rfl, by rw [← List.append_assoc]; simp, by omega, by omega, fun e' he' => ?_⟩, rfl⟩
            rw [← List.append_assoc]
            exact (f1 e' he').mono (app_mono _)
      · cases h
    · rename_i fs hu
      obtain ⟨cs', hc, h⟩ := Option.bind_eq_some_iff.1 h
      split at h
      · rename_i hl
        cases h
        obtain ⟨xs, k, _, _, hcl, hxl, hf⟩ := DataW.trod_struct hu hx
        have := open_fields (fuel := k) (cs := cs) hB (open_flat hB n) fs.toList 0 cts hc (by omega) (fun f hf' => by
          obtain ⟨i, hi⟩ := List.mem_iff_getElem?.1 hf'
          have hil : i < fs.size := by simpa using (List.getElem?_eq_some_iff.1 hi).1
          rw [hf i f (by simpa using hi)]
          exact ⟨_, List.getElem?_eq_getElem (by omega)⟩) m H hR
        simpa using this
      · cases h
    · cases h

/-- What one argument becomes: its cells' kinds, and whether it is a struct. -/
def FitA (H : Heap) (cts : List CT) (agg : Bool) (v : IV) : Prop :=
  match agg with
  | true => ∃ ivs, v = .agg ivs ∧ Fits H cts ivs
  | false => ∃ c, cts = [c] ∧ Fit H c v
theorem FitA.mono {H H' : Heap} (h : ∀ (b : Nat) o, H[b]? = some o → H'[b]? = some o) {cts : List CT} {agg : Bool} {v : IV} (hf : FitA H cts agg v) : FitA H' cts agg v := by
  cases agg with
  | true => obtain ⟨ivs, h1, h2⟩ := hf; exact ⟨ivs, h1, h2.mono h⟩
  | false => obtain ⟨c, h1, h2⟩ := hf; exact ⟨c, h1, h2.mono h⟩
structure AT where
  cts : List CT
  agg : Bool
def FitAll (H : Heap) : List AT → List IV → Prop
  | [], vs => vs = []
  | a :: as, vs => ∃ v r, vs = v :: r ∧ FitA H a.cts a.agg v ∧ FitAll H as r
theorem FitAll.mono {H H' : Heap} (h : ∀ (b : Nat) o, H[b]? = some o → H'[b]? = some o) : ∀ {as : List AT} {vs : List IV}, FitAll H as vs → FitAll H' as vs
  | [], vs, hf => hf
  | a :: as, vs, hf => by
    obtain ⟨v, r, h1, h2, h3⟩ := hf
    exact ⟨v, r, h1, h2.mono h, FitAll.mono h h3⟩
def aggOf (P : Program) (t : TypeId) : Bool := match P.underlying t with
  | some (.struct _) | some (.array _ _) => true
  | _ => false
def atOf (P : Program) (n : Nat) (t : TypeId) : Option AT := (flat P n t).map fun c => ⟨c, aggOf P t⟩
def atsOf (P : Program) (n : Nat) : List TypeId → Option (List AT)
  | [] => some []
  | t :: ts => (atOf P n t).bind fun a => (atsOf P n ts).bind fun as => some (a :: as)
theorem open_one (hB : B0 = w.heap.size) {n : Nat} {t : TypeId} {cts : List CT} (hfl : flat P n t = some cts) {v : Value} {d : DataW K} {p : List MemPlace} {r : Reach} {b0 : Nat} (hv : Value.okWide P w r b0 t v) (ht : DataW.Trod enc P w 0 (fun _ => true) held t v d p) {m : Mp} {H : Heap} (hR : Rel B0 w0 m H w) :
    ∃ m' X iv, Ext m m' ∧ Rel B0 w0 m' (H ++ X) w ∧ VR m' iv v ∧ FitA (H ++ X) cts (aggOf P t) iv := by
  obtain ⟨fuel, hf⟩ := ht
  obtain ⟨m', X, ivs, h1, h2, h3, h4⟩ := open_flat hB n t cts hfl fuel _ _ hf m H hR
  cases ha : aggOf P t with
  | true =>
    have hagg : ∃ cs, v = .agg cs := by
      unfold aggOf at ha
      split at ha
      · rename_i hu; simp only [Value.okWide, hu] at hv; obtain ⟨cs, hv, _⟩ := hv; exact ⟨cs, hv⟩
      · rename_i hu; simp only [Value.okWide, hu] at hv; obtain ⟨cs, hv, _⟩ := hv; exact ⟨cs, hv⟩
      · cases ha
    obtain ⟨cs, rfl⟩ := hagg
    exact ⟨m', X, .agg ivs, h1, h2, by simp only [VR]; exact ⟨cs, rfl, by simpa [Value.cells] using h3⟩, ⟨ivs, rfl, h4⟩⟩
  | false =>
    have hone : ∃ c, cts = [c] := by
      cases n with
      | zero => simp [flat] at hfl
      | succ n =>
        simp only [flat] at hfl
        split at hfl
        · cases hfl; exact ⟨_, rfl⟩
        · cases hfl; exact ⟨_, rfl⟩
        · cases hfl; exact ⟨_, rfl⟩
        · obtain ⟨es, _, hfl⟩ := Option.bind_eq_some_iff.1 hfl
          split at hfl
          · cases hfl; exact ⟨_, rfl⟩
          · cases hfl
        · rename_i fs hu; unfold aggOf at ha; rw [hu] at ha; cases ha
        · cases hfl
    obtain ⟨c, rfl⟩ := hone
    simp only [Fits] at h4
    obtain ⟨iv, rr, rfl, h5, rfl⟩ := h4
    simp only [VRs] at h3
    obtain ⟨u, us, h6, h7, h8⟩ := h3
    subst h8
    have hvc : v = u := by
      have hna : ∀ cs, v ≠ .agg cs := by
        rintro cs rfl
        cases n with
        | zero => simp [flat] at hfl
        | succ n =>
          simp only [flat] at hfl
          simp only [Value.okWide] at hv
          unfold aggOf at ha
          cases hu : P.underlying t with
          | none => rw [hu] at hfl; cases hfl
          | some dd => rw [hu] at hv ha; cases dd <;> simp_all [Cell.okWide, Cell.ok]
      cases v <;> simp_all [Value.cells]
    subst hvc
    exact ⟨m', X, iv, h1, h2, h7, ⟨c, rfl, h5⟩⟩
theorem open_all (hB : B0 = w.heap.size) {n : Nat} {r : Reach} {b0 : Nat} : ∀ {ts : List TypeId} {as : List AT} {vs : List Value} {ds : List (DataW K)} {p : List MemPlace}, atsOf P n ts = some as →
    (∀ (j : Nat) t v, ts[j]? = some t → vs[j]? = some v → Value.okWide P w r b0 t v) → DataW.TrodAll enc P w 0 (fun _ => true) held ts vs ds p → ∀ {m : Mp} {H : Heap}, Rel B0 w0 m H w →
    ∃ m' X ivs, Ext m m' ∧ Rel B0 w0 m' (H ++ X) w ∧ VRs m' ivs vs ∧ FitAll (H ++ X) as ivs
  | [], as, vs, ds, p, ha, hv, ht, m, H, hR => by
    simp only [atsOf] at ha; cases ha
    cases vs with
    | nil => exact ⟨m, [], [], Ext.refl m, by simpa using hR, VRs.nil m, rfl⟩
    | cons v vs => cases ds <;> simp [DataW.TrodAll] at ht
  | t :: ts, as, vs, ds, p, ha, hv, ht, m, H, hR => by
    simp only [atsOf] at ha
    obtain ⟨a, ha1, ha⟩ := Option.bind_eq_some_iff.1 ha
    obtain ⟨as', ha2, ha⟩ := Option.bind_eq_some_iff.1 ha
    cases ha
    cases vs with
    | nil => cases ds <;> simp [DataW.TrodAll] at ht
    | cons v vs =>
      cases ds with
      | nil => simp [DataW.TrodAll] at ht
      | cons d ds =>
        simp only [DataW.TrodAll] at ht
        obtain ⟨p1, q1, t1, t2, _⟩ := ht
        simp only [atOf, Option.map_eq_some_iff] at ha1
        obtain ⟨c, hc, rfl⟩ := ha1
        obtain ⟨m1, X1, iv, e1, r1, v1, f1⟩ := open_one hB hc (hv 0 t v rfl rfl) t1 hR
        obtain ⟨m2, X2, ivs, e2, r2, v2, f2⟩ := open_all hB ha2 (fun j t' v' h1 h2 => hv (j + 1) t' v' (by simpa using h1) (by simpa using h2)) t2 r1
        refine ⟨m2, X1 ++ X2, iv :: ivs, e1.trans e2, by simpa using r2, VRs.cons (v1.ext e2) v2, ⟨iv, ivs, rfl, ?_, ?_⟩⟩
        · rw [← List.append_assoc]; exact f1.mono (app_mono X2)
        · rw [← List.append_assoc]; exact f2
end
end Go.Shade
