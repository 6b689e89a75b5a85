/- SHADE, part 7: assertions, look-ups, lengths, values put together. -/
import Derived.Test.YtdljmmdbpngchaaShadeQuiet2
namespace Go.Shade
open Go.RowKit
set_option linter.unusedSimpArgs false

def isIface (P : Program) (t : TypeId) : Option Bool :=
  match P.underlying t with
  | some (.interface _) => some true
  | some _ => some false
  | none => none
def imakeIface (P : Program) (t : TypeId) (x : IV) : Option IV := if isIface P t = some false then some (.iface t x) else none
theorem run_imakeIface {P : Program} {m : Mp} {t : TypeId} {x r : IV} {v : Value} (hx : VR m x v) (h : imakeIface P t x = some r) (w : World) :
    ∃ u, (Instr.makeInterface t v).run P w = .ok u w ∧ VR m r u := by
  unfold imakeIface at h
  split at h
  · rename_i hi
    cases h
    unfold isIface at hi
    cases hu : P.underlying t with
    | none => simp [hu] at hi
    | some d =>
      refine ⟨.iface t v, ?_, by simp only [VR]; exact ⟨v, rfl, hx⟩⟩
      cases d <;> simp_all [Instr.makeInterface, run_underlying hu]
  · cases h

def iassert (P : Program) (x : IV) (T : TypeId) (ok : Bool) : Option IV :=
  match P.underlying T, x with
  | some (.interface want), .iface t v => match P.info? t with
    | some i => if (Instr.missingMethod want i.methods).isNone then some (if ok then .tuple [.iface t v, .bool true] else .iface t v) else none
    | none => none
  | some (.interface _), _ => none
  | some _, .nilIface => if ok then (zeroOf P T).bind fun z => some (.tuple [z, .bool false]) else none
  | some _, .iface t v => if t = T then some (if ok then .tuple [v, .bool true] else v) else if ok then (zeroOf P T).bind fun z => some (.tuple [z, .bool false]) else none
  | _, _ => none
theorem VR_pair {m : Mp} {x : IV} {v : Value} (h : VR m x v) (b : Bool) : VR m (.tuple [x, .bool b]) (.tuple #[v, .bool b]) := by
  simp only [VR]; exact ⟨_, rfl, VRs.cons h (VRs.cons (VR_bool m b) (VRs.nil m))⟩
theorem run_iassert {P : Program} {m : Mp} {xT T : TypeId} {ok : Bool} {x r : IV} {v : Value} (hx : VR m x v) (h : iassert P x T ok = some r) (w : World) :
    ∃ u, (Instr.typeAssert v xT T ok).run P w = .ok u w ∧ VR m r u := by
  unfold iassert at h
  split at h
  · rename_i want t y hund
    split at h
    · rename_i i hi
      split at h
      · rename_i hmiss
        cases h
        have hm : Instr.missingMethod want i.methods = none := by simpa using hmiss
        simp only [VR] at hx
        obtain ⟨z, rfl, hz⟩ := hx
        have hzz : VR m (.iface t y) (.iface t z) := by simp only [VR]; exact ⟨z, rfl, hz⟩
        cases ok with
        | true => exact ⟨.tuple #[.iface t z, .bool true], by simp [Instr.typeAssert, run_underlying hund, run_info hi, hm], VR_pair hzz _⟩
        | false => exact ⟨.iface t z, by simp [Instr.typeAssert, run_underlying hund, run_info hi, hm], hzz⟩
      · cases h
    · cases h
  · cases h
  · rename_i d hni hund
    split at h
    · rename_i hok
      obtain ⟨z, hz, h⟩ := Option.bind_eq_some_iff.1 h
      cases h
      simp only [VR] at hx; subst hx
      obtain ⟨u, hu, hr⟩ := run_zero hz w m
      refine ⟨.tuple #[u, .bool false], ?_, VR_pair hr _⟩
      have hd : ∀ ms, d ≠ .interface ms := fun ms e => by subst e; simp_all
      cases d <;> first
        | exact absurd rfl (hd _)
        | simp [Instr.typeAssert, run_underlying hund, hu, hok]
    · cases h
  · rename_i d t y hni hund
    have hd : ∀ ms, d ≠ .interface ms := fun ms e => by subst e; simp_all
    simp only [VR] at hx
    obtain ⟨z, rfl, hz⟩ := hx
    split at h
    · rename_i ht
      cases h
      subst ht
      cases ok with
      | true =>
        refine ⟨.tuple #[z, .bool true], ?_, VR_pair hz _⟩
        cases d <;> first
          | exact absurd rfl (hd _)
          | simp [Instr.typeAssert, run_underlying hund]
      | false =>
        refine ⟨z, ?_, hz⟩
        cases d <;> first
          | exact absurd rfl (hd _)
          | simp [Instr.typeAssert, run_underlying hund]
    · rename_i ht
      split at h
      · rename_i hok
        obtain ⟨q, hq, h⟩ := Option.bind_eq_some_iff.1 h
        cases h
        obtain ⟨u, hu, hr⟩ := run_zero hq w m
        refine ⟨.tuple #[u, .bool false], ?_, VR_pair hr _⟩
        cases d <;> first
          | exact absurd rfl (hd _)
          | simp [Instr.typeAssert, run_underlying hund, hu, hok, ht]
      · cases h
  · cases h

/-! ### maps -/
/-- Where a key stands, and what it leads to. -/
def ifind (key : IV) : List (IV × IV × Nat) → Nat → Option (Option (Nat × IV))
  | [], _ => some none
  | (k, v, _) :: es, i => match cellEq key k with
    | some true => some (some (i, v))
    | some false => ifind key es (i + 1)
    | none => none
theorem run_checkKey {P : Program} {m : Mp} {t : TypeId} {x : IV} {v : Value} (hs : scalarT P t x = true) (hv : VR m x v) (b : Bool) (n : Nat) (w : World) : (Instr.checkKey b (n + 1) t v).run P w = .ok () w := by
  rcases scalar_value hs hv with ⟨k, k1, i, h1, rfl, rfl⟩ | ⟨c, h1, rfl, rfl⟩ | ⟨s, h1, rfl, rfl⟩ <;>
    (rw [Instr.checkKey, Sem.run_bind, run_underlying h1]; rfl)
theorem sameNow_cellEq {P : Program} {m : Mp} {t : TypeId} {x y : IV} {u v : Value} {d : TypeDesc} {b : Bool} (hd : P.underlying t = some d) (hs : scalarT P t x = true) (hu : VR m x u) (hv : VR m y v) (h : cellEq x y = some b) : Instr.sameNow d u v = some b := by
  rcases scalar_value hs hu with ⟨k, k1, i, h1, rfl, rfl⟩ | ⟨c, h1, rfl, rfl⟩ | ⟨s, h1, rfl, rfl⟩ <;> rw [hd] at h1 <;> cases h1 <;> cases y <;> simp only [cellEq] at h <;> first
    | (cases h; done)
    | skip
  · simp only [VR] at hv; subst hv
    split at h
    · rename_i e; cases h; simp [Instr.sameNow, e]
    · cases h
  · simp only [VR] at hv; subst hv; cases h; rfl
  · simp only [VR] at hv; subst hv; cases h; simp [Instr.sameNow, mk_beq]
theorem findNow_ifind {P : Program} {m : Mp} {t : TypeId} {x : IV} {u : Value} {d : TypeDesc} (hd : P.underlying t = some d) (hs : scalarT P t x = true) (hu : VR m x u) :
    ∀ (es : List (IV × IV × Nat)) (es' : List MapEntry) (i : Nat) (r : Option (Nat × IV)), es.length = es'.length → (∀ (j : Nat) y, es[j]? = some y → ∃ e, es'[j]? = some e ∧ ERel m y e) → ifind x es i = some r →
      (r = none ∧ Instr.findNow d u es' i = some none) ∨ (∃ j v z, r = some (j, v) ∧ Instr.findNow d u es' i = some (some (j, z)) ∧ VR m v z ∧ i ≤ j ∧ ∃ k b e, es[j - i]? = some (k, v, b) ∧ cellEq x k = some true ∧ es'[j - i]? = some e ∧ e.val = z)
  | [], es', i, r, hlen, _, h => by
    simp only [ifind] at h; cases h
    have : es' = [] := List.length_eq_zero_iff.1 hlen.symm
    subst this
    exact .inl ⟨rfl, rfl⟩
  | (k, v, b) :: es, [], i, r, hlen, _, h => by simp at hlen
  | (k, v, b) :: es, e :: es', i, r, hlen, hes, h => by
    obtain ⟨e', he, hk, hv, hb⟩ := hes 0 _ (by simp; rfl)
    simp at he; subst he
    unfold ifind at h
    cases hc : cellEq x k with
    | none => simp [hc] at h
    | some c =>
      have hsn := sameNow_cellEq (P := P) hd hs hu hk hc
      cases c with
      | true =>
        simp only [hc] at h; cases h
        refine .inr ⟨i, v, e.val, rfl, ?_, hv, Nat.le_refl _, k, b, e, by simp, hc, by simp, rfl⟩
        simp [Instr.findNow, hsn]
      | false =>
        simp only [hc] at h
        have ih := findNow_ifind hd hs hu es es' (i + 1) r (by simpa using hlen) (fun j y hy => by simpa using hes (j + 1) y (by simpa using hy)) h
        have hf : Instr.findNow d u (e :: es') i = Instr.findNow d u es' (i + 1) := by simp [Instr.findNow, hsn]
        rw [hf]
        rcases ih with ih | ⟨j, q, z, h1, h2, h3, h4, k', b', e', h5, h6, h7, h8⟩
        · exact .inl ih
        · refine .inr ⟨j, q, z, h1, h2, h3, by omega, k', b', e', ?_, h6, ?_, h8⟩
          · rw [show j - i = j - (i + 1) + 1 by omega]; simpa using h5
          · rw [show j - i = j - (i + 1) + 1 by omega]; simpa using h7

def iment (H : Heap) (x : IV) : Option (List (IV × IV × Nat)) :=
  match x with
  | .nilMap => some []
  | .map r => match H[r]? with
    | some (.map es _) => some es
    | _ => none
  | _ => none
theorem run_iment {B0 : Nat} {w0 w : World} {m : Mp} {H : Heap} (hR : Rel B0 w0 m H w) {x : IV} {v : Value} {es : List (IV × IV × Nat)} (hx : VR m x v) (h : iment H x = some es) :
    (v = .map none ∧ es = []) ∨ (∃ b es' clock, v = .map (some b) ∧ w.heap[b]? = some (.map es' clock) ∧ es.length = es'.size ∧ ∀ (j : Nat) y, es[j]? = some y → ∃ e, es'[j]? = some e ∧ ERel m y e) := by
  unfold iment at h
  split at h
  · cases h; simp only [VR] at hx; exact .inl ⟨hx, rfl⟩
  · rename_i r
    split at h
    · rename_i es1 clock hr
      cases h
      simp only [VR] at hx
      obtain ⟨l, hl, rfl⟩ := hx
      obtain ⟨l', es', h1, h2, h3, h4, h5⟩ := hR.good r _ hr
      rw [hl] at h1; cases h1
      exact .inr ⟨l.cb, es', clock, rfl, h2, h4, h5⟩
    · cases h
  · cases h
def ilookup (P : Program) (H : Heap) (t : TypeId) (x key : IV) (ok : Bool) : Option IV :=
  match P.underlying t with
  | some (.map kt et) =>
    (iment H x).bind fun es => if scalarT P kt key then
      (ifind key es 0).bind fun r => match r with
        | some (_, v) => some (if ok then .tuple [v, .bool true] else v)
        | none => (zeroOf P et).bind fun z => some (if ok then .tuple [z, .bool false] else z)
      else none
  | _ => none
theorem run_ilookup {P : Program} {B0 : Nat} {w0 w : World} {m : Mp} {H : Heap} (hR : Rel B0 w0 m H w) {t : TypeId} {x key r : IV} {ok : Bool} {v vk : Value} (hx : VR m x v) (hk : VR m key vk) (h : ilookup P H t x key ok = some r) :
    ∃ u, (Instr.lookup t v vk ok).run P w = .ok u w ∧ VR m r u := by
  unfold ilookup at h
  split at h
  · rename_i kt et hund
    obtain ⟨es, hes, h⟩ := Option.bind_eq_some_iff.1 h
    split at h
    · rename_i hs
      obtain ⟨r', hr', h⟩ := Option.bind_eq_some_iff.1 h
      obtain ⟨d, hd⟩ : ∃ d, P.underlying kt = some d := by
        unfold scalarT at hs
        cases hu : P.underlying kt with
        | none => simp [hu] at hs
        | some d => exact ⟨d, rfl⟩
      have hck := fun b => run_checkKey (P := P) hs hk b 9999 w
      have main : ∀ es' : Array MapEntry, es.length = es'.size → (∀ (j : Nat) y, es[j]? = some y → ∃ e, es'[j]? = some e ∧ ERel m y e) →
          (∃ u, (Instr.findKey kt vk es'.toList).run P w = .ok none w ∧ (zeroValue et).run P w = .ok u w ∧ VR m r (if ok then .tuple #[u, .bool false] else u)) ∨
          (∃ j u, (Instr.findKey kt vk es'.toList).run P w = .ok (some (j, u)) w ∧ VR m r (if ok then .tuple #[u, .bool true] else u)) := by
        intro es' hlen hrel
        have hf := findNow_ifind (P := P) hd hs hk es es'.toList 0 r' (by simpa using hlen) (fun j y hy => by obtain ⟨e, he, hr⟩ := hrel j y hy; exact ⟨e, by simpa using he, hr⟩) hr'
        rcases hf with ⟨rfl, hf⟩ | ⟨j, q, z, rfl, hf, hz, _⟩
        · simp only at h
          obtain ⟨z, hz, h⟩ := Option.bind_eq_some_iff.1 h
          cases h
          obtain ⟨u, hu, hr⟩ := run_zero hz w m
          refine .inl ⟨u, by simp [Instr.findKey, run_underlying hd, hf], hu, ?_⟩
          cases ok with
          | true => exact VR_pair hr _
          | false => exact hr
        · simp only at h; cases h
          refine .inr ⟨j, z, by simp [Instr.findKey, run_underlying hd, hf], ?_⟩
          cases ok with
          | true => exact VR_pair hz _
          | false => exact hz
      rcases run_iment hR hx hes with ⟨rfl, rfl⟩ | ⟨b, es', clock, rfl, hb, hlen, hrel⟩
      · rcases main #[] rfl (by simp) with ⟨u, h1, h2, h3⟩ | ⟨j, u, h1, h3⟩
        · exact ⟨_, by simp only [Instr.lookup, Sem.run_bind, run_underlying hund, Result.andThen_ok, Sem.run_pure, hck, h1, h2], h3⟩
        · exact ⟨_, by simp only [Instr.lookup, Sem.run_bind, run_underlying hund, Result.andThen_ok, Sem.run_pure, hck, h1], h3⟩
      · have hg : (getObj b).run P w = .ok (.map es' clock) w := by simp [getObj, Sem.run, hb]
        rcases main es' hlen hrel with ⟨u, h1, h2, h3⟩ | ⟨j, u, h1, h3⟩
        · exact ⟨_, by simp only [Instr.lookup, Sem.run_bind, run_underlying hund, Result.andThen_ok, Sem.run_pure, hg, hck, h1, h2], h3⟩
        · exact ⟨_, by simp only [Instr.lookup, Sem.run_bind, run_underlying hund, Result.andThen_ok, Sem.run_pure, hg, hck, h1], h3⟩
    · cases h
  · cases h

/-! ### lengths; the least and the greatest -/
def ilen (P : Program) (H : Heap) (t : TypeId) (x : IV) : Option IV :=
  match P.underlying t, x with
  | some .string, .str s => some (.int .i64 s.length)
  | some (.slice _), .slice _ _ n _ _ _ => some (.int .i64 n)
  | some (.slice _), .nilSlice => some (.int .i64 0)
  | some (.array n _), _ => some (.int .i64 n)
  | some (.map _ _), x => (iment H x).bind fun es => some (.int .i64 es.length)
  | _, _ => none
theorem run_ilen {P : Program} {B0 : Nat} {w0 w : World} {m : Mp} {H : Heap} (hR : Rel B0 w0 m H w) {t ty : TypeId} {ts : Array TypeId} {x r : IV} {v : Value} (ht : ts[0]? = some t) (hx : VR m x v) (h : ilen P H t x = some r) :
    ∃ u, (Builtin.len_ ts ty #[v]).run P w = .ok u w ∧ VR m r u := by
  unfold ilen at h
  split at h
  · rename_i s hund
    cases h; simp only [VR] at hx; subst hx
    exact ⟨_, by simp [Builtin.len_, ht, run_underlying hund, size_mk, goInt], VR_int m _ _⟩
  · rename_i hund
    cases h; simp only [VR] at hx; obtain ⟨l, o1, c, sp, _, rfl, _⟩ := hx
    exact ⟨_, by simp [Builtin.len_, ht, run_underlying hund, goInt], VR_int m _ _⟩
  · rename_i hund
    cases h; simp only [VR] at hx; subst hx
    exact ⟨_, by simp [Builtin.len_, ht, run_underlying hund, goInt], VR_int m _ _⟩
  · rename_i hund
    cases h
    exact ⟨_, by simp [Builtin.len_, ht, run_underlying hund, goInt], VR_int m _ _⟩
  · rename_i hund
    obtain ⟨es, hes, h⟩ := Option.bind_eq_some_iff.1 h
    cases h
    rcases run_iment hR hx hes with ⟨rfl, rfl⟩ | ⟨b, es', clock, rfl, hb, hlen, hrel⟩
    · exact ⟨_, by simp [Builtin.len_, ht, run_underlying hund, goInt], VR_int m _ _⟩
    · have hg : (getObj b).run P w = .ok (.map es' clock) w := by simp [getObj, Sem.run, hb]
      refine ⟨.int .i64 es'.size, by simp [Builtin.len_, ht, run_underlying hund, goInt, hg], ?_⟩
      rw [hlen]; exact VR_int m _ _
  · cases h
def imax2 : IV → IV → Option IV
  | .int k x, .int k' y => if k = k' then some (.int k (if y > x then y else x)) else none
  | _, _ => none
def imin2 : IV → IV → Option IV
  | .int k x, .int k' y => if k = k' then some (.int k (if y < x then y else x)) else none
  | _, _ => none
def ifold (f : IV → IV → Option IV) : IV → List IV → Option IV
  | x, [] => some x
  | x, y :: ys => (f x y).bind fun z => ifold f z ys
theorem run_ifold {P : Program} {m : Mp} {f : IV → IV → Option IV} {g : Value → Value → Sem Value} (w : World) (hfg : ∀ x y r u v, VR m x u → VR m y v → f x y = some r → ∃ z, (g u v).run P w = .ok z w ∧ VR m r z) :
    ∀ (ys : List IV) (vs : List Value) (x r : IV) (u : Value), VR m x u → VRs m ys vs → ifold f x ys = some r → ∃ z, (vs.foldlM g u).run P w = .ok z w ∧ VR m r z
  | [], vs, x, r, u, hx, hy, h => by
    simp only [VRs] at hy; subst hy
    simp only [ifold] at h; cases h
    exact ⟨u, by simp, hx⟩
  | y :: ys, vs, x, r, u, hx, hy, h => by
    simp only [VRs] at hy
    obtain ⟨v, vs', rfl, h1, h2⟩ := hy
    simp only [ifold] at h
    obtain ⟨q, h3, h4⟩ := Option.bind_eq_some_iff.1 h
    obtain ⟨z, h5, h6⟩ := hfg _ _ _ _ _ hx h1 h3
    obtain ⟨z', h7, h8⟩ := run_ifold w hfg ys vs' q r z h6 h2 h4
    exact ⟨z', by simp [List.foldlM_cons, h5, h7], h8⟩
theorem run_imax2 {P : Program} {m : Mp} (w : World) (x y r : IV) (u v : Value) (hu : VR m x u) (hv : VR m y v) (h : imax2 x y = some r) : ∃ z, (Builtin.max2 u v).run P w = .ok z w ∧ VR m r z := by
  unfold imax2 at h
  split at h
  · split at h
    · rename_i e; cases h; subst e
      simp only [VR] at hu hv; subst hu; subst hv
      exact ⟨_, rfl, VR_int m _ _⟩
    · cases h
  · cases h
theorem run_imin2 {P : Program} {m : Mp} (w : World) (x y r : IV) (u v : Value) (hu : VR m x u) (hv : VR m y v) (h : imin2 x y = some r) : ∃ z, (Builtin.min2 u v).run P w = .ok z w ∧ VR m r z := by
  unfold imin2 at h
  split at h
  · split at h
    · rename_i e; cases h; subst e
      simp only [VR] at hu hv; subst hu; subst hv
      exact ⟨_, rfl, VR_int m _ _⟩
    · cases h
  · cases h
end Go.Shade
