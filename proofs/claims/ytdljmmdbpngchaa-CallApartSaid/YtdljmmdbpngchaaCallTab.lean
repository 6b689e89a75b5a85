/- CALL, part 8: summaries of the layer 'call', for a program's table. -/
import Derived.Test.YtdljmmdbpngchaaCallScr
namespace Go.Shade
set_option linter.unusedVariables false
set_option linter.unusedSimpArgs false

/-- A function of the program, and its low code. -/
def LoF (P : Program) (f : FuncId) (lf : LFun) : Prop := (∃ fn, P.funcs[f]? = some fn ∧ lowF P fn = some lf) ∧ callable P f = true
theorem simOf {P : Program} {T : Table} (hT : SoundT P T) (hm : P.follows .mixedOrders = true) {f : FuncId} {lf : LFun} (h0 : T f = none) (hl : LoF P f lf) (N : Nat) {args : List IV} {H H' : Heap} {r : IV} (hn : args.length ≤ lf.n) (hr : lrunK (callable P) (den P T) N lf args H = some (r, H')) : SimCall P f args H r H' := by
  obtain ⟨⟨fn, h1, h2⟩, _⟩ := hl
  exact sim_low hT hm (cal := callable P) (fun _ h => h) h0 h1 h2 hn (lrunK_le hr)
abbrev RelT := List IV → Heap → IV × Heap → Prop
theorem den_tab {P : Program} {T : Table} {f : FuncId} {S : RelT} (h : T f = some (tab S)) {args : List IV} {H : Heap} {x : IV × Heap} (hf : ∀ x y, S args H x → S args H y → x = y) (hs : S args H x) : den P T f args H = some x := by
  rw [den_table h]; exact tab_eq hf hs
def WithinR : RelT := fun args H x => ∃ a lo hi, args = [.int .i64 a, .int .i64 lo, .int .i64 hi] ∧ x = (.bool (decide (lo ≤ a) && decide (a ≤ hi)), H)
theorem simWithin {P : Program} {T : Table} (hT : SoundT P T) (hm : P.follows .mixedOrders = true) {f : FuncId} (h0 : T f = none) (hl : LoF P f callWithin) : ∀ args H x, WithinR args H x → SimCall P f args H x.1 x.2 := by
  rintro args H x ⟨a, lo, hi, rfl, rfl⟩
  exact simOf hT hm h0 hl 0 (Nat.le_of_ble_eq_true rfl) (by rw [callWithinEq]; exact within_s a lo hi H)
theorem okWithin {P : Program} {T : Table} {w : FuncId} (h : T w = some (tab WithinR)) : WithinOk (den P T) w := fun a lo hi H =>
  den_tab h (fun x y ⟨_, _, _, e, hx⟩ ⟨_, _, _, e', hy⟩ => by cases e; cases e'; rw [hx, hy]) ⟨a, lo, hi, rfl, rfl⟩
theorem Cl.inj {c d : Cl} (h : c.cells = d.cells) : c = d := by
  simp only [Cl.cells, List.cons.injEq, IV.int.injEq, IV.str.injEq, true_and, and_true] at h
  obtain ⟨h1, h2, h3, h4, h5, h6, h7⟩ := h
  cases c; cases d; simp_all
def MayR : RelT := fun args H x => ∃ c : Cl, args = [.agg c.cells] ∧ x = (.bool c.may, H)
theorem simMay {P : Program} {T : Table} (hT : SoundT P T) (hm : P.follows .mixedOrders = true) {w f : FuncId} (hw : T w = some (tab WithinR)) (h0 : T f = none) (hl : LoF P f (callMay w)) : ∀ args H x, MayR args H x → SimCall P f args H x.1 x.2 := by
  rintro args H x ⟨c, rfl, rfl⟩
  exact (simOf hT hm h0 hl 0 (Nat.le_of_ble_eq_true rfl) (by rw [callMayEq]; exact may_s (okWithin hw) c H)).drop (fun i o hi => by rw [List.getElem?_append_left (List.getElem?_eq_some_iff.1 hi).1]; exact hi) rfl
theorem okMay {P : Program} {T : Table} {f : FuncId} (h : T f = some (tab MayR)) : MayOk (den P T) f := fun c H =>
  den_tab h (fun x y ⟨c1, e, hx⟩ ⟨c2, e', hy⟩ => by
    rw [hx, hy]
    have e1 : c.cells = c1.cells := by simpa using e
    have e2 : c.cells = c2.cells := by simpa using e'
    rw [← Cl.inj e1, ← Cl.inj e2]) ⟨c, rfl, rfl⟩
def EncR : RelT := fun args H x => ∃ c : Cl, args = [.agg c.cells] ∧ x = if c.may = true then (.tuple [.slice H.length 0 c.enc.length c.enc.length false 1, .int .i64 0], H ++ [.row (bytes c.enc) false]) else (.tuple [.nilSlice, .int .i64 22], H)
theorem VR_tuple2 {m : Mp} {a b a' : IV} {u : Value} (h : VR m (.tuple [a, b]) u) (k : ∀ u, VR m a u → VR m a' u) : VR m (.tuple [a', b]) u := by
  simp only [VR, VRs] at h ⊢
  obtain ⟨l, h1, v, vs, h2, h3, h4⟩ := h
  exact ⟨l, h1, v, vs, h2, k v h3, h4⟩
theorem simEnc {P : Program} {T : Table} (hT : SoundT P T) (hm : P.follows .mixedOrders = true) {w f : FuncId} (hw : T w = some (tab MayR)) (h0 : T f = none) (hl : LoF P f (callEncode w)) : ∀ args H x, EncR args H x → SimCall P f args H x.1 x.2 := by
  rintro args H x ⟨c, rfl, rfl⟩
  by_cases hc : c.may = true
  · rw [if_pos hc]
    obtain ⟨v, H', h1, h2, h3⟩ := enc_yes (cal := callable P) (N := 0) (okMay hw) hc H
    have hs := simOf hT hm h0 hl 0 (args := [.agg c.cells]) (Nat.le_of_ble_eq_true rfl) (by rw [callEncodeEq]; exact h1)
    have hk : ∀ (i : Nat) o, H[i]? = some o → H'[i]? = some o := fun i o hi => by
      have hlt := (List.getElem?_eq_some_iff.1 hi).1
      rw [h3.1 i (by omega), List.getElem?_append_left hlt]; exact hi
    have hne : c.enc ≠ [] := by simp [Cl.enc]
    rcases h2 with ⟨_, e⟩ | ⟨r, n, ex, rfl, g1, g2, g3⟩
    · exact absurd (by simpa [bytes] using e) hne
    · rw [bytes_length, Nat.mul_one] at g3
      subst g3
      refine SimCall.one (r' := .tuple [.slice H.length 0 c.enc.length c.enc.length false 1, .int .i64 0]) (hs.weak (r' := .tuple [.slice r 0 c.enc.length c.enc.length false 1, .int .i64 0]) fun m u hu => VR_tuple2 hu fun u h => VR_exact h) hk g2 (by omega) (bytes_inB _ _) ?_ ?_
      · simp only [ren, rens, if_true]
      · simp only [inB, inBs, Bool.and_true, decide_eq_true_eq]; omega
  · have hf : c.may = false := by simpa using hc
    rw [if_neg hc]
    exact (simOf hT hm h0 hl 0 (Nat.le_of_ble_eq_true rfl) (by rw [callEncodeEq]; exact enc_no (okMay hw) hf H)).drop (fun i o hi => by rw [List.getElem?_append_left (List.getElem?_eq_some_iff.1 hi).1]; exact hi) rfl
theorem okEnc {P : Program} {T : Table} {f : FuncId} (h : T f = some (tab EncR)) : EncOk (den P T) f := fun c H => by
  have := den_tab (P := P) h (args := [.agg c.cells]) (H := H) (fun x y ⟨c1, e, hx⟩ ⟨c2, e', hy⟩ => by
    rw [hx, hy]
    have e1 : c.cells = c1.cells := by simpa using e
    have e2 : c.cells = c2.cells := by simpa using e'
    rw [← Cl.inj e1, ← Cl.inj e2]) ⟨c, rfl, rfl⟩
  rw [this]; split <;> rfl

/-! ### the closures -/
theorem BS.inj {H : Heap} {v : IV} {bs cs : List UInt8} (h : BS H v bs) (k : BS H v cs) : bs = cs := by
  rcases h with ⟨rfl, rfl⟩ | ⟨b, o, n, lb, ex, sz, rfl, h1, h2, h3, h4⟩
  · rcases k with ⟨_, rfl⟩ | ⟨b, o, n, lb, ex, sz, e, _⟩
    · rfl
    · cases e
  · rcases k with ⟨e, _⟩ | ⟨b', o', n', lb', ex', sz', e, k1, k2, k3, k4⟩
    · cases e
    · cases e
      apply List.ext_getElem (by omega)
      intro i hi hi'
      obtain ⟨cells, ro, g1, g2⟩ := h4 (by omega)
      obtain ⟨cells', ro', g1', g2'⟩ := k4 (by omega)
      rw [g1] at g1'; cases g1'
      have a := g2 i (by omega)
      have b' := g2' i (by omega)
      rw [a] at b'
      simp only [Option.some.injEq, IV.int.injEq, true_and, List.getD_eq_getElem?_getD, List.getElem?_eq_getElem hi, List.getElem?_eq_getElem hi', Option.getD_some] at b'
      exact UInt8.toNat_inj.1 (by omega)
theorem BS.inB {H : Heap} {v : IV} {bs : List UInt8} (h : BS H v bs) (hl : low H.length v) (k : Nat) : Shade.inB H.length (tailN k v) = true := by
  rcases h with ⟨rfl, rfl⟩ | ⟨b, o, n, lb, ex, sz, rfl, _⟩
  · rfl
  · simp only [tailN, Shade.inB, decide_eq_true_eq]; exact hl _ _ _ _ _ _ rfl
def OneR : RelT := fun args H x => ∃ p v bs, args = [.ptr p 0] ∧ H[p]? = some (.row [v] false) ∧ BS H v bs ∧ x = (.int .i64 ((bs.getD 0 0).toNat : Int), H.set p (.row [tailN 1 v] false))
theorem simOne {P : Program} {T : Table} (hT : SoundT P T) (hm : P.follows .mixedOrders = true) {f : FuncId} (h0 : T f = none) (hl : LoF P f callDecode1) : ∀ args H x, OneR args H x → SimCall P f args H x.1 x.2 := by
  rintro args H x ⟨p, v, bs, rfl, hp, hb, rfl⟩
  exact simOf hT hm h0 hl 0 (Nat.le_of_ble_eq_true rfl) (by rw [callDecode1Eq]; exact one_s hp hb)
theorem okOne {P : Program} {T : Table} {f : FuncId} (h : T f = some (tab OneR)) : OneOk (den P T) f := fun H p v bs hp hb =>
  den_tab h (fun x y ⟨p1, v1, b1, e1, i1, j1, hx⟩ ⟨p2, v2, b2, e2, i2, j2, hy⟩ => by
    cases e1; cases e2
    rw [i1] at i2; cases i2
    rw [hx, hy, j1.inj j2]) ⟨p, v, bs, rfl, hp, hb, rfl⟩
def TwoR (f1 : FuncId) : RelT := fun args H x => ∃ p q v bs, args = [.ptr q 0] ∧ (q ≠ p ∧ H[q]? = some (.row [OneF f1 p] false) ∧ H[p]? = some (.row [v] false) ∧ off H p v ∧ low H.length v ∧ BS H v bs) ∧
  x = (.int .i64 (((bs.getD 0 0).toNat : Int) * 256 + ((bs.getD 1 0).toNat : Int) - 256), H.set p (.row [tailN 2 v] false))
theorem simTwo {P : Program} {T : Table} (hT : SoundT P T) (hm : P.follows .mixedOrders = true) {f1 f : FuncId} (hc : callable P f1 = true) (h1 : T f1 = some (tab OneR)) (h0 : T f = none) (hl : LoF P f callDecode2) : ∀ args H x, TwoR f1 args H x → SimCall P f args H x.1 x.2 := by
  rintro args H x ⟨p, q, v, bs, rfl, ⟨a1, a2, a3, a4, a5, a6⟩, rfl⟩
  exact simOf hT hm h0 hl 0 (Nat.le_of_ble_eq_true rfl) (by rw [callDecode2Eq]; exact two_s hc (okOne h1) a2 a3 a1 a4 a6)
theorem oneF_inj {f1 p p' : Nat} (h : OneF f1 p = OneF f1 p') : p = p' := by
  simp only [OneF, IV.func.injEq, List.cons.injEq, IV.ptr.injEq, and_true, true_and] at h
  exact h
theorem okTwo {P : Program} {T : Table} {f1 f : FuncId} (h : T f = some (tab (TwoR f1))) : TwoOk (den P T) f1 f := fun H p q v bs a1 a2 a3 a4 a5 a6 =>
  den_tab h (fun x y ⟨p1, q1, v1, b1, e1, ⟨_, i1, j1, _, _, k1⟩, hx⟩ ⟨p2, q2, v2, b2, e2, ⟨_, i2, j2, _, _, k2⟩, hy⟩ => by
    cases e1; cases e2
    rw [i1] at i2
    have : p1 = p2 := oneF_inj (by simpa using i2)
    subst this
    rw [j1] at j2; cases j2
    rw [hx, hy, k1.inj k2]) ⟨p, q, v, bs, rfl, ⟨a1, a2, a3, a4, a5, a6⟩, rfl⟩
def TextR (f1 : FuncId) : RelT := fun args H x => ∃ p q v bs, args = [.ptr q 0] ∧ (q ≠ p ∧ H[q]? = some (.row [OneF f1 p] false) ∧ H[p]? = some (.row [v] false) ∧ off H p v ∧ low H.length v ∧ BS H v bs) ∧
  x = (.str (rdText bs), H.set p (.row [tailN (TextN bs) v] false))
theorem simText {P : Program} {T : Table} (hT : SoundT P T) (hm : P.follows .mixedOrders = true) {f1 f : FuncId} (hc : callable P f1 = true) (h1 : T f1 = some (tab OneR)) (h0 : T f = none) (hl : LoF P f callDecode3) : ∀ args H x, TextR f1 args H x → SimCall P f args H x.1 x.2 := by
  rintro args H x ⟨p, q, v, bs, rfl, ⟨a1, a2, a3, a4, a5, a6⟩, rfl⟩
  obtain ⟨H', h2, h3⟩ := text_s (cal := callable P) (N := 65) (by omega) hc (okOne h1) a1 a2 a3 a4 a5 a6
  have hs := simOf hT hm h0 hl 65 (args := [.ptr q 0]) (Nat.le_of_ble_eq_true rfl) (by rw [callDecode3Eq]; exact h2)
  refine hs.upd (fun i x hi => ?_) ?_ rfl
  · have hlt : i < H.length := by have := (List.getElem?_eq_some_iff.1 hi).1; simpa using this
    rw [h3.1 i hlt]; exact hi
  · simp only [inBO, inBs, a6.inB a5, Bool.and_self]
theorem okText {P : Program} {T : Table} {f1 f : FuncId} (h : T f = some (tab (TextR f1))) : TextOk (den P T) f1 f := fun H p q v bs a1 a2 a3 a4 a5 a6 =>
  den_tab h (fun x y ⟨p1, q1, v1, b1, e1, ⟨_, i1, j1, _, _, k1⟩, hx⟩ ⟨p2, q2, v2, b2, e2, ⟨_, i2, j2, _, _, k2⟩, hy⟩ => by
    cases e1; cases e2
    rw [i1] at i2
    have : p1 = p2 := oneF_inj (by simpa using i2)
    subst this
    rw [j1] at j2; cases j2
    rw [hx, hy, k1.inj k2]) ⟨p, q, v, bs, rfl, ⟨a1, a2, a3, a4, a5, a6⟩, rfl⟩

/-! ### decoding -/
def DecR : RelT := fun args H x => ∃ v bs, args = [v] ∧ (v.one = true ∧ low H.length v ∧ BS H v bs) ∧
  x = if dec 200 bs = [] then (.nilSlice, H) else (.slice H.length 0 (dec 200 bs).length (dec 200 bs).length false 7, H ++ [.row (flat7 (dec 200 bs)) false])
theorem flat7_inB (l : List Cl) (n : Nat) : inBs n (flat7 l) = true := by
  induction l with
  | nil => rfl
  | cons c l ih =>
    refine inBs_of fun i v hv => ?_
    simp only [flat7, List.map_cons, List.flatten_cons] at hv ih
    rw [List.getElem?_append] at hv
    split at hv
    · have : ∀ x ∈ c.cells, inB n x = true := by
        intro x hx; simp only [Cl.cells, List.mem_cons, List.not_mem_nil, or_false] at hx
        rcases hx with rfl | rfl | rfl | rfl | rfl | rfl | rfl <;> rfl
      exact this v (List.mem_of_getElem? hv)
    · exact inBs_get ih hv
theorem simDec {P : Program} {T : Table} (hT : SoundT P T) (hm : P.follows .mixedOrders = true) {f1 f2 f3 f : FuncId} (hc1 : callable P f1 = true) (hc2 : callable P f2 = true) (hc3 : callable P f3 = true) (h1 : T f1 = some (tab OneR)) (h2 : T f2 = some (tab (TwoR f1))) (h3 : T f3 = some (tab (TextR f1))) (h0 : T f = none) (hl : LoF P f (callDecode f1 f2 f3)) : ∀ args H x, DecR args H x → SimCall P f args H x.1 x.2 := by
  rintro args H x ⟨v, bs, rfl, ⟨a1, a2, a3⟩, rfl⟩
  obtain ⟨v', H', e, hb, hk, hn⟩ := dec_s (cal := callable P) (N := 201) (by omega) hc1 hc2 hc3 (okOne h1) (okTwo h2) (okText h3) a1 a2 a3
  have hs := simOf hT hm h0 hl 201 (args := [v]) (Nat.le_of_ble_eq_true rfl) (by rw [callDecodeEq]; exact e)
  have hk' : ∀ (i : Nat) o, H[i]? = some o → H'[i]? = some o := fun i o hi => by rw [hk i (List.getElem?_eq_some_iff.1 hi).1]; exact hi
  by_cases h0' : dec 200 bs = []
  · rw [if_pos h0']
    have := hn h0'
    subst this
    exact hs.drop hk' rfl
  · rw [if_neg h0']
    rcases hb with ⟨rfl, e0⟩ | ⟨r, n, ex, rfl, g1, g2, g3⟩
    · have := flat7_length (dec 200 bs)
      rw [e0] at this; simp at this; exact absurd (List.length_eq_zero_iff.1 (by omega)) h0'
    · rw [flat7_length] at g3
      have hn : n = (dec 200 bs).length := by omega
      subst hn
      refine SimCall.one (r' := .slice H.length 0 (dec 200 bs).length (dec 200 bs).length false 7) (hs.weak (r' := .slice r 0 (dec 200 bs).length (dec 200 bs).length false 7) fun m u h => VR_exact h) hk' g2 g1 (flat7_inB _ _) ?_ ?_
      · simp only [ren, if_true]
      · simp only [inB, decide_eq_true_eq]; omega
def DecOk (φ : Oracle) (f : FuncId) : Prop := ∀ (H : Heap) (v : IV) (bs : List UInt8), v.one = true → low H.length v → BS H v bs → φ f [v] H = if dec 200 bs = [] then some (.nilSlice, H) else some (.slice H.length 0 (dec 200 bs).length (dec 200 bs).length false 7, H ++ [.row (flat7 (dec 200 bs)) false])
theorem okDec {P : Program} {T : Table} {f : FuncId} (h : T f = some (tab DecR)) : DecOk (den P T) f := fun H v bs a1 a2 a3 => by
  have := den_tab (P := P) h (args := [v]) (H := H) (fun x y ⟨v1, b1, e1, ⟨_, _, j1⟩, hx⟩ ⟨v2, b2, e2, ⟨_, _, j2⟩, hy⟩ => by
    cases e1; cases e2
    rw [hx, hy, j1.inj j2]) ⟨v, bs, rfl, ⟨a1, a2, a3⟩, rfl⟩
  rw [this]; split <;> rfl

/-! ### the same; scripts -/
theorem CS.inj {H : Heap} {v : IV} {l k : List Cl} (h : CS H v l) (g : CS H v k) : l = k := by
  rcases h with ⟨rfl, rfl⟩ | ⟨b, o, n, lb, ex, sz, rfl, h1, h2, h3, h4⟩
  · rcases g with ⟨_, rfl⟩ | ⟨b, o, n, lb, ex, sz, e, _⟩
    · rfl
    · cases e
  · rcases g with ⟨e, _⟩ | ⟨b', o', n', lb', ex', sz', e, k1, k2, k3, k4⟩
    · cases e
    · cases e
      apply List.ext_getElem (by omega)
      intro i hi hi'
      have a := h4 i _ (List.getElem?_eq_getElem hi)
      have b' := k4 i _ (List.getElem?_eq_getElem hi')
      rw [a] at b'
      simp only [Option.some.injEq, IV.agg.injEq] at b'
      exact Cl.inj b'
def SameR : RelT := fun args H x => ∃ v1 v2 l1 l2, args = [v1, v2] ∧ (CS H v1 l1 ∧ CS H v2 l2 ∧ l1.length < 4611686018427387904) ∧ x = (.bool (decide (l1 = l2)), H)
theorem simSame {P : Program} {T : Table} (hT : SoundT P T) (hm : P.follows .mixedOrders = true) {f : FuncId} (h0 : T f = none) (hl : LoF P f veneerlaw08Same) : ∀ args H x, SameR args H x → SimCall P f args H x.1 x.2 := by
  rintro args H x ⟨v1, v2, l1, l2, rfl, ⟨a1, a2, a3⟩, rfl⟩
  exact simOf hT hm h0 hl (l1.length + 1) (Nat.le_of_ble_eq_true rfl) (by rw [veneerlaw08SameEq]; exact same_s a1 a2 (by omega) a3)
def SameOk (φ : Oracle) (f : FuncId) : Prop := ∀ (H : Heap) (v1 v2 : IV) (l1 l2 : List Cl), CS H v1 l1 → CS H v2 l2 → l1.length < 4611686018427387904 → φ f [v1, v2] H = some (.bool (decide (l1 = l2)), H)
theorem okSame {P : Program} {T : Table} {f : FuncId} (h : T f = some (tab SameR)) : SameOk (den P T) f := fun H v1 v2 l1 l2 a1 a2 a3 =>
  den_tab (P := P) h (args := [v1, v2]) (H := H) (fun x y ⟨_, _, b1, c1, e1, ⟨i1, j1, _⟩, hx⟩ ⟨_, _, b2, c2, e2, ⟨i2, j2, _⟩, hy⟩ => by
    cases e1; cases e2
    rw [hx, hy, i1.inj i2, j1.inj j2]) ⟨v1, v2, l1, l2, rfl, ⟨a1, a2, a3⟩, rfl⟩
def scrX (H : Heap) (l : List Cl) : IV × Heap :=
  if okScr l = true then (if l = [] then (.tuple [.nilSlice, .int .i64 0], H) else (.tuple [.slice H.length 0 (encs l).length (encs l).length false 1, .int .i64 0], H ++ [.row (bytes (encs l)) false])) else (.tuple [.nilSlice, .int .i64 22], H)
def ScriptR : RelT := fun args H x => ∃ v l, args = [v] ∧ (low H.length v ∧ CS H v l) ∧ x = scrX H l
theorem simScript {P : Program} {T : Table} (hT : SoundT P T) (hm : P.follows .mixedOrders = true) {e f : FuncId} (he : T e = some (tab EncR)) (h0 : T f = none) (hl : LoF P f (callScript e)) : ∀ args H x, ScriptR args H x → SimCall P f args H x.1 x.2 := by
  rintro args H x ⟨v, l, rfl, ⟨a1, a2⟩, rfl⟩
  obtain ⟨v', H', e1, hk, hb, hn⟩ := script_s (cal := callable P) (N := 201) (okEnc he) (by omega) a1 a2
  have hk' : ∀ (i : Nat) o, H[i]? = some o → H'[i]? = some o := fun i o hi => by rw [hk.1 i (List.getElem?_eq_some_iff.1 hi).1]; exact hi
  unfold scrX
  by_cases hok : okScr l = true
  · rw [if_pos hok] at e1 ⊢
    have hs := simOf hT hm h0 hl 201 (args := [v]) (Nat.le_of_ble_eq_true rfl) (by rw [callScriptEq]; exact e1)
    by_cases hnil : l = []
    · rw [if_pos hnil]
      have := hn hnil
      subst this
      exact hs.drop hk' rfl
    · rw [if_neg hnil]
      rcases hb hok with ⟨_, e0⟩ | ⟨r, n, ex, rfl, g1, g2, g3⟩
      · exfalso
        obtain ⟨c, l', rfl⟩ := List.exists_cons_of_ne_nil hnil
        have := congrArg List.length e0
        simp [bytes_length, encs, Cl.enc] at this
      · rw [bytes_length, Nat.mul_one] at g3
        subst g3
        refine SimCall.one (r' := .tuple [.slice H.length 0 (encs l).length (encs l).length false 1, .int .i64 0]) (hs.weak (r' := .tuple [.slice r 0 (encs l).length (encs l).length false 1, .int .i64 0]) fun m u hu => VR_tuple2 hu fun u h => VR_exact h) hk' g2 g1 (bytes_inB _ _) ?_ ?_
        · simp only [ren, rens, if_true]
        · simp only [inB, inBs, Bool.and_true, decide_eq_true_eq]; omega
  · rw [if_neg hok] at e1 ⊢
    have hs := simOf hT hm h0 hl 201 (args := [v]) (Nat.le_of_ble_eq_true rfl) (by rw [callScriptEq]; exact e1)
    exact hs.drop hk' rfl
def ScriptOk (φ : Oracle) (f : FuncId) : Prop := ∀ (H : Heap) (v : IV) (l : List Cl), low H.length v → CS H v l → φ f [v] H = some (scrX H l)
theorem okScript {P : Program} {T : Table} {f : FuncId} (h : T f = some (tab ScriptR)) : ScriptOk (den P T) f := fun H v l a1 a2 =>
  den_tab (P := P) h (args := [v]) (H := H) (fun x y ⟨_, l1, e1, ⟨_, j1⟩, hx⟩ ⟨_, l2, e2, ⟨_, j2⟩, hy⟩ => by
    cases e1; cases e2
    rw [hx, hy, j1.inj j2]) ⟨v, l, rfl, ⟨a1, a2⟩, rfl⟩
end Go.Shade
