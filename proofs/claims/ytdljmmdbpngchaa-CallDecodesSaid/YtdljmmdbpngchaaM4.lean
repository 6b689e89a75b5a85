/- CALL, part 7: scripts. -/
import Derived.Test.YtdljmmdbpngchaaM3
import Derived.Test.YtdljmmdbpngchaaM2
import Derived.KernelRfl
import Derived.Test.YtdljmmdbpngchaaM0
import Derived.ProofKit
import Derived.Deep.Slices
import Derived.WalkKit
import Derived.OpenShut
import Derived.ShutString
import Derived.ChangeOld
import Derived.Test.YtdljmmdbpngchaaRows
namespace Go.Shade
set_option linter.unusedVariables false
set_option linter.unusedSimpArgs false

def EncOk (φ : Oracle) (f : FuncId) : Prop := ∀ (c : Cl) (H : Heap), φ f [.agg c.cells] H = if c.may = true then some (.tuple [.slice H.length 0 c.enc.length c.enc.length false 1, .int .i64 0], H ++ [.row (bytes c.enc) false]) else some (.tuple [.nilSlice, .int .i64 22], H)
theorem enc_len {c : Cl} (h : c.may = true) : c.enc.length ≤ 135 := by
  obtain ⟨_, _, _, _, _, m11, m12⟩ := c.may_iff.1 h
  simp only [Cl.enc, List.length_append, List.length_cons, List.length_nil]
  omega
def encs (l : List Cl) : List UInt8 := (l.map Cl.enc).flatten
theorem script_loop {cal : FuncId → Bool} {φ : Oracle} {N : Nat} {f : FuncId} (he : EncOk φ f) {gE0 : IV → Heap → Option (IV × Heap)} {B : Nat} {v : IV} {l : List Cl} (hl : low B v) (hl200 : l.length ≤ 200) : ∀ (k i n : Nat) (H : Heap) (v4 : IV) (acc : List UInt8), i + k = l.length → k < n → B ≤ H.length → CS H v l → Buf B 1 H v4 (bytes acc) → acc.length ≤ 135 * i →
    ∃ v4' H', callScriptC0S cal φ N f gE0 n v4 v (.int .i64 (l.length : Nat)) (.int .i64 (i : Nat)) H = (if (l.drop i).all Cl.may = true then gE0 v4' H' else some (.tuple [.nilSlice, .int .i64 22], H')) ∧ Keep B H H' ∧ ((l.drop i).all Cl.may = true → Buf B 1 H' v4' (bytes (acc ++ encs (l.drop i)))) ∧ (l.drop i = [] → v4' = v4) := by
  intro k
  induction k with
  | zero =>
    intro i n H v4 acc hi hn hB hc hv hacc
    obtain ⟨n, rfl⟩ : ∃ m, n = m + 1 := ⟨n - 1, by omega⟩
    have hd : decide (((i : Nat) : Int) < (l.length : Nat)) = false := decide_eq_false (by omega)
    have hdr : l.drop i = [] := List.drop_of_length_le (by omega)
    refine ⟨v4, H, ?_, Keep.refl _ _, (fun _ => by rw [hdr]; simpa [encs] using hv), fun _ => rfl⟩
    rw [callScriptC0S, lbin_lss, ob_some, hd, cnd_false, hdr]; rfl
  | succ k ih =>
    intro i n H v4 acc hi hn hB hc hv hacc
    obtain ⟨n, rfl⟩ : ∃ m, n = m + 1 := ⟨n - 1, by omega⟩
    have hd : decide (((i : Nat) : Int) < (l.length : Nat)) = true := decide_eq_true (by omega)
    have e1 := List.getElem?_eq_getElem (l := l) (i := i) (by omega)
    obtain ⟨b1, o1, x1, y1⟩ := hc.at e1
    have d1 : l.drop i = l[i] :: l.drop (i + 1) := List.drop_eq_getElem_cons (by omega)
    generalize l[i] = c at e1 y1 d1
    rw [callScriptC0S, lbin_lss, ob_some, hd, cnd_true, x1, ob_some, y1, ob_some, lzbox_eq, ob_some]
    simp only
    have hz : (H ++ [IObj.row (IV.cells (.agg [(.int .i64 0), (.int .i64 0), (.int .i64 0), (.int .i64 0), (.int .i64 0), (.str []), (.str [])])) false])[H.length]? = some (.row [(.int .i64 0), (.int .i64 0), (.int .i64 0), (.int .i64 0), (.int .i64 0), (.str []), (.str [])] false) := by rw [at_new]; rfl
    rw [lstV_ptr, hz, putO_all (n := 7) (xs := c.cells) (show c.cells.all IV.one = true from rfl) (show c.cells.length = 7 from rfl) (by simp), ob_some, ob_some]
    simp only
    have hset : (H ++ [IObj.row (IV.cells (.agg [(.int .i64 0), (.int .i64 0), (.int .i64 0), (.int .i64 0), (.int .i64 0), (.str []), (.str [])])) false]).set H.length (.row c.cells false) = H ++ [.row c.cells false] := by rw [set_new]; rfl
    rw [hset]
    have hld : lloadn (H ++ [IObj.row c.cells false]) 7 (.ptr H.length 0) = some (.agg c.cells) := by rw [lloadn_ptr, at_new]; rfl
    rw [hld, ob_some, he]
    by_cases hm : c.may = true
    · rw [if_pos hm, ob_some]
      simp only
      rw [iextract_tuple, iextract_tuple]
      simp only [List.getElem?_cons_zero, List.getElem?_cons_succ, ob_some, lbin_neq, decide_true, Bool.not_true, cnd_false]
      generalize hK : H ++ [IObj.row c.cells false] = K
      have hKlen : K.length = H.length + 1 := by rw [← hK]; simp
      have hKi : ∀ i, i < H.length → K[i]? = H[i]? := fun i hi => by rw [← hK, List.getElem?_append_left hi]
      have hv' : Buf B 1 (K ++ [.row (bytes c.enc) false]) v4 (bytes acc) := by
        rcases hv with h | ⟨r, m, ex, e, g1, g2, g3⟩
        · exact .inl h
        · refine .inr ⟨r, m, ex, e, g1, ?_, g3⟩
          have hr := (List.getElem?_eq_some_iff.1 g2).1
          rw [List.getElem?_append_left (by omega), hKi r hr]; exact g2
      have hx : Buf 0 1 (K ++ [.row (bytes c.enc) false]) (.slice K.length 0 c.enc.length c.enc.length false 1) (bytes c.enc) := .inr ⟨_, _, false, rfl, by omega, by simp, by simp [bytes_length]⟩
      have hel := enc_len hm
      obtain ⟨v7, H7, a7, b7, k7⟩ := app_own (b := 1) hv' (by simp; omega) (by omega) hx (bytes_one _) (by rw [bytes_length, bytes_length]; omega)
      rw [a7, ob_some, lbin_add, ob_some, wrap_i64 (by omega) (by omega)]
      rw [← bytes_append] at b7
      have h7i : ∀ i, i < B → H7[i]? = H[i]? := fun i hi => by rw [k7.1 i hi, List.getElem?_append_left (by omega), hKi i (by omega)]
      have h7len : H.length ≤ H7.length := by have := k7.2; simp at this; omega
      obtain ⟨v8, H8, a8, k8, b8, _⟩ := ih (i + 1) n H7 v7 (acc ++ c.enc) (by omega) (by omega) (by omega) (hc.keepB hl h7i) b7 (by simp; omega)
      refine ⟨v8, H8, ?_, ⟨fun i hi => by rw [k8.1 i hi, h7i i hi], Nat.le_trans h7len k8.2⟩, fun hall => ?_, fun e => by rw [d1] at e; cases e⟩
      · rw [show (((i : Nat) : Int) + 1) = ((i + 1 : Nat) : Int) by omega, a8, d1]
        simp only [List.all_cons, hm, Bool.true_and]
      · rw [d1] at hall ⊢
        simp only [List.all_cons, hm, Bool.true_and] at hall
        have := b8 hall
        simpa [encs, List.append_assoc] using this
    · rw [if_neg hm, ob_some]
      simp only
      rw [iextract_tuple, iextract_tuple]
      have h22 : decide ((22 : Int) = 0) = false := rfl
      simp only [List.getElem?_cons_zero, List.getElem?_cons_succ, ob_some, lbin_neq, h22, Bool.not_false, cnd_true]
      have hf : (l.drop i).all Cl.may = false := by
        rw [d1, List.all_cons]
        cases hcm : c.may with
        | true => exact absurd hcm hm
        | false => rfl
      refine ⟨v4, H ++ [IObj.row c.cells false], ?_, Keep.push _ _ hB, fun hall => ?_, fun _ => rfl⟩
      · rw [hf]; rfl
      · rw [hf] at hall; cases hall
def okScr (l : List Cl) : Bool := decide (l.length ≤ 200) && l.all Cl.may
theorem script_s {cal : FuncId → Bool} {φ : Oracle} {N : Nat} {f : FuncId} (he : EncOk φ f) (hN : 200 < N) {H : Heap} {v : IV} {l : List Cl} (hl : low H.length v) (hc : CS H v l) :
    ∃ v' H', callScriptS cal φ N f v H = (if okScr l = true then some (.tuple [v', .int .i64 0], H') else some (.tuple [.nilSlice, .int .i64 22], H')) ∧ Keep H.length H H' ∧ (okScr l = true → Buf H.length 1 H' v' (bytes (encs l))) ∧ (l = [] → v' = .nilSlice) := by
  unfold callScriptS callScriptC6S callScriptC5S callScriptC4S callScriptC3S callScriptC2S callScriptC1S
  rw [hc.len, ob_some, lbin_gtr, ob_some]
  by_cases h200 : l.length ≤ 200
  · have : decide ((200 : Int) < (l.length : Nat)) = false := decide_eq_false (by omega)
    rw [this, cnd_false, ob_some]
    obtain ⟨v4, H4, a, k, b, n4⟩ := script_loop (cal := cal) (φ := φ) (N := N) he (gE0 := fun v4 H => some ((.tuple [v4, (.int .i64 0)]), H)) hl h200 l.length 0 N H .nilSlice [] (by omega) (by omega) (Nat.le_refl _) hc (.inl ⟨rfl, rfl⟩) (by simp)
    have hok : okScr l = l.all Cl.may := by unfold okScr; rw [decide_eq_true h200, Bool.true_and]
    rw [hok]
    exact ⟨v4, H4, by simpa using a, k, by simpa using b, by simpa using n4⟩
  · have : decide ((200 : Int) < (l.length : Nat)) = true := decide_eq_true (by omega)
    have hok : okScr l = false := by unfold okScr; rw [decide_eq_false h200]; rfl
    rw [this, cnd_true, hok]
    exact ⟨.nilSlice, H, rfl, Keep.refl _ _, (fun h => by cases h), fun _ => rfl⟩
end Go.Shade
/- CALL, part 8: summaries of the layer 'call', for a program's table. -/
namespace Go.Shade
set_option linter.unusedVariables false
set_option linter.unusedSimpArgs false

/-- A function of the program, and its low code. -/
def LoF (P : Program) (f : FuncId) (lf : LFun) : Prop := (∃ fn, P.funcs[f]? = some fn ∧ lowF P fn = some lf) ∧ callable P f = true
theorem simOf {P : Program} {T : Table} (hT : SoundT P T) (hm : P.follows .mixedOrders = true) {f : FuncId} {lf : LFun} (h0 : T f = none) (hl : LoF P f lf) (N : Nat) {args : List IV} {H H' : Heap} {r : IV} (hn : args.length ≤ lf.n) (hr : lrunK (callable P) (den P T) N lf args H = some (r, H')) : SimCall P f args H r H' := by
  obtain ⟨⟨fn, h1, h2⟩, _⟩ := hl
  exact sim_low hT hm (cal := callable P) (fun _ h => h) h0 h1 h2 hn (lrunK_le hr)
abbrev RelT := List IV → Heap → IV × Heap → Prop
theorem den_tab {P : Program} {T : Table} {f : FuncId} {S : RelT} (h : T f = some (tab S)) {args : List IV} {H : Heap} {x : IV × Heap} (hf : ∀ x y, S args H x → S args H y → x = y) (hs : S args H x) : den P T f args H = some x := by
  rw [den_table h]; exact tab_eq hf hs
def WithinR : RelT := fun args H x => ∃ a lo hi, args = [.int .i64 a, .int .i64 lo, .int .i64 hi] ∧ x = (.bool (decide (lo ≤ a) && decide (a ≤ hi)), H)
theorem simWithin {P : Program} {T : Table} (hT : SoundT P T) (hm : P.follows .mixedOrders = true) {f : FuncId} (h0 : T f = none) (hl : LoF P f callWithin) : ∀ args H x, WithinR args H x → SimCall P f args H x.1 x.2 := by
  rintro args H x ⟨a, lo, hi, rfl, rfl⟩
  exact simOf hT hm h0 hl 0 (Nat.le_of_ble_eq_true rfl) (by rw [callWithinEq]; exact within_s a lo hi H)
theorem okWithin {P : Program} {T : Table} {w : FuncId} (h : T w = some (tab WithinR)) : WithinOk (den P T) w := fun a lo hi H =>
  den_tab h (fun x y ⟨_, _, _, e, hx⟩ ⟨_, _, _, e', hy⟩ => by cases e; cases e'; rw [hx, hy]) ⟨a, lo, hi, rfl, rfl⟩
theorem Cl.inj {c d : Cl} (h : c.cells = d.cells) : c = d := by
  simp only [Cl.cells, List.cons.injEq, IV.int.injEq, IV.str.injEq, true_and, and_true] at h
  obtain ⟨h1, h2, h3, h4, h5, h6, h7⟩ := h
  cases c; cases d; simp_all
def MayR : RelT := fun args H x => ∃ c : Cl, args = [.agg c.cells] ∧ x = (.bool c.may, H)
theorem simMay {P : Program} {T : Table} (hT : SoundT P T) (hm : P.follows .mixedOrders = true) {w f : FuncId} (hw : T w = some (tab WithinR)) (h0 : T f = none) (hl : LoF P f (callMay w)) : ∀ args H x, MayR args H x → SimCall P f args H x.1 x.2 := by
  rintro args H x ⟨c, rfl, rfl⟩
  exact (simOf hT hm h0 hl 0 (Nat.le_of_ble_eq_true rfl) (by rw [callMayEq]; exact may_s (okWithin hw) c H)).drop (fun i o hi => by rw [List.getElem?_append_left (List.getElem?_eq_some_iff.1 hi).1]; exact hi) rfl
theorem okMay {P : Program} {T : Table} {f : FuncId} (h : T f = some (tab MayR)) : MayOk (den P T) f := fun c H =>
  den_tab h (fun x y ⟨c1, e, hx⟩ ⟨c2, e', hy⟩ => by
    rw [hx, hy]
    have e1 : c.cells = c1.cells := by simpa using e
    have e2 : c.cells = c2.cells := by simpa using e'
    rw [← Cl.inj e1, ← Cl.inj e2]) ⟨c, rfl, rfl⟩
def EncR : RelT := fun args H x => ∃ c : Cl, args = [.agg c.cells] ∧ x = if c.may = true then (.tuple [.slice H.length 0 c.enc.length c.enc.length false 1, .int .i64 0], H ++ [.row (bytes c.enc) false]) else (.tuple [.nilSlice, .int .i64 22], H)
theorem VR_tuple2 {m : Mp} {a b a' : IV} {u : Value} (h : VR m (.tuple [a, b]) u) (k : ∀ u, VR m a u → VR m a' u) : VR m (.tuple [a', b]) u := by
  simp only [VR, VRs] at h ⊢
  obtain ⟨l, h1, v, vs, h2, h3, h4⟩ := h
  exact ⟨l, h1, v, vs, h2, k v h3, h4⟩
theorem simEnc {P : Program} {T : Table} (hT : SoundT P T) (hm : P.follows .mixedOrders = true) {w f : FuncId} (hw : T w = some (tab MayR)) (h0 : T f = none) (hl : LoF P f (callEncode w)) : ∀ args H x, EncR args H x → SimCall P f args H x.1 x.2 := by
  rintro args H x ⟨c, rfl, rfl⟩
  by_cases hc : c.may = true
  · rw [if_pos hc]
    obtain ⟨v, H', h1, h2, h3⟩ := enc_yes (cal := callable P) (N := 0) (okMay hw) hc H
    have hs := simOf hT hm h0 hl 0 (args := [.agg c.cells]) (Nat.le_of_ble_eq_true rfl) (by rw [callEncodeEq]; exact h1)
    have hk : ∀ (i : Nat) o, H[i]? = some o → H'[i]? = some o := fun i o hi => by
      have hlt := (List.getElem?_eq_some_iff.1 hi).1
      rw [h3.1 i (by omega), List.getElem?_append_left hlt]; exact hi
    have hne : c.enc ≠ [] := by simp [Cl.enc]
    rcases h2 with ⟨_, e⟩ | ⟨r, n, ex, rfl, g1, g2, g3⟩
    · exact absurd (by simpa [bytes] using e) hne
    · rw [bytes_length, Nat.mul_one] at g3
      subst g3
      refine SimCall.one (r' := .tuple [.slice H.length 0 c.enc.length c.enc.length false 1, .int .i64 0]) (hs.weak (r' := .tuple [.slice r 0 c.enc.length c.enc.length false 1, .int .i64 0]) fun m u hu => VR_tuple2 hu fun u h => VR_exact h) hk g2 (by omega) (bytes_inB _ _) ?_ ?_
      · simp only [ren, rens, if_true]
      · simp only [inB, inBs, Bool.and_true, decide_eq_true_eq]; omega
  · have hf : c.may = false := by simpa using hc
    rw [if_neg hc]
    exact (simOf hT hm h0 hl 0 (Nat.le_of_ble_eq_true rfl) (by rw [callEncodeEq]; exact enc_no (okMay hw) hf H)).drop (fun i o hi => by rw [List.getElem?_append_left (List.getElem?_eq_some_iff.1 hi).1]; exact hi) rfl
theorem okEnc {P : Program} {T : Table} {f : FuncId} (h : T f = some (tab EncR)) : EncOk (den P T) f := fun c H => by
  have := den_tab (P := P) h (args := [.agg c.cells]) (H := H) (fun x y ⟨c1, e, hx⟩ ⟨c2, e', hy⟩ => by
    rw [hx, hy]
    have e1 : c.cells = c1.cells := by simpa using e
    have e2 : c.cells = c2.cells := by simpa using e'
    rw [← Cl.inj e1, ← Cl.inj e2]) ⟨c, rfl, rfl⟩
  rw [this]; split <;> rfl

/-! ### the closures -/
theorem BS.inj {H : Heap} {v : IV} {bs cs : List UInt8} (h : BS H v bs) (k : BS H v cs) : bs = cs := by
  rcases h with ⟨rfl, rfl⟩ | ⟨b, o, n, lb, ex, sz, rfl, h1, h2, h3, h4⟩
  · rcases k with ⟨_, rfl⟩ | ⟨b, o, n, lb, ex, sz, e, _⟩
    · rfl
    · cases e
  · rcases k with ⟨e, _⟩ | ⟨b', o', n', lb', ex', sz', e, k1, k2, k3, k4⟩
    · cases e
    · cases e
      apply List.ext_getElem (by omega)
      intro i hi hi'
      obtain ⟨cells, ro, g1, g2⟩ := h4 (by omega)
      obtain ⟨cells', ro', g1', g2'⟩ := k4 (by omega)
      rw [g1] at g1'; cases g1'
      have a := g2 i (by omega)
      have b' := g2' i (by omega)
      rw [a] at b'
      simp only [Option.some.injEq, IV.int.injEq, true_and, List.getD_eq_getElem?_getD, List.getElem?_eq_getElem hi, List.getElem?_eq_getElem hi', Option.getD_some] at b'
      exact UInt8.toNat_inj.1 (by omega)
theorem BS.inB {H : Heap} {v : IV} {bs : List UInt8} (h : BS H v bs) (hl : low H.length v) (k : Nat) : Shade.inB H.length (tailN k v) = true := by
  rcases h with ⟨rfl, rfl⟩ | ⟨b, o, n, lb, ex, sz, rfl, _⟩
  · rfl
  · simp only [tailN, Shade.inB, decide_eq_true_eq]; exact hl _ _ _ _ _ _ rfl
def OneR : RelT := fun args H x => ∃ p v bs, args = [.ptr p 0] ∧ H[p]? = some (.row [v] false) ∧ BS H v bs ∧ x = (.int .i64 ((bs.getD 0 0).toNat : Int), H.set p (.row [tailN 1 v] false))
theorem simOne {P : Program} {T : Table} (hT : SoundT P T) (hm : P.follows .mixedOrders = true) {f : FuncId} (h0 : T f = none) (hl : LoF P f callDecode1) : ∀ args H x, OneR args H x → SimCall P f args H x.1 x.2 := by
  rintro args H x ⟨p, v, bs, rfl, hp, hb, rfl⟩
  exact simOf hT hm h0 hl 0 (Nat.le_of_ble_eq_true rfl) (by rw [callDecode1Eq]; exact one_s hp hb)
theorem okOne {P : Program} {T : Table} {f : FuncId} (h : T f = some (tab OneR)) : OneOk (den P T) f := fun H p v bs hp hb =>
  den_tab h (fun x y ⟨p1, v1, b1, e1, i1, j1, hx⟩ ⟨p2, v2, b2, e2, i2, j2, hy⟩ => by
    cases e1; cases e2
    rw [i1] at i2; cases i2
    rw [hx, hy, j1.inj j2]) ⟨p, v, bs, rfl, hp, hb, rfl⟩
def TwoR (f1 : FuncId) : RelT := fun args H x => ∃ p q v bs, args = [.ptr q 0] ∧ (q ≠ p ∧ H[q]? = some (.row [OneF f1 p] false) ∧ H[p]? = some (.row [v] false) ∧ off H p v ∧ low H.length v ∧ BS H v bs) ∧
  x = (.int .i64 (((bs.getD 0 0).toNat : Int) * 256 + ((bs.getD 1 0).toNat : Int) - 256), H.set p (.row [tailN 2 v] false))
theorem simTwo {P : Program} {T : Table} (hT : SoundT P T) (hm : P.follows .mixedOrders = true) {f1 f : FuncId} (hc : callable P f1 = true) (h1 : T f1 = some (tab OneR)) (h0 : T f = none) (hl : LoF P f callDecode2) : ∀ args H x, TwoR f1 args H x → SimCall P f args H x.1 x.2 := by
  rintro args H x ⟨p, q, v, bs, rfl, ⟨a1, a2, a3, a4, a5, a6⟩, rfl⟩
  exact simOf hT hm h0 hl 0 (Nat.le_of_ble_eq_true rfl) (by rw [callDecode2Eq]; exact two_s hc (okOne h1) a2 a3 a1 a4 a6)
theorem oneF_inj {f1 p p' : Nat} (h : OneF f1 p = OneF f1 p') : p = p' := by
  simp only [OneF, IV.func.injEq, List.cons.injEq, IV.ptr.injEq, and_true, true_and] at h
  exact h
theorem okTwo {P : Program} {T : Table} {f1 f : FuncId} (h : T f = some (tab (TwoR f1))) : TwoOk (den P T) f1 f := fun H p q v bs a1 a2 a3 a4 a5 a6 =>
  den_tab h (fun x y ⟨p1, q1, v1, b1, e1, ⟨_, i1, j1, _, _, k1⟩, hx⟩ ⟨p2, q2, v2, b2, e2, ⟨_, i2, j2, _, _, k2⟩, hy⟩ => by
    cases e1; cases e2
    rw [i1] at i2
    have : p1 = p2 := oneF_inj (by simpa using i2)
    subst this
    rw [j1] at j2; cases j2
    rw [hx, hy, k1.inj k2]) ⟨p, q, v, bs, rfl, ⟨a1, a2, a3, a4, a5, a6⟩, rfl⟩
def TextR (f1 : FuncId) : RelT := fun args H x => ∃ p q v bs, args = [.ptr q 0] ∧ (q ≠ p ∧ H[q]? = some (.row [OneF f1 p] false) ∧ H[p]? = some (.row [v] false) ∧ off H p v ∧ low H.length v ∧ BS H v bs) ∧
  x = (.str (rdText bs), H.set p (.row [tailN (TextN bs) v] false))
theorem simText {P : Program} {T : Table} (hT : SoundT P T) (hm : P.follows .mixedOrders = true) {f1 f : FuncId} (hc : callable P f1 = true) (h1 : T f1 = some (tab OneR)) (h0 : T f = none) (hl : LoF P f callDecode3) : ∀ args H x, TextR f1 args H x → SimCall P f args H x.1 x.2 := by
  rintro args H x ⟨p, q, v, bs, rfl, ⟨a1, a2, a3, a4, a5, a6⟩, rfl⟩
  obtain ⟨H', h2, h3⟩ := text_s (cal := callable P) (N := 65) (by omega) hc (okOne h1) a1 a2 a3 a4 a5 a6
  have hs := simOf hT hm h0 hl 65 (args := [.ptr q 0]) (Nat.le_of_ble_eq_true rfl) (by rw [callDecode3Eq]; exact h2)
  refine hs.upd (fun i x hi => ?_) ?_ rfl
  · have hlt : i < H.length := by have := (List.getElem?_eq_some_iff.1 hi).1; simpa using this
    rw [h3.1 i hlt]; exact hi
  · simp only [inBO, inBs, a6.inB a5, Bool.and_self]
theorem okText {P : Program} {T : Table} {f1 f : FuncId} (h : T f = some (tab (TextR f1))) : TextOk (den P T) f1 f := fun H p q v bs a1 a2 a3 a4 a5 a6 =>
  den_tab h (fun x y ⟨p1, q1, v1, b1, e1, ⟨_, i1, j1, _, _, k1⟩, hx⟩ ⟨p2, q2, v2, b2, e2, ⟨_, i2, j2, _, _, k2⟩, hy⟩ => by
    cases e1; cases e2
    rw [i1] at i2
    have : p1 = p2 := oneF_inj (by simpa using i2)
    subst this
    rw [j1] at j2; cases j2
    rw [hx, hy, k1.inj k2]) ⟨p, q, v, bs, rfl, ⟨a1, a2, a3, a4, a5, a6⟩, rfl⟩

/-! ### decoding -/
def DecR : RelT := fun args H x => ∃ v bs, args = [v] ∧ (v.one = true ∧ low H.length v ∧ BS H v bs) ∧
  x = if dec 200 bs = [] then (.nilSlice, H) else (.slice H.length 0 (dec 200 bs).length (dec 200 bs).length false 7, H ++ [.row (flat7 (dec 200 bs)) false])
theorem flat7_inB (l : List Cl) (n : Nat) : inBs n (flat7 l) = true := by
  induction l with
  | nil => rfl
  | cons c l ih =>
    refine inBs_of fun i v hv => ?_
    simp only [flat7, List.map_cons, List.flatten_cons] at hv ih
    rw [List.getElem?_append] at hv
    split at hv
    · have : ∀ x ∈ c.cells, inB n x = true := by
        intro x hx; simp only [Cl.cells, List.mem_cons, List.not_mem_nil, or_false] at hx
        rcases hx with rfl | rfl | rfl | rfl | rfl | rfl | rfl <;> rfl
      exact this v (List.mem_of_getElem? hv)
    · exact inBs_get ih hv
theorem simDec {P : Program} {T : Table} (hT : SoundT P T) (hm : P.follows .mixedOrders = true) {f1 f2 f3 f : FuncId} (hc1 : callable P f1 = true) (hc2 : callable P f2 = true) (hc3 : callable P f3 = true) (h1 : T f1 = some (tab OneR)) (h2 : T f2 = some (tab (TwoR f1))) (h3 : T f3 = some (tab (TextR f1))) (h0 : T f = none) (hl : LoF P f (callDecode f1 f2 f3)) : ∀ args H x, DecR args H x → SimCall P f args H x.1 x.2 := by
  rintro args H x ⟨v, bs, rfl, ⟨a1, a2, a3⟩, rfl⟩
  obtain ⟨v', H', e, hb, hk, hn⟩ := dec_s (cal := callable P) (N := 201) (by omega) hc1 hc2 hc3 (okOne h1) (okTwo h2) (okText h3) a1 a2 a3
  have hs := simOf hT hm h0 hl 201 (args := [v]) (Nat.le_of_ble_eq_true rfl) (by rw [callDecodeEq]; exact e)
  have hk' : ∀ (i : Nat) o, H[i]? = some o → H'[i]? = some o := fun i o hi => by rw [hk i (List.getElem?_eq_some_iff.1 hi).1]; exact hi
  by_cases h0' : dec 200 bs = []
  · rw [if_pos h0']
    have := hn h0'
    subst this
    exact hs.drop hk' rfl
  · rw [if_neg h0']
    rcases hb with ⟨rfl, e0⟩ | ⟨r, n, ex, rfl, g1, g2, g3⟩
    · have := flat7_length (dec 200 bs)
      rw [e0] at this; simp at this; exact absurd (List.length_eq_zero_iff.1 (by omega)) h0'
    · rw [flat7_length] at g3
      have hn : n = (dec 200 bs).length := by omega
      subst hn
      refine SimCall.one (r' := .slice H.length 0 (dec 200 bs).length (dec 200 bs).length false 7) (hs.weak (r' := .slice r 0 (dec 200 bs).length (dec 200 bs).length false 7) fun m u h => VR_exact h) hk' g2 g1 (flat7_inB _ _) ?_ ?_
      · simp only [ren, if_true]
      · simp only [inB, decide_eq_true_eq]; omega
def DecOk (φ : Oracle) (f : FuncId) : Prop := ∀ (H : Heap) (v : IV) (bs : List UInt8), v.one = true → low H.length v → BS H v bs → φ f [v] H = if dec 200 bs = [] then some (.nilSlice, H) else some (.slice H.length 0 (dec 200 bs).length (dec 200 bs).length false 7, H ++ [.row (flat7 (dec 200 bs)) false])
theorem okDec {P : Program} {T : Table} {f : FuncId} (h : T f = some (tab DecR)) : DecOk (den P T) f := fun H v bs a1 a2 a3 => by
  have := den_tab (P := P) h (args := [v]) (H := H) (fun x y ⟨v1, b1, e1, ⟨_, _, j1⟩, hx⟩ ⟨v2, b2, e2, ⟨_, _, j2⟩, hy⟩ => by
    cases e1; cases e2
    rw [hx, hy, j1.inj j2]) ⟨v, bs, rfl, ⟨a1, a2, a3⟩, rfl⟩
  rw [this]; split <;> rfl

/-! ### the same; scripts -/
theorem CS.inj {H : Heap} {v : IV} {l k : List Cl} (h : CS H v l) (g : CS H v k) : l = k := by
  rcases h with ⟨rfl, rfl⟩ | ⟨b, o, n, lb, ex, sz, rfl, h1, h2, h3, h4⟩
  · rcases g with ⟨_, rfl⟩ | ⟨b, o, n, lb, ex, sz, e, _⟩
    · rfl
    · cases e
  · rcases g with ⟨e, _⟩ | ⟨b', o', n', lb', ex', sz', e, k1, k2, k3, k4⟩
    · cases e
    · cases e
      apply List.ext_getElem (by omega)
      intro i hi hi'
      have a := h4 i _ (List.getElem?_eq_getElem hi)
      have b' := k4 i _ (List.getElem?_eq_getElem hi')
      rw [a] at b'
      simp only [Option.some.injEq, IV.agg.injEq] at b'
      exact Cl.inj b'
def SameR : RelT := fun args H x => ∃ v1 v2 l1 l2, args = [v1, v2] ∧ (CS H v1 l1 ∧ CS H v2 l2 ∧ l1.length < 4611686018427387904) ∧ x = (.bool (decide (l1 = l2)), H)
theorem simSame {P : Program} {T : Table} (hT : SoundT P T) (hm : P.follows .mixedOrders = true) {f : FuncId} (h0 : T f = none) (hl : LoF P f veneerlaw08Same) : ∀ args H x, SameR args H x → SimCall P f args H x.1 x.2 := by
  rintro args H x ⟨v1, v2, l1, l2, rfl, ⟨a1, a2, a3⟩, rfl⟩
  exact simOf hT hm h0 hl (l1.length + 1) (Nat.le_of_ble_eq_true rfl) (by rw [veneerlaw08SameEq]; exact same_s a1 a2 (by omega) a3)
def SameOk (φ : Oracle) (f : FuncId) : Prop := ∀ (H : Heap) (v1 v2 : IV) (l1 l2 : List Cl), CS H v1 l1 → CS H v2 l2 → l1.length < 4611686018427387904 → φ f [v1, v2] H = some (.bool (decide (l1 = l2)), H)
theorem okSame {P : Program} {T : Table} {f : FuncId} (h : T f = some (tab SameR)) : SameOk (den P T) f := fun H v1 v2 l1 l2 a1 a2 a3 =>
  den_tab (P := P) h (args := [v1, v2]) (H := H) (fun x y ⟨_, _, b1, c1, e1, ⟨i1, j1, _⟩, hx⟩ ⟨_, _, b2, c2, e2, ⟨i2, j2, _⟩, hy⟩ => by
    cases e1; cases e2
    rw [hx, hy, i1.inj i2, j1.inj j2]) ⟨v1, v2, l1, l2, rfl, ⟨a1, a2, a3⟩, rfl⟩
def scrX (H : Heap) (l : List Cl) : IV × Heap :=
  if okScr l = true then (if l = [] then (.tuple [.nilSlice, .int .i64 0], H) else (.tuple [.slice H.length 0 (encs l).length (encs l).length false 1, .int .i64 0], H ++ [.row (bytes (encs l)) false])) else (.tuple [.nilSlice, .int .i64 22], H)
def ScriptR : RelT := fun args H x => ∃ v l, args = [v] ∧ (low H.length v ∧ CS H v l) ∧ x = scrX H l
theorem simScript {P : Program} {T : Table} (hT : SoundT P T) (hm : P.follows .mixedOrders = true) {e f : FuncId} (he : T e = some (tab EncR)) (h0 : T f = none) (hl : LoF P f (callScript e)) : ∀ args H x, ScriptR args H x → SimCall P f args H x.1 x.2 := by
  rintro args H x ⟨v, l, rfl, ⟨a1, a2⟩, rfl⟩
  obtain ⟨v', H', e1, hk, hb, hn⟩ := script_s (cal := callable P) (N := 201) (okEnc he) (by omega) a1 a2
  have hk' : ∀ (i : Nat) o, H[i]? = some o → H'[i]? = some o := fun i o hi => by rw [hk.1 i (List.getElem?_eq_some_iff.1 hi).1]; exact hi
  unfold scrX
  by_cases hok : okScr l = true
  · rw [if_pos hok] at e1 ⊢
    have hs := simOf hT hm h0 hl 201 (args := [v]) (Nat.le_of_ble_eq_true rfl) (by rw [callScriptEq]; exact e1)
    by_cases hnil : l = []
    · rw [if_pos hnil]
      have := hn hnil
      subst this
      exact hs.drop hk' rfl
    · rw [if_neg hnil]
      rcases hb hok with ⟨_, e0⟩ | ⟨r, n, ex, rfl, g1, g2, g3⟩
      · exfalso
        obtain ⟨c, l', rfl⟩ := List.exists_cons_of_ne_nil hnil
        have := congrArg List.length e0
        simp [bytes_length, encs, Cl.enc] at this
      · rw [bytes_length, Nat.mul_one] at g3
        subst g3
        refine SimCall.one (r' := .tuple [.slice H.length 0 (encs l).length (encs l).length false 1, .int .i64 0]) (hs.weak (r' := .tuple [.slice r 0 (encs l).length (encs l).length false 1, .int .i64 0]) fun m u hu => VR_tuple2 hu fun u h => VR_exact h) hk' g2 g1 (bytes_inB _ _) ?_ ?_
        · simp only [ren, rens, if_true]
        · simp only [inB, inBs, Bool.and_true, decide_eq_true_eq]; omega
  · rw [if_neg hok] at e1 ⊢
    have hs := simOf hT hm h0 hl 201 (args := [v]) (Nat.le_of_ble_eq_true rfl) (by rw [callScriptEq]; exact e1)
    exact hs.drop hk' rfl
def ScriptOk (φ : Oracle) (f : FuncId) : Prop := ∀ (H : Heap) (v : IV) (l : List Cl), low H.length v → CS H v l → φ f [v] H = some (scrX H l)
theorem okScript {P : Program} {T : Table} {f : FuncId} (h : T f = some (tab ScriptR)) : ScriptOk (den P T) f := fun H v l a1 a2 =>
  den_tab (P := P) h (args := [v]) (H := H) (fun x y ⟨_, l1, e1, ⟨_, j1⟩, hx⟩ ⟨_, l2, e2, ⟨_, j2⟩, hy⟩ => by
    cases e1; cases e2
    rw [hx, hy, j1.inj j2]) ⟨v, l, rfl, ⟨a1, a2⟩, rfl⟩
end Go.Shade
/- CALL, part 2: the laws' own low code. Printed by gen.py. -/
namespace Go.Shade
set_option linter.unusedVariables false

def veneerlaw08Awake (cCallEncode cCallDecode cCallScript cCallMay : FuncId) : LFun := ⟨(.seq (.reg [
    ⟨(some 0), (.mv (.k (.bool false))), none⟩])
  (.seq (.reg [
    ⟨(some 10), (.bld [(.int .i64 0), (.int .i64 0), (.int .i64 0), (.int .i64 0), (.int .i64 0), (.str []), (.str [])] [(0, (1, (.k (.int .i64 2)))), (5, (1, (.k (.str [97]))))]), none⟩,
    ⟨(some 11), (.callF cCallEncode [(.t 10)]), none⟩,
    ⟨(some 9), (.mv (.t 11)), none⟩,
    ⟨(some 12), (.ext (.t 9) 0), none⟩,
    ⟨(some 13), (.ext (.t 9) 1), none⟩,
    ⟨(some 1), (.mv (.t 12)), none⟩,
    ⟨(some 2), (.mv (.t 13)), none⟩])
  (.seq (.reg [
    ⟨(some 14), (.mv (.t 1)), none⟩,
    ⟨(some 15), (.callF cCallDecode [(.t 14)]), none⟩,
    ⟨(some 3), (.mv (.t 15)), none⟩])
  (.seq (.reg [
    ⟨(some 17), (.bld [(.int .i64 0), (.int .i64 0), (.int .i64 0), (.int .i64 0), (.int .i64 0), (.str []), (.str [])] []), none⟩,
    ⟨(some 18), (.callF cCallEncode [(.t 17)]), none⟩,
    ⟨(some 16), (.mv (.t 18)), none⟩,
    ⟨(some 19), (.ext (.t 16) 0), none⟩,
    ⟨(some 20), (.ext (.t 16) 1), none⟩,
    ⟨(some 4), (.mv (.t 19)), none⟩,
    ⟨(some 5), (.mv (.t 20)), none⟩])
  (.seq (.reg [
    ⟨(some 22), (.mv (.t 3)), none⟩,
    ⟨(some 23), (.callF cCallScript [(.t 22)]), none⟩,
    ⟨(some 21), (.mv (.t 23)), none⟩,
    ⟨(some 24), (.ext (.t 21) 0), none⟩,
    ⟨(some 25), (.ext (.t 21) 1), none⟩,
    ⟨(some 6), (.mv (.t 24)), none⟩,
    ⟨(some 7), (.mv (.t 25)), none⟩])
  (.seq (.reg [
    ⟨(some 26), (.bldS 1 1 [(.int .u8 0)] [(0, (.k (.int .u8 20)))]), none⟩,
    ⟨(some 27), (.callF cCallDecode [(.t 26)]), none⟩,
    ⟨(some 8), (.mv (.t 27)), none⟩])
  (.seq (.reg [
    ⟨(some 28), (.mv (.t 1)), none⟩,
    ⟨(some 29), (.b2s (.t 28)), none⟩,
    ⟨(some 30), (.bin .eql (.t 29) (.k (.str [1, 4, 0, 1, 0, 1, 0, 1, 97, 0]))), none⟩,
    ⟨(some 31), (.mv (.t 30)), none⟩,
    ⟨(some 32), (.mv (.t 2)), (some (31, true))⟩,
    ⟨(some 33), (.bin .eql (.t 32) (.k (.int .i64 0))), (some (31, true))⟩,
    ⟨(some 34), (.pick (.t 31) (.t 33) (.k (.bool false))), none⟩,
    ⟨(some 35), (.mv (.t 34)), none⟩,
    ⟨(some 36), (.mv (.t 3)), (some (35, true))⟩,
    ⟨(some 37), (.len .slice (.t 36)), (some (35, true))⟩,
    ⟨(some 38), (.bin .eql (.t 37) (.k (.int .i64 1))), (some (35, true))⟩,
    ⟨(some 39), (.pick (.t 35) (.t 38) (.k (.bool false))), none⟩,
    ⟨(some 40), (.mv (.t 39)), none⟩,
    ⟨(some 41), (.mv (.t 3)), (some (40, true))⟩,
    ⟨(some 42), (.ix 7 (.t 41) (.k (.int .i64 0))), (some (40, true))⟩,
    ⟨(some 43), (.ldn 7 (.t 42)), (some (40, true))⟩,
    ⟨(some 44), (.bld [(.int .i64 0), (.int .i64 0), (.int .i64 0), (.int .i64 0), (.int .i64 0), (.str []), (.str [])] [(0, (1, (.k (.int .i64 2)))), (5, (1, (.k (.str [97]))))]), (some (40, true))⟩,
    ⟨(some 45), (.eqv false (.struct [(0, .int), (1, .int), (2, .int), (3, .int), (4, .int), (5, .str), (6, .str)]) (.t 43) (.t 44)), (some (40, true))⟩,
    ⟨(some 46), (.pick (.t 40) (.t 45) (.k (.bool false))), none⟩,
    ⟨(some 47), (.mv (.t 46)), none⟩,
    ⟨(some 48), (.mv (.t 5)), (some (47, true))⟩,
    ⟨(some 49), (.bin .eql (.t 48) (.k (.int .i64 22))), (some (47, true))⟩,
    ⟨(some 50), (.pick (.t 47) (.t 49) (.k (.bool false))), none⟩,
    ⟨(some 51), (.mv (.t 50)), none⟩,
    ⟨(some 52), (.mv (.t 6)), (some (51, true))⟩,
    ⟨(some 53), (.b2s (.t 52)), (some (51, true))⟩,
    ⟨(some 54), (.mv (.t 1)), (some (51, true))⟩,
    ⟨(some 55), (.b2s (.t 54)), (some (51, true))⟩,
    ⟨(some 56), (.bin .eql (.t 53) (.t 55)), (some (51, true))⟩,
    ⟨(some 57), (.pick (.t 51) (.t 56) (.k (.bool false))), none⟩,
    ⟨(some 58), (.mv (.t 57)), none⟩,
    ⟨(some 59), (.mv (.t 7)), (some (58, true))⟩,
    ⟨(some 60), (.bin .eql (.t 59) (.k (.int .i64 0))), (some (58, true))⟩,
    ⟨(some 61), (.pick (.t 58) (.t 60) (.k (.bool false))), none⟩,
    ⟨(some 62), (.mv (.t 61)), none⟩,
    ⟨(some 63), (.mv (.t 8)), (some (62, true))⟩,
    ⟨(some 64), (.len .slice (.t 63)), (some (62, true))⟩,
    ⟨(some 65), (.bin .eql (.t 64) (.k (.int .i64 1))), (some (62, true))⟩,
    ⟨(some 66), (.pick (.t 62) (.t 65) (.k (.bool false))), none⟩,
    ⟨(some 67), (.mv (.t 66)), none⟩,
    ⟨(some 68), (.mv (.t 8)), (some (67, true))⟩,
    ⟨(some 69), (.ix 7 (.t 68) (.k (.int .i64 0))), (some (67, true))⟩,
    ⟨(some 70), (.ldn 7 (.t 69)), (some (67, true))⟩,
    ⟨(some 71), (.bld [(.int .i64 0), (.int .i64 0), (.int .i64 0), (.int .i64 0), (.int .i64 0), (.str []), (.str [])] [(0, (1, (.k (.int .i64 1)))), (1, (1, (.k (.int .i64 (-4))))), (3, (1, (.k (.int .i64 (-256))))), (4, (1, (.k (.int .i64 (-256)))))]), (some (67, true))⟩,
    ⟨(some 72), (.eqv false (.struct [(0, .int), (1, .int), (2, .int), (3, .int), (4, .int), (5, .str), (6, .str)]) (.t 70) (.t 71)), (some (67, true))⟩,
    ⟨(some 73), (.pick (.t 67) (.t 72) (.k (.bool false))), none⟩,
    ⟨(some 74), (.mv (.t 73)), none⟩,
    ⟨(some 75), (.mv (.t 3)), (some (74, true))⟩,
    ⟨(some 76), (.ix 7 (.t 75) (.k (.int .i64 0))), (some (74, true))⟩,
    ⟨(some 77), (.ldn 7 (.t 76)), (some (74, true))⟩,
    ⟨(some 78), (.callF cCallMay [(.t 77)]), (some (74, true))⟩,
    ⟨(some 79), (.pick (.t 74) (.t 78) (.k (.bool false))), none⟩,
    ⟨(some 0), (.mv (.t 79)), none⟩])
  .ret))))))), [(.tmp 0)], 80⟩
def veneerlaw08AwakeS (cal : FuncId → Bool) (φ : Oracle) (N : Nat) (cCallEncode cCallDecode cCallScript cCallMay : FuncId) (H : Heap) : Option (IV × Heap) :=
    ob (lbld [(.int .i64 0), (.int .i64 0), (.int .i64 0), (.int .i64 0), (.int .i64 0), (.str []), (.str [])] [(0, 1, (.int .i64 2)), (5, 1, (.str [97]))]) fun t1 =>
    ob (φ cCallEncode [t1] H) fun r2 =>
    ob (iextract r2.1 0) fun t3 =>
    ob (iextract r2.1 1) fun t4 =>
    ob (φ cCallDecode [t3] r2.2) fun r5 =>
    ob (lbld [(.int .i64 0), (.int .i64 0), (.int .i64 0), (.int .i64 0), (.int .i64 0), (.str []), (.str [])] []) fun t6 =>
    ob (φ cCallEncode [t6] r5.2) fun r7 =>
    ob (iextract r7.1 0) fun t8 =>
    ob (iextract r7.1 1) fun t9 =>
    ob (φ cCallScript [r5.1] r7.2) fun r10 =>
    ob (iextract r10.1 0) fun t11 =>
    ob (iextract r10.1 1) fun t12 =>
    ob (lbldS r10.2 1 1 [(.int .u8 0)] [(0, (.int .u8 20))]) fun r13 =>
    ob (φ cCallDecode [r13.1] r13.2) fun r14 =>
    ob (lb2s r14.2 t3) fun t15 =>
    ob (lbin .eql t15 (.str [1, 4, 0, 1, 0, 1, 0, 1, 97, 0])) fun t16 =>
    ob (gq (isB t16 true) (some t4)) fun t17 =>
    ob (gq (isB t16 true) (lbin .eql t17 (.int .i64 0))) fun t18 =>
    ob (lpick t16 t18 (.bool false)) fun t19 =>
    ob (gq (isB t19 true) (some r5.1)) fun t20 =>
    ob (gq (isB t19 true) (llen r14.2 .slice t20)) fun t21 =>
    ob (gq (isB t19 true) (lbin .eql t21 (.int .i64 1))) fun t22 =>
    ob (lpick t19 t22 (.bool false)) fun t23 =>
    ob (gq (isB t23 true) (some r5.1)) fun t24 =>
    ob (gq (isB t23 true) (lix 7 t24 (.int .i64 0))) fun t25 =>
    ob (gq (isB t23 true) (lloadn r14.2 7 t25)) fun t26 =>
    ob (gq (isB t23 true) (lbld [(.int .i64 0), (.int .i64 0), (.int .i64 0), (.int .i64 0), (.int .i64 0), (.str []), (.str [])] [(0, 1, (.int .i64 2)), (5, 1, (.str [97]))])) fun t27 =>
    ob (gq (isB t23 true) (leqv false (leq (.struct [(0, .int), (1, .int), (2, .int), (3, .int), (4, .int), (5, .str), (6, .str)]) t26 t27))) fun t28 =>
    ob (lpick t23 t28 (.bool false)) fun t29 =>
    ob (gq (isB t29 true) (some t9)) fun t30 =>
    ob (gq (isB t29 true) (lbin .eql t30 (.int .i64 22))) fun t31 =>
    ob (lpick t29 t31 (.bool false)) fun t32 =>
    ob (gq (isB t32 true) (some t11)) fun t33 =>
    ob (gq (isB t32 true) (lb2s r14.2 t33)) fun t34 =>
    ob (gq (isB t32 true) (some t3)) fun t35 =>
    ob (gq (isB t32 true) (lb2s r14.2 t35)) fun t36 =>
    ob (gq (isB t32 true) (lbin .eql t34 t36)) fun t37 =>
    ob (lpick t32 t37 (.bool false)) fun t38 =>
    ob (gq (isB t38 true) (some t12)) fun t39 =>
    ob (gq (isB t38 true) (lbin .eql t39 (.int .i64 0))) fun t40 =>
    ob (lpick t38 t40 (.bool false)) fun t41 =>
    ob (gq (isB t41 true) (some r14.1)) fun t42 =>
    ob (gq (isB t41 true) (llen r14.2 .slice t42)) fun t43 =>
    ob (gq (isB t41 true) (lbin .eql t43 (.int .i64 1))) fun t44 =>
    ob (lpick t41 t44 (.bool false)) fun t45 =>
    ob (gq (isB t45 true) (some r14.1)) fun t46 =>
    ob (gq (isB t45 true) (lix 7 t46 (.int .i64 0))) fun t47 =>
    ob (gq (isB t45 true) (lloadn r14.2 7 t47)) fun t48 =>
    ob (gq (isB t45 true) (lbld [(.int .i64 0), (.int .i64 0), (.int .i64 0), (.int .i64 0), (.int .i64 0), (.str []), (.str [])] [(0, 1, (.int .i64 1)), (1, 1, (.int .i64 (-4))), (3, 1, (.int .i64 (-256))), (4, 1, (.int .i64 (-256)))])) fun t49 =>
    ob (gq (isB t45 true) (leqv false (leq (.struct [(0, .int), (1, .int), (2, .int), (3, .int), (4, .int), (5, .str), (6, .str)]) t48 t49))) fun t50 =>
    ob (lpick t45 t50 (.bool false)) fun t51 =>
    ob (gq (isB t51 true) (some r5.1)) fun t52 =>
    ob (gq (isB t51 true) (lix 7 t52 (.int .i64 0))) fun t53 =>
    ob (gq (isB t51 true) (lloadn r14.2 7 t53)) fun t54 =>
    ob (ge (isB t51 true) r14.2 (φ cCallMay [t54] r14.2)) fun r55 =>
    ob (lpick t51 r55.1 (.bool false)) fun t56 =>
    some (t56, r55.2)
theorem veneerlaw08AwakeEq (cal : FuncId → Bool) (φ : Oracle) (N : Nat) (cCallEncode cCallDecode cCallScript cCallMay : FuncId) (H : Heap) : lrunK cal φ N (veneerlaw08Awake cCallEncode cCallDecode cCallScript cCallMay) [] H = veneerlaw08AwakeS cal φ N cCallEncode cCallDecode cCallScript cCallMay H := by
  kernel_rfl

def veneerlaw08CallDecodes (cVeneerlaw08Awake cCallDecode cVeneerref08Decode cVeneerlaw08Same : FuncId) : LFun := ⟨(.seq (.reg [
    ⟨(some 2), (.mv (.k (.bool false))), none⟩])
  (.seq (.seq (.reg [
    ⟨(some 5), (.callF cVeneerlaw08Awake []), none⟩,
    ⟨(some 6), (.un .not (.t 5)), none⟩])
  (.cond (.t 6) (.seq (.reg [
    ⟨(some 2), (.mv (.k (.bool false))), none⟩])
  .ret)
  .skip))
  (.seq (.seq (.reg [
    ⟨(some 7), (.mv (.t 0)), none⟩,
    ⟨(some 8), (.len .slice (.t 7)), none⟩,
    ⟨(some 9), (.bin .gtr (.t 8) (.k (.int .i64 65536))), none⟩])
  (.cond (.t 9) (.seq (.reg [
    ⟨(some 2), (.mv (.k (.bool true))), none⟩])
  .ret)
  .skip))
  (.seq (.reg [
    ⟨(some 10), (.bldS 1 0 [(.int .u8 0)] []), none⟩,
    ⟨(some 11), (.mv (.t 0)), none⟩,
    ⟨(some 12), (.app 1 1 (.t 10) (.t 11)), none⟩,
    ⟨(some 3), (.mv (.t 12)), none⟩])
  (.seq (.reg [
    ⟨(some 13), (.mv (.t 3)), none⟩,
    ⟨(some 14), (.callF cCallDecode [(.t 13)]), none⟩,
    ⟨(some 4), (.mv (.t 14)), none⟩])
  (.seq (.reg [
    ⟨(some 15), (.mv (.t 4)), none⟩,
    ⟨(some 16), (.mv (.t 0)), none⟩,
    ⟨(some 17), (.callF cVeneerref08Decode [(.t 16)]), none⟩,
    ⟨(some 18), (.callF cVeneerlaw08Same [(.t 15), (.t 17)]), none⟩,
    ⟨(some 19), (.mv (.t 18)), none⟩,
    ⟨(some 20), (.mv (.t 3)), (some (19, true))⟩,
    ⟨(some 21), (.b2s (.t 20)), (some (19, true))⟩,
    ⟨(some 22), (.mv (.t 0)), (some (19, true))⟩,
    ⟨(some 23), (.b2s (.t 22)), (some (19, true))⟩,
    ⟨(some 24), (.bin .eql (.t 21) (.t 23)), (some (19, true))⟩,
    ⟨(some 25), (.pick (.t 19) (.t 24) (.k (.bool false))), none⟩,
    ⟨(some 2), (.mv (.t 25)), none⟩])
  .ret)))))), [(.tmp 2)], 26⟩
def veneerlaw08CallDecodesS (cal : FuncId → Bool) (φ : Oracle) (N : Nat) (cVeneerlaw08Awake cCallDecode cVeneerref08Decode cVeneerlaw08Same : FuncId) (v0 : IV) (H : Heap) : Option (IV × Heap) :=
    ob (φ cVeneerlaw08Awake [] H) fun r1 =>
    ob (iun .not r1.1) fun t2 =>
    cnd t2
    (some ((.bool false), r1.2))
    (ob (llen r1.2 .slice v0) fun t3 =>
    ob (lbin .gtr t3 (.int .i64 65536)) fun t4 =>
    cnd t4
    (some ((.bool true), r1.2))
    (ob (lbldS r1.2 1 0 [(.int .u8 0)] []) fun r5 =>
    ob (lapp r5.2 1 1 r5.1 v0) fun r6 =>
    ob (φ cCallDecode [r6.1] r6.2) fun r7 =>
    ob (φ cVeneerref08Decode [v0] r7.2) fun r8 =>
    ob (φ cVeneerlaw08Same [r7.1, r8.1] r8.2) fun r9 =>
    ob (gq (isB r9.1 true) (some r6.1)) fun t10 =>
    ob (gq (isB r9.1 true) (lb2s r9.2 t10)) fun t11 =>
    ob (gq (isB r9.1 true) (some v0)) fun t12 =>
    ob (gq (isB r9.1 true) (lb2s r9.2 t12)) fun t13 =>
    ob (gq (isB r9.1 true) (lbin .eql t11 t13)) fun t14 =>
    ob (lpick r9.1 t14 (.bool false)) fun t15 =>
    some (t15, r9.2)))
theorem veneerlaw08CallDecodesEq (cal : FuncId → Bool) (φ : Oracle) (N : Nat) (cVeneerlaw08Awake cCallDecode cVeneerref08Decode cVeneerlaw08Same : FuncId) (v0 : IV) (H : Heap) : lrunK cal φ N (veneerlaw08CallDecodes cVeneerlaw08Awake cCallDecode cVeneerref08Decode cVeneerlaw08Same) [v0] H = veneerlaw08CallDecodesS cal φ N cVeneerlaw08Awake cCallDecode cVeneerref08Decode cVeneerlaw08Same v0 H := by
  kernel_rfl

def veneerlaw08CallEncodesC0 (cVeneerlaw08Awake cCallEncode cVeneerref08Encode cCallMay cVeneerref08May cCallScript cVeneerref08Script : FuncId) : LC := .loop (.seq (.reg [
    ⟨(some 20), (.bin .lss (.t 19) (.t 18)), none⟩])
  (.seq (.cond (.t 20) .skip
  (.exit 0))
  (.seq (.block 1 (.seq (.reg [
    ⟨(some 21), (.mv (.t 19)), none⟩,
    ⟨(some 3), (.mv (.t 21)), none⟩])
  (.seq (.reg [
    ⟨(some 23), (.mv (.t 0)), none⟩,
    ⟨(some 24), (.mv (.t 3)), none⟩,
    ⟨(some 25), (.ix 7 (.t 23) (.t 24)), none⟩,
    ⟨(some 26), (.ldn 7 (.t 25)), none⟩,
    ⟨(some 27), (.callF cCallEncode [(.t 26)]), none⟩,
    ⟨(some 22), (.mv (.t 27)), none⟩,
    ⟨(some 28), (.ext (.t 22) 0), none⟩,
    ⟨(some 29), (.ext (.t 22) 1), none⟩,
    ⟨(some 4), (.mv (.t 28)), none⟩,
    ⟨(some 5), (.mv (.t 29)), none⟩])
  (.seq (.reg [
    ⟨(some 31), (.mv (.t 0)), none⟩,
    ⟨(some 32), (.mv (.t 3)), none⟩,
    ⟨(some 33), (.ix 7 (.t 31) (.t 32)), none⟩,
    ⟨(some 34), (.ldn 7 (.t 33)), none⟩,
    ⟨(some 35), (.callF cVeneerref08Encode [(.t 34)]), none⟩,
    ⟨(some 30), (.mv (.t 35)), none⟩,
    ⟨(some 36), (.ext (.t 30) 0), none⟩,
    ⟨(some 37), (.ext (.t 30) 1), none⟩,
    ⟨(some 6), (.mv (.t 36)), none⟩,
    ⟨(some 7), (.mv (.t 37)), none⟩])
  (.seq (.drw [
    ⟨(some 38), (.mv (.t 4)), none⟩,
    ⟨(some 39), (.b2s (.t 38)), none⟩,
    ⟨(some 40), (.mv (.t 6)), none⟩,
    ⟨(some 41), (.b2s (.t 40)), none⟩,
    ⟨(some 42), (.bin .neq (.t 39) (.t 41)), none⟩,
    ⟨(some 43), (.mv (.t 42)), none⟩,
    ⟨(some 44), (.mv (.t 5)), (some (43, false))⟩,
    ⟨(some 45), (.mv (.t 7)), (some (43, false))⟩,
    ⟨(some 46), (.bin .neq (.t 44) (.t 45)), (some (43, false))⟩,
    ⟨(some 47), (.pick (.t 43) (.k (.bool true)) (.t 46)), none⟩,
    ⟨(some 48), (.mv (.t 47)), none⟩,
    ⟨(some 49), (.mv (.t 0)), (some (48, false))⟩,
    ⟨(some 50), (.mv (.t 3)), (some (48, false))⟩,
    ⟨(some 51), (.ix 7 (.t 49) (.t 50)), (some (48, false))⟩,
    ⟨(some 52), (.ldn 7 (.t 51)), (some (48, false))⟩,
    ⟨(some 53), (.callF cCallMay [(.t 52)]), (some (48, false))⟩,
    ⟨(some 54), (.mv (.t 0)), (some (48, false))⟩,
    ⟨(some 55), (.mv (.t 3)), (some (48, false))⟩,
    ⟨(some 56), (.ix 7 (.t 54) (.t 55)), (some (48, false))⟩,
    ⟨(some 57), (.ldn 7 (.t 56)), (some (48, false))⟩,
    ⟨(some 58), (.callF cVeneerref08May [(.t 57)]), (some (48, false))⟩,
    ⟨(some 59), (.eqv true .bool (.t 53) (.t 58)), (some (48, false))⟩,
    ⟨(some 60), (.pick (.t 48) (.k (.bool true)) (.t 59)), none⟩] [(19, 15)])
  (.cond (.t 60) (.seq (.reg [
    ⟨(some 2), (.mv (.k (.bool false))), none⟩])
  .ret)
  .skip))))))
  (.reg [
    ⟨(some 61), (.bin .add (.t 19) (.k (.int .i64 1))), none⟩,
    ⟨(some 19), (.mv (.t 61)), none⟩]))))
def veneerlaw08CallEncodesC1 (cVeneerlaw08Awake cCallEncode cVeneerref08Encode cCallMay cVeneerref08May cCallScript cVeneerref08Script : FuncId) : LC := .block 0 (veneerlaw08CallEncodesC0 cVeneerlaw08Awake cCallEncode cVeneerref08Encode cCallMay cVeneerref08May cCallScript cVeneerref08Script)
def veneerlaw08CallEncodesC2 (cVeneerlaw08Awake cCallEncode cVeneerref08Encode cCallMay cVeneerref08May cCallScript cVeneerref08Script : FuncId) : LC := .seq (.reg [
    ⟨(some 17), (.mv (.t 0)), none⟩,
    ⟨(some 18), (.len .slice (.t 17)), none⟩,
    ⟨(some 19), (.mv (.k (.int .i64 0))), none⟩]) (veneerlaw08CallEncodesC1 cVeneerlaw08Awake cCallEncode cVeneerref08Encode cCallMay cVeneerref08May cCallScript cVeneerref08Script)
def veneerlaw08CallEncodesC3 (cVeneerlaw08Awake cCallEncode cVeneerref08Encode cCallMay cVeneerref08May cCallScript cVeneerref08Script : FuncId) : LC := .seq (veneerlaw08CallEncodesC2 cVeneerlaw08Awake cCallEncode cVeneerref08Encode cCallMay cVeneerref08May cCallScript cVeneerref08Script) (.seq (.reg [
    ⟨(some 63), (.mv (.t 0)), none⟩,
    ⟨(some 64), (.callF cCallScript [(.t 63)]), none⟩,
    ⟨(some 62), (.mv (.t 64)), none⟩,
    ⟨(some 65), (.ext (.t 62) 0), none⟩,
    ⟨(some 66), (.ext (.t 62) 1), none⟩,
    ⟨(some 8), (.mv (.t 65)), none⟩,
    ⟨(some 9), (.mv (.t 66)), none⟩])
  (.seq (.reg [
    ⟨(some 68), (.mv (.t 0)), none⟩,
    ⟨(some 69), (.callF cVeneerref08Script [(.t 68)]), none⟩,
    ⟨(some 67), (.mv (.t 69)), none⟩,
    ⟨(some 70), (.ext (.t 67) 0), none⟩,
    ⟨(some 71), (.ext (.t 67) 1), none⟩,
    ⟨(some 10), (.mv (.t 70)), none⟩,
    ⟨(some 11), (.mv (.t 71)), none⟩])
  (.seq (.reg [
    ⟨(some 72), (.mv (.t 8)), none⟩,
    ⟨(some 73), (.b2s (.t 72)), none⟩,
    ⟨(some 74), (.mv (.t 10)), none⟩,
    ⟨(some 75), (.b2s (.t 74)), none⟩,
    ⟨(some 76), (.bin .eql (.t 73) (.t 75)), none⟩,
    ⟨(some 77), (.mv (.t 76)), none⟩,
    ⟨(some 78), (.mv (.t 9)), (some (77, true))⟩,
    ⟨(some 79), (.mv (.t 11)), (some (77, true))⟩,
    ⟨(some 80), (.bin .eql (.t 78) (.t 79)), (some (77, true))⟩,
    ⟨(some 81), (.pick (.t 77) (.t 80) (.k (.bool false))), none⟩,
    ⟨(some 2), (.mv (.t 81)), none⟩])
  .ret)))
def veneerlaw08CallEncodesC4 (cVeneerlaw08Awake cCallEncode cVeneerref08Encode cCallMay cVeneerref08May cCallScript cVeneerref08Script : FuncId) : LC := .seq (.seq (.reg [
    ⟨(some 14), (.mv (.t 0)), none⟩,
    ⟨(some 15), (.len .slice (.t 14)), none⟩,
    ⟨(some 16), (.bin .gtr (.t 15) (.k (.int .i64 300))), none⟩])
  (.cond (.t 16) (.seq (.reg [
    ⟨(some 2), (.mv (.k (.bool true))), none⟩])
  .ret)
  .skip)) (veneerlaw08CallEncodesC3 cVeneerlaw08Awake cCallEncode cVeneerref08Encode cCallMay cVeneerref08May cCallScript cVeneerref08Script)
def veneerlaw08CallEncodesC5 (cVeneerlaw08Awake cCallEncode cVeneerref08Encode cCallMay cVeneerref08May cCallScript cVeneerref08Script : FuncId) : LC := .seq (.seq (.reg [
    ⟨(some 12), (.callF cVeneerlaw08Awake []), none⟩,
    ⟨(some 13), (.un .not (.t 12)), none⟩])
  (.cond (.t 13) (.seq (.reg [
    ⟨(some 2), (.mv (.k (.bool false))), none⟩])
  .ret)
  .skip)) (veneerlaw08CallEncodesC4 cVeneerlaw08Awake cCallEncode cVeneerref08Encode cCallMay cVeneerref08May cCallScript cVeneerref08Script)
def veneerlaw08CallEncodesC6 (cVeneerlaw08Awake cCallEncode cVeneerref08Encode cCallMay cVeneerref08May cCallScript cVeneerref08Script : FuncId) : LC := .seq (.reg [
    ⟨(some 2), (.mv (.k (.bool false))), none⟩]) (veneerlaw08CallEncodesC5 cVeneerlaw08Awake cCallEncode cVeneerref08Encode cCallMay cVeneerref08May cCallScript cVeneerref08Script)
def veneerlaw08CallEncodesC0S (cal : FuncId → Bool) (φ : Oracle) (N : Nat) (cVeneerlaw08Awake cCallEncode cVeneerref08Encode cCallMay cVeneerref08May cCallScript cVeneerref08Script : FuncId) (gE0 : IV → Heap → Option (IV × Heap)) : Nat → IV → IV → IV → Heap → Option (IV × Heap)
  | 0, _, _, _, _ => none
  | n + 1, v0, v18, v19, H =>
    ob (lbin .lss v19 v18) fun t1 =>
    cnd t1
    (ob (lix 7 v0 v19) fun t2 =>
    ob (lloadn H 7 t2) fun t3 =>
    ob (φ cCallEncode [t3] H) fun r4 =>
    ob (iextract r4.1 0) fun t5 =>
    ob (iextract r4.1 1) fun t6 =>
    ob (lix 7 v0 v19) fun t7 =>
    ob (lloadn r4.2 7 t7) fun t8 =>
    ob (φ cVeneerref08Encode [t8] r4.2) fun r9 =>
    ob (iextract r9.1 0) fun t10 =>
    ob (iextract r9.1 1) fun t11 =>
    ob (lb2s r9.2 t5) fun t12 =>
    ob (lb2s r9.2 t10) fun t13 =>
    ob (lbin .neq t12 t13) fun t14 =>
    ob (gq (isB t14 false) (some t6)) fun t15 =>
    ob (gq (isB t14 false) (some t11)) fun t16 =>
    ob (gq (isB t14 false) (lbin .neq t15 t16)) fun t17 =>
    ob (lpick t14 (.bool true) t17) fun t18 =>
    ob (gq (isB t18 false) (some v0)) fun t19 =>
    ob (gq (isB t18 false) (some v19)) fun t20 =>
    ob (gq (isB t18 false) (lix 7 t19 t20)) fun t21 =>
    ob (gq (isB t18 false) (lloadn r9.2 7 t21)) fun t22 =>
    ob (ge (isB t18 false) r9.2 (φ cCallMay [t22] r9.2)) fun r23 =>
    ob (gq (isB t18 false) (some v0)) fun t24 =>
    ob (gq (isB t18 false) (some v19)) fun t25 =>
    ob (gq (isB t18 false) (lix 7 t24 t25)) fun t26 =>
    ob (gq (isB t18 false) (lloadn r23.2 7 t26)) fun t27 =>
    ob (ge (isB t18 false) r23.2 (φ cVeneerref08May [t27] r23.2)) fun r28 =>
    ob (gq (isB t18 false) (leqv true (leq .bool r23.1 r28.1))) fun t29 =>
    ob (lpick t18 (.bool true) t29) fun t30 =>
    ckd ((!(isB t18 false) || ((!(false)) && ivo (lloadn r9.2 7 t26) t27 && ivo (lloadn r23.2 7 t26) t27)) && true) <|
    cnd t30
    (some ((.bool false), r28.2))
    (ob (lbin .add v19 (.int .i64 1)) fun t31 =>
    veneerlaw08CallEncodesC0S cal φ N cVeneerlaw08Awake cCallEncode cVeneerref08Encode cCallMay cVeneerref08May cCallScript cVeneerref08Script gE0 n v0 v18 t31 r28.2))
    (gE0 v0 H)
theorem veneerlaw08CallEncodesC0Eq (cal : FuncId → Bool) (φ : Oracle) (N : Nat) (cVeneerlaw08Awake cCallEncode cVeneerref08Encode cCallMay cVeneerref08May cCallScript cVeneerref08Script : FuncId) {k : KT (IV × Heap)} (gE0 : IV → Heap → Option (IV × Heap)) (hgE0 : ∀ σ H, k (.exit 0) σ H = gE0 (lk σ 0) H) (hR : ∀ σ H, k .ret σ H = resK [(.tmp 2)] [] σ H) : ∀ (n : Nat) (σ : Sg) (H : Heap), itK (lxK cal φ N (.seq (.reg [
    ⟨(some 20), (.bin .lss (.t 19) (.t 18)), none⟩])
  (.seq (.cond (.t 20) .skip
  (.exit 0))
  (.seq (.block 1 (.seq (.reg [
    ⟨(some 21), (.mv (.t 19)), none⟩,
    ⟨(some 3), (.mv (.t 21)), none⟩])
  (.seq (.reg [
    ⟨(some 23), (.mv (.t 0)), none⟩,
    ⟨(some 24), (.mv (.t 3)), none⟩,
    ⟨(some 25), (.ix 7 (.t 23) (.t 24)), none⟩,
    ⟨(some 26), (.ldn 7 (.t 25)), none⟩,
    ⟨(some 27), (.callF cCallEncode [(.t 26)]), none⟩,
    ⟨(some 22), (.mv (.t 27)), none⟩,
    ⟨(some 28), (.ext (.t 22) 0), none⟩,
    ⟨(some 29), (.ext (.t 22) 1), none⟩,
    ⟨(some 4), (.mv (.t 28)), none⟩,
    ⟨(some 5), (.mv (.t 29)), none⟩])
  (.seq (.reg [
    ⟨(some 31), (.mv (.t 0)), none⟩,
    ⟨(some 32), (.mv (.t 3)), none⟩,
    ⟨(some 33), (.ix 7 (.t 31) (.t 32)), none⟩,
    ⟨(some 34), (.ldn 7 (.t 33)), none⟩,
    ⟨(some 35), (.callF cVeneerref08Encode [(.t 34)]), none⟩,
    ⟨(some 30), (.mv (.t 35)), none⟩,
    ⟨(some 36), (.ext (.t 30) 0), none⟩,
    ⟨(some 37), (.ext (.t 30) 1), none⟩,
    ⟨(some 6), (.mv (.t 36)), none⟩,
    ⟨(some 7), (.mv (.t 37)), none⟩])
  (.seq (.drw [
    ⟨(some 38), (.mv (.t 4)), none⟩,
    ⟨(some 39), (.b2s (.t 38)), none⟩,
    ⟨(some 40), (.mv (.t 6)), none⟩,
    ⟨(some 41), (.b2s (.t 40)), none⟩,
    ⟨(some 42), (.bin .neq (.t 39) (.t 41)), none⟩,
    ⟨(some 43), (.mv (.t 42)), none⟩,
    ⟨(some 44), (.mv (.t 5)), (some (43, false))⟩,
    ⟨(some 45), (.mv (.t 7)), (some (43, false))⟩,
    ⟨(some 46), (.bin .neq (.t 44) (.t 45)), (some (43, false))⟩,
    ⟨(some 47), (.pick (.t 43) (.k (.bool true)) (.t 46)), none⟩,
    ⟨(some 48), (.mv (.t 47)), none⟩,
    ⟨(some 49), (.mv (.t 0)), (some (48, false))⟩,
    ⟨(some 50), (.mv (.t 3)), (some (48, false))⟩,
    ⟨(some 51), (.ix 7 (.t 49) (.t 50)), (some (48, false))⟩,
    ⟨(some 52), (.ldn 7 (.t 51)), (some (48, false))⟩,
    ⟨(some 53), (.callF cCallMay [(.t 52)]), (some (48, false))⟩,
    ⟨(some 54), (.mv (.t 0)), (some (48, false))⟩,
    ⟨(some 55), (.mv (.t 3)), (some (48, false))⟩,
    ⟨(some 56), (.ix 7 (.t 54) (.t 55)), (some (48, false))⟩,
    ⟨(some 57), (.ldn 7 (.t 56)), (some (48, false))⟩,
    ⟨(some 58), (.callF cVeneerref08May [(.t 57)]), (some (48, false))⟩,
    ⟨(some 59), (.eqv true .bool (.t 53) (.t 58)), (some (48, false))⟩,
    ⟨(some 60), (.pick (.t 48) (.k (.bool true)) (.t 59)), none⟩] [(19, 15)])
  (.cond (.t 60) (.seq (.reg [
    ⟨(some 2), (.mv (.k (.bool false))), none⟩])
  .ret)
  .skip))))))
  (.reg [
    ⟨(some 61), (.bin .add (.t 19) (.k (.int .i64 1))), none⟩,
    ⟨(some 19), (.mv (.t 61)), none⟩]))))) n σ H k = veneerlaw08CallEncodesC0S cal φ N cVeneerlaw08Awake cCallEncode cVeneerref08Encode cCallMay cVeneerref08May cCallScript cVeneerref08Script gE0 n (lk σ 0) (lk σ 18) (lk σ 19) H := by
  have hk : k = (kE 0 (fun σ H => gE0 (lk σ 0) H) (kR (resK [(.tmp 2)] []) k)) := (kE_mk hgE0 (kR_mk hR rfl))
  intro n
  induction n with
  | zero => intro σ H; rfl
  | succ n ih =>
    intro σ H
    rw [itK_succ, seqK_mk (g := fun σ H => veneerlaw08CallEncodesC0S cal φ N cVeneerlaw08Awake cCallEncode cVeneerref08Encode cCallMay cVeneerref08May cCallScript cVeneerref08Script gE0 n (lk σ 0) (lk σ 18) (lk σ 19) H) ih, hk]
    kernel_rfl
def veneerlaw08CallEncodesC1S (cal : FuncId → Bool) (φ : Oracle) (N : Nat) (cVeneerlaw08Awake cCallEncode cVeneerref08Encode cCallMay cVeneerref08May cCallScript cVeneerref08Script : FuncId) (gN : IV → Heap → Option (IV × Heap)) (v0 v18 v19 : IV) (H : Heap) : Option (IV × Heap) :=
    veneerlaw08CallEncodesC0S cal φ N cVeneerlaw08Awake cCallEncode cVeneerref08Encode cCallMay cVeneerref08May cCallScript cVeneerref08Script (fun v0 H => gN v0 H) N v0 v18 v19 H
theorem veneerlaw08CallEncodesC1Eq (cal : FuncId → Bool) (φ : Oracle) (N : Nat) (cVeneerlaw08Awake cCallEncode cVeneerref08Encode cCallMay cVeneerref08May cCallScript cVeneerref08Script : FuncId) {k : KT (IV × Heap)} (gN : IV → Heap → Option (IV × Heap)) (hgN : ∀ σ H, k .normal σ H = gN (lk σ 0) H) (hR : ∀ σ H, k .ret σ H = resK [(.tmp 2)] [] σ H) : ∀ (σ : Sg) (H : Heap), lxK cal φ N (veneerlaw08CallEncodesC1 cVeneerlaw08Awake cCallEncode cVeneerref08Encode cCallMay cVeneerref08May cCallScript cVeneerref08Script) σ H k = veneerlaw08CallEncodesC1S cal φ N cVeneerlaw08Awake cCallEncode cVeneerref08Encode cCallMay cVeneerref08May cCallScript cVeneerref08Script gN (lk σ 0) (lk σ 18) (lk σ 19) H := by
  have hk : k = (kN (fun σ H => gN (lk σ 0) H) (kR (resK [(.tmp 2)] []) k)) := (kN_mk hgN (kR_mk hR rfl))
  intro σ H
  rw [hk]
  show lxK cal φ N (veneerlaw08CallEncodesC0 cVeneerlaw08Awake cCallEncode cVeneerref08Encode cCallMay cVeneerref08May cCallScript cVeneerref08Script) σ H (blockK 0 (kN (fun σ H => gN (lk σ 0) H) (kR (resK [(.tmp 2)] []) k))) = _
  exact veneerlaw08CallEncodesC0Eq cal φ N cVeneerlaw08Awake cCallEncode cVeneerref08Encode cCallMay cVeneerref08May cCallScript cVeneerref08Script (k := (blockK 0 (kN (fun σ H => gN (lk σ 0) H) (kR (resK [(.tmp 2)] []) k)))) (fun v0 H => gN v0 H) (fun _ _ => rfl) (fun _ _ => rfl) N σ H
def veneerlaw08CallEncodesC2S (cal : FuncId → Bool) (φ : Oracle) (N : Nat) (cVeneerlaw08Awake cCallEncode cVeneerref08Encode cCallMay cVeneerref08May cCallScript cVeneerref08Script : FuncId) (gN : IV → Heap → Option (IV × Heap)) (v0 : IV) (H : Heap) : Option (IV × Heap) :=
    ob (llen H .slice v0) fun t1 =>
    veneerlaw08CallEncodesC1S cal φ N cVeneerlaw08Awake cCallEncode cVeneerref08Encode cCallMay cVeneerref08May cCallScript cVeneerref08Script (fun v0 H => gN v0 H) v0 t1 (.int .i64 0) H
theorem veneerlaw08CallEncodesC2Eq (cal : FuncId → Bool) (φ : Oracle) (N : Nat) (cVeneerlaw08Awake cCallEncode cVeneerref08Encode cCallMay cVeneerref08May cCallScript cVeneerref08Script : FuncId) {k : KT (IV × Heap)} (gN : IV → Heap → Option (IV × Heap)) (hgN : ∀ σ H, k .normal σ H = gN (lk σ 0) H) (hR : ∀ σ H, k .ret σ H = resK [(.tmp 2)] [] σ H) : ∀ (σ : Sg) (H : Heap), lxK cal φ N (veneerlaw08CallEncodesC2 cVeneerlaw08Awake cCallEncode cVeneerref08Encode cCallMay cVeneerref08May cCallScript cVeneerref08Script) σ H k = veneerlaw08CallEncodesC2S cal φ N cVeneerlaw08Awake cCallEncode cVeneerref08Encode cCallMay cVeneerref08May cCallScript cVeneerref08Script gN (lk σ 0) H := by
  have hk : k = (kN (fun σ H => gN (lk σ 0) H) (kR (resK [(.tmp 2)] []) k)) := (kN_mk hgN (kR_mk hR rfl))
  intro σ H
  rw [hk]
  show lxK cal φ N (.reg [
    ⟨(some 17), (.mv (.t 0)), none⟩,
    ⟨(some 18), (.len .slice (.t 17)), none⟩,
    ⟨(some 19), (.mv (.k (.int .i64 0))), none⟩]) σ H (seqK (lxK cal φ N (veneerlaw08CallEncodesC1 cVeneerlaw08Awake cCallEncode cVeneerref08Encode cCallMay cVeneerref08May cCallScript cVeneerref08Script)) (kN (fun σ H => gN (lk σ 0) H) (kR (resK [(.tmp 2)] []) k))) = _
  rw [seqK_mk (g := fun σ H => veneerlaw08CallEncodesC1S cal φ N cVeneerlaw08Awake cCallEncode cVeneerref08Encode cCallMay cVeneerref08May cCallScript cVeneerref08Script (fun v0 H => gN v0 H) (lk σ 0) (lk σ 18) (lk σ 19) H) (veneerlaw08CallEncodesC1Eq cal φ N cVeneerlaw08Awake cCallEncode cVeneerref08Encode cCallMay cVeneerref08May cCallScript cVeneerref08Script (k := (kN (fun σ H => gN (lk σ 0) H) (kR (resK [(.tmp 2)] []) k))) (fun v0 H => gN v0 H) (fun _ _ => rfl) (fun _ _ => rfl))]
  kernel_rfl
def veneerlaw08CallEncodesC3S (cal : FuncId → Bool) (φ : Oracle) (N : Nat) (cVeneerlaw08Awake cCallEncode cVeneerref08Encode cCallMay cVeneerref08May cCallScript cVeneerref08Script : FuncId) (v0 : IV) (H : Heap) : Option (IV × Heap) :=
    veneerlaw08CallEncodesC2S cal φ N cVeneerlaw08Awake cCallEncode cVeneerref08Encode cCallMay cVeneerref08May cCallScript cVeneerref08Script (fun v0 H => ob (φ cCallScript [v0] H) fun r1 =>
    ob (iextract r1.1 0) fun t2 =>
    ob (iextract r1.1 1) fun t3 =>
    ob (φ cVeneerref08Script [v0] r1.2) fun r4 =>
    ob (iextract r4.1 0) fun t5 =>
    ob (iextract r4.1 1) fun t6 =>
    ob (lb2s r4.2 t2) fun t7 =>
    ob (lb2s r4.2 t5) fun t8 =>
    ob (lbin .eql t7 t8) fun t9 =>
    ob (gq (isB t9 true) (some t3)) fun t10 =>
    ob (gq (isB t9 true) (some t6)) fun t11 =>
    ob (gq (isB t9 true) (lbin .eql t10 t11)) fun t12 =>
    ob (lpick t9 t12 (.bool false)) fun t13 =>
    some (t13, r4.2)) v0 H
theorem veneerlaw08CallEncodesC3Eq (cal : FuncId → Bool) (φ : Oracle) (N : Nat) (cVeneerlaw08Awake cCallEncode cVeneerref08Encode cCallMay cVeneerref08May cCallScript cVeneerref08Script : FuncId) {k : KT (IV × Heap)} (hR : ∀ σ H, k .ret σ H = resK [(.tmp 2)] [] σ H) : ∀ (σ : Sg) (H : Heap), lxK cal φ N (veneerlaw08CallEncodesC3 cVeneerlaw08Awake cCallEncode cVeneerref08Encode cCallMay cVeneerref08May cCallScript cVeneerref08Script) σ H k = veneerlaw08CallEncodesC3S cal φ N cVeneerlaw08Awake cCallEncode cVeneerref08Encode cCallMay cVeneerref08May cCallScript cVeneerref08Script (lk σ 0) H := by
  have hk : k = (kR (resK [(.tmp 2)] []) k) := (kR_mk hR rfl)
  intro σ H
  rw [hk]
  show lxK cal φ N (veneerlaw08CallEncodesC2 cVeneerlaw08Awake cCallEncode cVeneerref08Encode cCallMay cVeneerref08May cCallScript cVeneerref08Script) σ H (seqK (lxK cal φ N (.seq (.reg [
    ⟨(some 63), (.mv (.t 0)), none⟩,
    ⟨(some 64), (.callF cCallScript [(.t 63)]), none⟩,
    ⟨(some 62), (.mv (.t 64)), none⟩,
    ⟨(some 65), (.ext (.t 62) 0), none⟩,
    ⟨(some 66), (.ext (.t 62) 1), none⟩,
    ⟨(some 8), (.mv (.t 65)), none⟩,
    ⟨(some 9), (.mv (.t 66)), none⟩])
  (.seq (.reg [
    ⟨(some 68), (.mv (.t 0)), none⟩,
    ⟨(some 69), (.callF cVeneerref08Script [(.t 68)]), none⟩,
    ⟨(some 67), (.mv (.t 69)), none⟩,
    ⟨(some 70), (.ext (.t 67) 0), none⟩,
    ⟨(some 71), (.ext (.t 67) 1), none⟩,
    ⟨(some 10), (.mv (.t 70)), none⟩,
    ⟨(some 11), (.mv (.t 71)), none⟩])
  (.seq (.reg [
    ⟨(some 72), (.mv (.t 8)), none⟩,
    ⟨(some 73), (.b2s (.t 72)), none⟩,
    ⟨(some 74), (.mv (.t 10)), none⟩,
    ⟨(some 75), (.b2s (.t 74)), none⟩,
    ⟨(some 76), (.bin .eql (.t 73) (.t 75)), none⟩,
    ⟨(some 77), (.mv (.t 76)), none⟩,
    ⟨(some 78), (.mv (.t 9)), (some (77, true))⟩,
    ⟨(some 79), (.mv (.t 11)), (some (77, true))⟩,
    ⟨(some 80), (.bin .eql (.t 78) (.t 79)), (some (77, true))⟩,
    ⟨(some 81), (.pick (.t 77) (.t 80) (.k (.bool false))), none⟩,
    ⟨(some 2), (.mv (.t 81)), none⟩])
  .ret)))) (kR (resK [(.tmp 2)] []) k)) = _
  exact veneerlaw08CallEncodesC2Eq cal φ N cVeneerlaw08Awake cCallEncode cVeneerref08Encode cCallMay cVeneerref08May cCallScript cVeneerref08Script (k := (seqK (lxK cal φ N (.seq (.reg [
    ⟨(some 63), (.mv (.t 0)), none⟩,
    ⟨(some 64), (.callF cCallScript [(.t 63)]), none⟩,
    ⟨(some 62), (.mv (.t 64)), none⟩,
    ⟨(some 65), (.ext (.t 62) 0), none⟩,
    ⟨(some 66), (.ext (.t 62) 1), none⟩,
    ⟨(some 8), (.mv (.t 65)), none⟩,
    ⟨(some 9), (.mv (.t 66)), none⟩])
  (.seq (.reg [
    ⟨(some 68), (.mv (.t 0)), none⟩,
    ⟨(some 69), (.callF cVeneerref08Script [(.t 68)]), none⟩,
    ⟨(some 67), (.mv (.t 69)), none⟩,
    ⟨(some 70), (.ext (.t 67) 0), none⟩,
    ⟨(some 71), (.ext (.t 67) 1), none⟩,
    ⟨(some 10), (.mv (.t 70)), none⟩,
    ⟨(some 11), (.mv (.t 71)), none⟩])
  (.seq (.reg [
    ⟨(some 72), (.mv (.t 8)), none⟩,
    ⟨(some 73), (.b2s (.t 72)), none⟩,
    ⟨(some 74), (.mv (.t 10)), none⟩,
    ⟨(some 75), (.b2s (.t 74)), none⟩,
    ⟨(some 76), (.bin .eql (.t 73) (.t 75)), none⟩,
    ⟨(some 77), (.mv (.t 76)), none⟩,
    ⟨(some 78), (.mv (.t 9)), (some (77, true))⟩,
    ⟨(some 79), (.mv (.t 11)), (some (77, true))⟩,
    ⟨(some 80), (.bin .eql (.t 78) (.t 79)), (some (77, true))⟩,
    ⟨(some 81), (.pick (.t 77) (.t 80) (.k (.bool false))), none⟩,
    ⟨(some 2), (.mv (.t 81)), none⟩])
  .ret)))) (kR (resK [(.tmp 2)] []) k))) (fun v0 H => ob (φ cCallScript [v0] H) fun r1 =>
ob (iextract r1.1 0) fun t2 =>
ob (iextract r1.1 1) fun t3 =>
ob (φ cVeneerref08Script [v0] r1.2) fun r4 =>
ob (iextract r4.1 0) fun t5 =>
ob (iextract r4.1 1) fun t6 =>
ob (lb2s r4.2 t2) fun t7 =>
ob (lb2s r4.2 t5) fun t8 =>
ob (lbin .eql t7 t8) fun t9 =>
ob (gq (isB t9 true) (some t3)) fun t10 =>
ob (gq (isB t9 true) (some t6)) fun t11 =>
ob (gq (isB t9 true) (lbin .eql t10 t11)) fun t12 =>
ob (lpick t9 t12 (.bool false)) fun t13 =>
some (t13, r4.2)) (fun _ _ => rfl) (fun _ _ => rfl) σ H
def veneerlaw08CallEncodesC4S (cal : FuncId → Bool) (φ : Oracle) (N : Nat) (cVeneerlaw08Awake cCallEncode cVeneerref08Encode cCallMay cVeneerref08May cCallScript cVeneerref08Script : FuncId) (v0 : IV) (H : Heap) : Option (IV × Heap) :=
    ob (llen H .slice v0) fun t1 =>
    ob (lbin .gtr t1 (.int .i64 300)) fun t2 =>
    cnd t2
    (some ((.bool true), H))
    (veneerlaw08CallEncodesC3S cal φ N cVeneerlaw08Awake cCallEncode cVeneerref08Encode cCallMay cVeneerref08May cCallScript cVeneerref08Script v0 H)
theorem veneerlaw08CallEncodesC4Eq (cal : FuncId → Bool) (φ : Oracle) (N : Nat) (cVeneerlaw08Awake cCallEncode cVeneerref08Encode cCallMay cVeneerref08May cCallScript cVeneerref08Script : FuncId) {k : KT (IV × Heap)} (hR : ∀ σ H, k .ret σ H = resK [(.tmp 2)] [] σ H) : ∀ (σ : Sg) (H : Heap), lxK cal φ N (veneerlaw08CallEncodesC4 cVeneerlaw08Awake cCallEncode cVeneerref08Encode cCallMay cVeneerref08May cCallScript cVeneerref08Script) σ H k = veneerlaw08CallEncodesC4S cal φ N cVeneerlaw08Awake cCallEncode cVeneerref08Encode cCallMay cVeneerref08May cCallScript cVeneerref08Script (lk σ 0) H := by
  have hk : k = (kR (resK [(.tmp 2)] []) k) := (kR_mk hR rfl)
  intro σ H
  rw [hk]
  show lxK cal φ N (.seq (.reg [
    ⟨(some 14), (.mv (.t 0)), none⟩,
    ⟨(some 15), (.len .slice (.t 14)), none⟩,
    ⟨(some 16), (.bin .gtr (.t 15) (.k (.int .i64 300))), none⟩])
  (.cond (.t 16) (.seq (.reg [
    ⟨(some 2), (.mv (.k (.bool true))), none⟩])
  .ret)
  .skip)) σ H (seqK (lxK cal φ N (veneerlaw08CallEncodesC3 cVeneerlaw08Awake cCallEncode cVeneerref08Encode cCallMay cVeneerref08May cCallScript cVeneerref08Script)) (kR (resK [(.tmp 2)] []) k)) = _
  rw [seqK_mk (g := fun σ H => veneerlaw08CallEncodesC3S cal φ N cVeneerlaw08Awake cCallEncode cVeneerref08Encode cCallMay cVeneerref08May cCallScript cVeneerref08Script (lk σ 0) H) (veneerlaw08CallEncodesC3Eq cal φ N cVeneerlaw08Awake cCallEncode cVeneerref08Encode cCallMay cVeneerref08May cCallScript cVeneerref08Script (k := (kR (resK [(.tmp 2)] []) k)) (fun _ _ => rfl))]
  kernel_rfl
def veneerlaw08CallEncodesC5S (cal : FuncId → Bool) (φ : Oracle) (N : Nat) (cVeneerlaw08Awake cCallEncode cVeneerref08Encode cCallMay cVeneerref08May cCallScript cVeneerref08Script : FuncId) (v0 : IV) (H : Heap) : Option (IV × Heap) :=
    ob (φ cVeneerlaw08Awake [] H) fun r1 =>
    ob (iun .not r1.1) fun t2 =>
    cnd t2
    (some ((.bool false), r1.2))
    (veneerlaw08CallEncodesC4S cal φ N cVeneerlaw08Awake cCallEncode cVeneerref08Encode cCallMay cVeneerref08May cCallScript cVeneerref08Script v0 r1.2)
theorem veneerlaw08CallEncodesC5Eq (cal : FuncId → Bool) (φ : Oracle) (N : Nat) (cVeneerlaw08Awake cCallEncode cVeneerref08Encode cCallMay cVeneerref08May cCallScript cVeneerref08Script : FuncId) {k : KT (IV × Heap)} (hR : ∀ σ H, k .ret σ H = resK [(.tmp 2)] [] σ H) : ∀ (σ : Sg) (H : Heap), lxK cal φ N (veneerlaw08CallEncodesC5 cVeneerlaw08Awake cCallEncode cVeneerref08Encode cCallMay cVeneerref08May cCallScript cVeneerref08Script) σ H k = veneerlaw08CallEncodesC5S cal φ N cVeneerlaw08Awake cCallEncode cVeneerref08Encode cCallMay cVeneerref08May cCallScript cVeneerref08Script (lk σ 0) H := by
  have hk : k = (kR (resK [(.tmp 2)] []) k) := (kR_mk hR rfl)
  intro σ H
  rw [hk]
  show lxK cal φ N (.seq (.reg [
    ⟨(some 12), (.callF cVeneerlaw08Awake []), none⟩,
    ⟨(some 13), (.un .not (.t 12)), none⟩])
  (.cond (.t 13) (.seq (.reg [
    ⟨(some 2), (.mv (.k (.bool false))), none⟩])
  .ret)
  .skip)) σ H (seqK (lxK cal φ N (veneerlaw08CallEncodesC4 cVeneerlaw08Awake cCallEncode cVeneerref08Encode cCallMay cVeneerref08May cCallScript cVeneerref08Script)) (kR (resK [(.tmp 2)] []) k)) = _
  rw [seqK_mk (g := fun σ H => veneerlaw08CallEncodesC4S cal φ N cVeneerlaw08Awake cCallEncode cVeneerref08Encode cCallMay cVeneerref08May cCallScript cVeneerref08Script (lk σ 0) H) (veneerlaw08CallEncodesC4Eq cal φ N cVeneerlaw08Awake cCallEncode cVeneerref08Encode cCallMay cVeneerref08May cCallScript cVeneerref08Script (k := (kR (resK [(.tmp 2)] []) k)) (fun _ _ => rfl))]
  kernel_rfl
def veneerlaw08CallEncodesC6S (cal : FuncId → Bool) (φ : Oracle) (N : Nat) (cVeneerlaw08Awake cCallEncode cVeneerref08Encode cCallMay cVeneerref08May cCallScript cVeneerref08Script : FuncId) (v0 : IV) (H : Heap) : Option (IV × Heap) :=
    veneerlaw08CallEncodesC5S cal φ N cVeneerlaw08Awake cCallEncode cVeneerref08Encode cCallMay cVeneerref08May cCallScript cVeneerref08Script v0 H
theorem veneerlaw08CallEncodesC6Eq (cal : FuncId → Bool) (φ : Oracle) (N : Nat) (cVeneerlaw08Awake cCallEncode cVeneerref08Encode cCallMay cVeneerref08May cCallScript cVeneerref08Script : FuncId) {k : KT (IV × Heap)} (hR : ∀ σ H, k .ret σ H = resK [(.tmp 2)] [] σ H) : ∀ (σ : Sg) (H : Heap), lxK cal φ N (veneerlaw08CallEncodesC6 cVeneerlaw08Awake cCallEncode cVeneerref08Encode cCallMay cVeneerref08May cCallScript cVeneerref08Script) σ H k = veneerlaw08CallEncodesC6S cal φ N cVeneerlaw08Awake cCallEncode cVeneerref08Encode cCallMay cVeneerref08May cCallScript cVeneerref08Script (lk σ 0) H := by
  have hk : k = (kR (resK [(.tmp 2)] []) k) := (kR_mk hR rfl)
  intro σ H
  rw [hk]
  show lxK cal φ N (.reg [
    ⟨(some 2), (.mv (.k (.bool false))), none⟩]) σ H (seqK (lxK cal φ N (veneerlaw08CallEncodesC5 cVeneerlaw08Awake cCallEncode cVeneerref08Encode cCallMay cVeneerref08May cCallScript cVeneerref08Script)) (kR (resK [(.tmp 2)] []) k)) = _
  rw [seqK_mk (g := fun σ H => veneerlaw08CallEncodesC5S cal φ N cVeneerlaw08Awake cCallEncode cVeneerref08Encode cCallMay cVeneerref08May cCallScript cVeneerref08Script (lk σ 0) H) (veneerlaw08CallEncodesC5Eq cal φ N cVeneerlaw08Awake cCallEncode cVeneerref08Encode cCallMay cVeneerref08May cCallScript cVeneerref08Script (k := (kR (resK [(.tmp 2)] []) k)) (fun _ _ => rfl))]
  kernel_rfl
def veneerlaw08CallEncodes (cVeneerlaw08Awake cCallEncode cVeneerref08Encode cCallMay cVeneerref08May cCallScript cVeneerref08Script : FuncId) : LFun := ⟨(veneerlaw08CallEncodesC6 cVeneerlaw08Awake cCallEncode cVeneerref08Encode cCallMay cVeneerref08May cCallScript cVeneerref08Script), [(.tmp 2)], 82⟩
def veneerlaw08CallEncodesS (cal : FuncId → Bool) (φ : Oracle) (N : Nat) (cVeneerlaw08Awake cCallEncode cVeneerref08Encode cCallMay cVeneerref08May cCallScript cVeneerref08Script : FuncId) (v0 : IV) (H : Heap) : Option (IV × Heap) :=
    veneerlaw08CallEncodesC6S cal φ N cVeneerlaw08Awake cCallEncode cVeneerref08Encode cCallMay cVeneerref08May cCallScript cVeneerref08Script v0 H
theorem veneerlaw08CallEncodesEq (cal : FuncId → Bool) (φ : Oracle) (N : Nat) (cVeneerlaw08Awake cCallEncode cVeneerref08Encode cCallMay cVeneerref08May cCallScript cVeneerref08Script : FuncId) (v0 : IV) (H : Heap) : lrunK cal φ N (veneerlaw08CallEncodes cVeneerlaw08Awake cCallEncode cVeneerref08Encode cCallMay cVeneerref08May cCallScript cVeneerref08Script) [v0] H = veneerlaw08CallEncodesS cal φ N cVeneerlaw08Awake cCallEncode cVeneerref08Encode cCallMay cVeneerref08May cCallScript cVeneerref08Script v0 H := by
  show lxK cal φ N (veneerlaw08CallEncodesC6 cVeneerlaw08Awake cCallEncode cVeneerref08Encode cCallMay cVeneerref08May cCallScript cVeneerref08Script) (initFrom 0 [v0]) H (endK [(.tmp 2)]) = _
  exact veneerlaw08CallEncodesC6Eq cal φ N cVeneerlaw08Awake cCallEncode cVeneerref08Encode cCallMay cVeneerref08May cCallScript cVeneerref08Script (k := (endK [(.tmp 2)])) (fun _ _ => rfl) (initFrom 0 [v0]) H

def veneerlaw08CallTotalC0 (cVeneerlaw08Awake cCallDecode cCallMay : FuncId) : LC := .loop (.seq (.reg [
    ⟨(some 15), (.bin .lss (.t 14) (.t 13)), none⟩])
  (.seq (.cond (.t 15) .skip
  (.exit 0))
  (.seq (.block 1 (.seq (.reg [
    ⟨(some 16), (.mv (.t 14)), none⟩,
    ⟨(some 4), (.mv (.t 16)), none⟩])
  (.seq (.reg [
    ⟨(some 17), (.mv (.t 3)), none⟩,
    ⟨(some 18), (.mv (.t 4)), none⟩,
    ⟨(some 19), (.ix 7 (.t 17) (.t 18)), none⟩,
    ⟨(some 20), (.ldn 7 (.t 19)), none⟩,
    ⟨(some 21), (.callF cCallMay [(.t 20)]), none⟩,
    ⟨(some 22), (.un .not (.t 21)), none⟩])
  (.cond (.t 22) (.seq (.reg [
    ⟨(some 2), (.mv (.k (.bool false))), none⟩])
  .ret)
  .skip))))
  (.reg [
    ⟨(some 23), (.bin .add (.t 14) (.k (.int .i64 1))), none⟩,
    ⟨(some 14), (.mv (.t 23)), none⟩]))))
def veneerlaw08CallTotalC1 (cVeneerlaw08Awake cCallDecode cCallMay : FuncId) : LC := .block 0 (veneerlaw08CallTotalC0 cVeneerlaw08Awake cCallDecode cCallMay)
def veneerlaw08CallTotalC2 (cVeneerlaw08Awake cCallDecode cCallMay : FuncId) : LC := .seq (.reg [
    ⟨(some 12), (.mv (.t 3)), none⟩,
    ⟨(some 13), (.len .slice (.t 12)), none⟩,
    ⟨(some 14), (.mv (.k (.int .i64 0))), none⟩]) (veneerlaw08CallTotalC1 cVeneerlaw08Awake cCallDecode cCallMay)
def veneerlaw08CallTotalC3 (cVeneerlaw08Awake cCallDecode cCallMay : FuncId) : LC := .seq (veneerlaw08CallTotalC2 cVeneerlaw08Awake cCallDecode cCallMay) (.seq (.reg [
    ⟨(some 24), (.mv (.t 3)), none⟩,
    ⟨(some 25), (.len .slice (.t 24)), none⟩,
    ⟨(some 26), (.bin .leq (.t 25) (.k (.int .i64 200))), none⟩,
    ⟨(some 27), (.mv (.t 26)), none⟩,
    ⟨(some 28), (.mv (.t 3)), (some (27, true))⟩,
    ⟨(some 29), (.len .slice (.t 28)), (some (27, true))⟩,
    ⟨(some 30), (.bin .eql (.t 29) (.k (.int .i64 0))), (some (27, true))⟩,
    ⟨(some 31), (.mv (.t 0)), (some (27, true))⟩,
    ⟨(some 32), (.len .slice (.t 31)), (some (27, true))⟩,
    ⟨(some 33), (.bin .eql (.t 32) (.k (.int .i64 0))), (some (27, true))⟩,
    ⟨(some 34), (.eqv false .bool (.t 30) (.t 33)), (some (27, true))⟩,
    ⟨(some 35), (.pick (.t 27) (.t 34) (.k (.bool false))), none⟩,
    ⟨(some 2), (.mv (.t 35)), none⟩])
  .ret)
def veneerlaw08CallTotalC4 (cVeneerlaw08Awake cCallDecode cCallMay : FuncId) : LC := .seq (.reg [
    ⟨(some 10), (.mv (.t 0)), none⟩,
    ⟨(some 11), (.callF cCallDecode [(.t 10)]), none⟩,
    ⟨(some 3), (.mv (.t 11)), none⟩]) (veneerlaw08CallTotalC3 cVeneerlaw08Awake cCallDecode cCallMay)
def veneerlaw08CallTotalC5 (cVeneerlaw08Awake cCallDecode cCallMay : FuncId) : LC := .seq (.seq (.reg [
    ⟨(some 7), (.mv (.t 0)), none⟩,
    ⟨(some 8), (.len .slice (.t 7)), none⟩,
    ⟨(some 9), (.bin .gtr (.t 8) (.k (.int .i64 65536))), none⟩])
  (.cond (.t 9) (.seq (.reg [
    ⟨(some 2), (.mv (.k (.bool true))), none⟩])
  .ret)
  .skip)) (veneerlaw08CallTotalC4 cVeneerlaw08Awake cCallDecode cCallMay)
def veneerlaw08CallTotalC6 (cVeneerlaw08Awake cCallDecode cCallMay : FuncId) : LC := .seq (.seq (.reg [
    ⟨(some 5), (.callF cVeneerlaw08Awake []), none⟩,
    ⟨(some 6), (.un .not (.t 5)), none⟩])
  (.cond (.t 6) (.seq (.reg [
    ⟨(some 2), (.mv (.k (.bool false))), none⟩])
  .ret)
  .skip)) (veneerlaw08CallTotalC5 cVeneerlaw08Awake cCallDecode cCallMay)
def veneerlaw08CallTotalC7 (cVeneerlaw08Awake cCallDecode cCallMay : FuncId) : LC := .seq (.reg [
    ⟨(some 2), (.mv (.k (.bool false))), none⟩]) (veneerlaw08CallTotalC6 cVeneerlaw08Awake cCallDecode cCallMay)
def veneerlaw08CallTotalC0S (cal : FuncId → Bool) (φ : Oracle) (N : Nat) (cVeneerlaw08Awake cCallDecode cCallMay : FuncId) (gE0 : IV → IV → Heap → Option (IV × Heap)) : Nat → IV → IV → IV → IV → Heap → Option (IV × Heap)
  | 0, _, _, _, _, _ => none
  | n + 1, v0, v3, v13, v14, H =>
    ob (lbin .lss v14 v13) fun t1 =>
    cnd t1
    (ob (lix 7 v3 v14) fun t2 =>
    ob (lloadn H 7 t2) fun t3 =>
    ob (φ cCallMay [t3] H) fun r4 =>
    ob (iun .not r4.1) fun t5 =>
    cnd t5
    (some ((.bool false), r4.2))
    (ob (lbin .add v14 (.int .i64 1)) fun t6 =>
    veneerlaw08CallTotalC0S cal φ N cVeneerlaw08Awake cCallDecode cCallMay gE0 n v0 v3 v13 t6 r4.2))
    (gE0 v0 v3 H)
theorem veneerlaw08CallTotalC0Eq (cal : FuncId → Bool) (φ : Oracle) (N : Nat) (cVeneerlaw08Awake cCallDecode cCallMay : FuncId) {k : KT (IV × Heap)} (gE0 : IV → IV → Heap → Option (IV × Heap)) (hgE0 : ∀ σ H, k (.exit 0) σ H = gE0 (lk σ 0) (lk σ 3) H) (hR : ∀ σ H, k .ret σ H = resK [(.tmp 2)] [] σ H) : ∀ (n : Nat) (σ : Sg) (H : Heap), itK (lxK cal φ N (.seq (.reg [
    ⟨(some 15), (.bin .lss (.t 14) (.t 13)), none⟩])
  (.seq (.cond (.t 15) .skip
  (.exit 0))
  (.seq (.block 1 (.seq (.reg [
    ⟨(some 16), (.mv (.t 14)), none⟩,
    ⟨(some 4), (.mv (.t 16)), none⟩])
  (.seq (.reg [
    ⟨(some 17), (.mv (.t 3)), none⟩,
    ⟨(some 18), (.mv (.t 4)), none⟩,
    ⟨(some 19), (.ix 7 (.t 17) (.t 18)), none⟩,
    ⟨(some 20), (.ldn 7 (.t 19)), none⟩,
    ⟨(some 21), (.callF cCallMay [(.t 20)]), none⟩,
    ⟨(some 22), (.un .not (.t 21)), none⟩])
  (.cond (.t 22) (.seq (.reg [
    ⟨(some 2), (.mv (.k (.bool false))), none⟩])
  .ret)
  .skip))))
  (.reg [
    ⟨(some 23), (.bin .add (.t 14) (.k (.int .i64 1))), none⟩,
    ⟨(some 14), (.mv (.t 23)), none⟩]))))) n σ H k = veneerlaw08CallTotalC0S cal φ N cVeneerlaw08Awake cCallDecode cCallMay gE0 n (lk σ 0) (lk σ 3) (lk σ 13) (lk σ 14) H := by
  have hk : k = (kE 0 (fun σ H => gE0 (lk σ 0) (lk σ 3) H) (kR (resK [(.tmp 2)] []) k)) := (kE_mk hgE0 (kR_mk hR rfl))
  intro n
  induction n with
  | zero => intro σ H; rfl
  | succ n ih =>
    intro σ H
    rw [itK_succ, seqK_mk (g := fun σ H => veneerlaw08CallTotalC0S cal φ N cVeneerlaw08Awake cCallDecode cCallMay gE0 n (lk σ 0) (lk σ 3) (lk σ 13) (lk σ 14) H) ih, hk]
    kernel_rfl
def veneerlaw08CallTotalC1S (cal : FuncId → Bool) (φ : Oracle) (N : Nat) (cVeneerlaw08Awake cCallDecode cCallMay : FuncId) (gN : IV → IV → Heap → Option (IV × Heap)) (v0 v3 v13 v14 : IV) (H : Heap) : Option (IV × Heap) :=
    veneerlaw08CallTotalC0S cal φ N cVeneerlaw08Awake cCallDecode cCallMay (fun v0 v3 H => gN v0 v3 H) N v0 v3 v13 v14 H
theorem veneerlaw08CallTotalC1Eq (cal : FuncId → Bool) (φ : Oracle) (N : Nat) (cVeneerlaw08Awake cCallDecode cCallMay : FuncId) {k : KT (IV × Heap)} (gN : IV → IV → Heap → Option (IV × Heap)) (hgN : ∀ σ H, k .normal σ H = gN (lk σ 0) (lk σ 3) H) (hR : ∀ σ H, k .ret σ H = resK [(.tmp 2)] [] σ H) : ∀ (σ : Sg) (H : Heap), lxK cal φ N (veneerlaw08CallTotalC1 cVeneerlaw08Awake cCallDecode cCallMay) σ H k = veneerlaw08CallTotalC1S cal φ N cVeneerlaw08Awake cCallDecode cCallMay gN (lk σ 0) (lk σ 3) (lk σ 13) (lk σ 14) H := by
  have hk : k = (kN (fun σ H => gN (lk σ 0) (lk σ 3) H) (kR (resK [(.tmp 2)] []) k)) := (kN_mk hgN (kR_mk hR rfl))
  intro σ H
  rw [hk]
  show lxK cal φ N (veneerlaw08CallTotalC0 cVeneerlaw08Awake cCallDecode cCallMay) σ H (blockK 0 (kN (fun σ H => gN (lk σ 0) (lk σ 3) H) (kR (resK [(.tmp 2)] []) k))) = _
  exact veneerlaw08CallTotalC0Eq cal φ N cVeneerlaw08Awake cCallDecode cCallMay (k := (blockK 0 (kN (fun σ H => gN (lk σ 0) (lk σ 3) H) (kR (resK [(.tmp 2)] []) k)))) (fun v0 v3 H => gN v0 v3 H) (fun _ _ => rfl) (fun _ _ => rfl) N σ H
def veneerlaw08CallTotalC2S (cal : FuncId → Bool) (φ : Oracle) (N : Nat) (cVeneerlaw08Awake cCallDecode cCallMay : FuncId) (gN : IV → IV → Heap → Option (IV × Heap)) (v0 v3 : IV) (H : Heap) : Option (IV × Heap) :=
    ob (llen H .slice v3) fun t1 =>
    veneerlaw08CallTotalC1S cal φ N cVeneerlaw08Awake cCallDecode cCallMay (fun v0 v3 H => gN v0 v3 H) v0 v3 t1 (.int .i64 0) H
theorem veneerlaw08CallTotalC2Eq (cal : FuncId → Bool) (φ : Oracle) (N : Nat) (cVeneerlaw08Awake cCallDecode cCallMay : FuncId) {k : KT (IV × Heap)} (gN : IV → IV → Heap → Option (IV × Heap)) (hgN : ∀ σ H, k .normal σ H = gN (lk σ 0) (lk σ 3) H) (hR : ∀ σ H, k .ret σ H = resK [(.tmp 2)] [] σ H) : ∀ (σ : Sg) (H : Heap), lxK cal φ N (veneerlaw08CallTotalC2 cVeneerlaw08Awake cCallDecode cCallMay) σ H k = veneerlaw08CallTotalC2S cal φ N cVeneerlaw08Awake cCallDecode cCallMay gN (lk σ 0) (lk σ 3) H := by
  have hk : k = (kN (fun σ H => gN (lk σ 0) (lk σ 3) H) (kR (resK [(.tmp 2)] []) k)) := (kN_mk hgN (kR_mk hR rfl))
  intro σ H
  rw [hk]
  show lxK cal φ N (.reg [
    ⟨(some 12), (.mv (.t 3)), none⟩,
    ⟨(some 13), (.len .slice (.t 12)), none⟩,
    ⟨(some 14), (.mv (.k (.int .i64 0))), none⟩]) σ H (seqK (lxK cal φ N (veneerlaw08CallTotalC1 cVeneerlaw08Awake cCallDecode cCallMay)) (kN (fun σ H => gN (lk σ 0) (lk σ 3) H) (kR (resK [(.tmp 2)] []) k))) = _
  rw [seqK_mk (g := fun σ H => veneerlaw08CallTotalC1S cal φ N cVeneerlaw08Awake cCallDecode cCallMay (fun v0 v3 H => gN v0 v3 H) (lk σ 0) (lk σ 3) (lk σ 13) (lk σ 14) H) (veneerlaw08CallTotalC1Eq cal φ N cVeneerlaw08Awake cCallDecode cCallMay (k := (kN (fun σ H => gN (lk σ 0) (lk σ 3) H) (kR (resK [(.tmp 2)] []) k))) (fun v0 v3 H => gN v0 v3 H) (fun _ _ => rfl) (fun _ _ => rfl))]
  kernel_rfl
def veneerlaw08CallTotalC3S (cal : FuncId → Bool) (φ : Oracle) (N : Nat) (cVeneerlaw08Awake cCallDecode cCallMay : FuncId) (v0 v3 : IV) (H : Heap) : Option (IV × Heap) :=
    veneerlaw08CallTotalC2S cal φ N cVeneerlaw08Awake cCallDecode cCallMay (fun v0 v3 H => ob (llen H .slice v3) fun t1 =>
    ob (lbin .leq t1 (.int .i64 200)) fun t2 =>
    ob (gq (isB t2 true) (some v3)) fun t3 =>
    ob (gq (isB t2 true) (llen H .slice t3)) fun t4 =>
    ob (gq (isB t2 true) (lbin .eql t4 (.int .i64 0))) fun t5 =>
    ob (gq (isB t2 true) (some v0)) fun t6 =>
    ob (gq (isB t2 true) (llen H .slice t6)) fun t7 =>
    ob (gq (isB t2 true) (lbin .eql t7 (.int .i64 0))) fun t8 =>
    ob (gq (isB t2 true) (leqv false (leq .bool t5 t8))) fun t9 =>
    ob (lpick t2 t9 (.bool false)) fun t10 =>
    some (t10, H)) v0 v3 H
theorem veneerlaw08CallTotalC3Eq (cal : FuncId → Bool) (φ : Oracle) (N : Nat) (cVeneerlaw08Awake cCallDecode cCallMay : FuncId) {k : KT (IV × Heap)} (hR : ∀ σ H, k .ret σ H = resK [(.tmp 2)] [] σ H) : ∀ (σ : Sg) (H : Heap), lxK cal φ N (veneerlaw08CallTotalC3 cVeneerlaw08Awake cCallDecode cCallMay) σ H k = veneerlaw08CallTotalC3S cal φ N cVeneerlaw08Awake cCallDecode cCallMay (lk σ 0) (lk σ 3) H := by
  have hk : k = (kR (resK [(.tmp 2)] []) k) := (kR_mk hR rfl)
  intro σ H
  rw [hk]
  show lxK cal φ N (veneerlaw08CallTotalC2 cVeneerlaw08Awake cCallDecode cCallMay) σ H (seqK (lxK cal φ N (.seq (.reg [
    ⟨(some 24), (.mv (.t 3)), none⟩,
    ⟨(some 25), (.len .slice (.t 24)), none⟩,
    ⟨(some 26), (.bin .leq (.t 25) (.k (.int .i64 200))), none⟩,
    ⟨(some 27), (.mv (.t 26)), none⟩,
    ⟨(some 28), (.mv (.t 3)), (some (27, true))⟩,
    ⟨(some 29), (.len .slice (.t 28)), (some (27, true))⟩,
    ⟨(some 30), (.bin .eql (.t 29) (.k (.int .i64 0))), (some (27, true))⟩,
    ⟨(some 31), (.mv (.t 0)), (some (27, true))⟩,
    ⟨(some 32), (.len .slice (.t 31)), (some (27, true))⟩,
    ⟨(some 33), (.bin .eql (.t 32) (.k (.int .i64 0))), (some (27, true))⟩,
    ⟨(some 34), (.eqv false .bool (.t 30) (.t 33)), (some (27, true))⟩,
    ⟨(some 35), (.pick (.t 27) (.t 34) (.k (.bool false))), none⟩,
    ⟨(some 2), (.mv (.t 35)), none⟩])
  .ret)) (kR (resK [(.tmp 2)] []) k)) = _
  exact veneerlaw08CallTotalC2Eq cal φ N cVeneerlaw08Awake cCallDecode cCallMay (k := (seqK (lxK cal φ N (.seq (.reg [
    ⟨(some 24), (.mv (.t 3)), none⟩,
    ⟨(some 25), (.len .slice (.t 24)), none⟩,
    ⟨(some 26), (.bin .leq (.t 25) (.k (.int .i64 200))), none⟩,
    ⟨(some 27), (.mv (.t 26)), none⟩,
    ⟨(some 28), (.mv (.t 3)), (some (27, true))⟩,
    ⟨(some 29), (.len .slice (.t 28)), (some (27, true))⟩,
    ⟨(some 30), (.bin .eql (.t 29) (.k (.int .i64 0))), (some (27, true))⟩,
    ⟨(some 31), (.mv (.t 0)), (some (27, true))⟩,
    ⟨(some 32), (.len .slice (.t 31)), (some (27, true))⟩,
    ⟨(some 33), (.bin .eql (.t 32) (.k (.int .i64 0))), (some (27, true))⟩,
    ⟨(some 34), (.eqv false .bool (.t 30) (.t 33)), (some (27, true))⟩,
    ⟨(some 35), (.pick (.t 27) (.t 34) (.k (.bool false))), none⟩,
    ⟨(some 2), (.mv (.t 35)), none⟩])
  .ret)) (kR (resK [(.tmp 2)] []) k))) (fun v0 v3 H => ob (llen H .slice v3) fun t1 =>
ob (lbin .leq t1 (.int .i64 200)) fun t2 =>
ob (gq (isB t2 true) (some v3)) fun t3 =>
ob (gq (isB t2 true) (llen H .slice t3)) fun t4 =>
ob (gq (isB t2 true) (lbin .eql t4 (.int .i64 0))) fun t5 =>
ob (gq (isB t2 true) (some v0)) fun t6 =>
ob (gq (isB t2 true) (llen H .slice t6)) fun t7 =>
ob (gq (isB t2 true) (lbin .eql t7 (.int .i64 0))) fun t8 =>
ob (gq (isB t2 true) (leqv false (leq .bool t5 t8))) fun t9 =>
ob (lpick t2 t9 (.bool false)) fun t10 =>
some (t10, H)) (fun _ _ => rfl) (fun _ _ => rfl) σ H
def veneerlaw08CallTotalC4S (cal : FuncId → Bool) (φ : Oracle) (N : Nat) (cVeneerlaw08Awake cCallDecode cCallMay : FuncId) (v0 : IV) (H : Heap) : Option (IV × Heap) :=
    ob (φ cCallDecode [v0] H) fun r1 =>
    veneerlaw08CallTotalC3S cal φ N cVeneerlaw08Awake cCallDecode cCallMay v0 r1.1 r1.2
theorem veneerlaw08CallTotalC4Eq (cal : FuncId → Bool) (φ : Oracle) (N : Nat) (cVeneerlaw08Awake cCallDecode cCallMay : FuncId) {k : KT (IV × Heap)} (hR : ∀ σ H, k .ret σ H = resK [(.tmp 2)] [] σ H) : ∀ (σ : Sg) (H : Heap), lxK cal φ N (veneerlaw08CallTotalC4 cVeneerlaw08Awake cCallDecode cCallMay) σ H k = veneerlaw08CallTotalC4S cal φ N cVeneerlaw08Awake cCallDecode cCallMay (lk σ 0) H := by
  have hk : k = (kR (resK [(.tmp 2)] []) k) := (kR_mk hR rfl)
  intro σ H
  rw [hk]
  show lxK cal φ N (.reg [
    ⟨(some 10), (.mv (.t 0)), none⟩,
    ⟨(some 11), (.callF cCallDecode [(.t 10)]), none⟩,
    ⟨(some 3), (.mv (.t 11)), none⟩]) σ H (seqK (lxK cal φ N (veneerlaw08CallTotalC3 cVeneerlaw08Awake cCallDecode cCallMay)) (kR (resK [(.tmp 2)] []) k)) = _
  rw [seqK_mk (g := fun σ H => veneerlaw08CallTotalC3S cal φ N cVeneerlaw08Awake cCallDecode cCallMay (lk σ 0) (lk σ 3) H) (veneerlaw08CallTotalC3Eq cal φ N cVeneerlaw08Awake cCallDecode cCallMay (k := (kR (resK [(.tmp 2)] []) k)) (fun _ _ => rfl))]
  kernel_rfl
def veneerlaw08CallTotalC5S (cal : FuncId → Bool) (φ : Oracle) (N : Nat) (cVeneerlaw08Awake cCallDecode cCallMay : FuncId) (v0 : IV) (H : Heap) : Option (IV × Heap) :=
    ob (llen H .slice v0) fun t1 =>
    ob (lbin .gtr t1 (.int .i64 65536)) fun t2 =>
    cnd t2
    (some ((.bool true), H))
    (veneerlaw08CallTotalC4S cal φ N cVeneerlaw08Awake cCallDecode cCallMay v0 H)
theorem veneerlaw08CallTotalC5Eq (cal : FuncId → Bool) (φ : Oracle) (N : Nat) (cVeneerlaw08Awake cCallDecode cCallMay : FuncId) {k : KT (IV × Heap)} (hR : ∀ σ H, k .ret σ H = resK [(.tmp 2)] [] σ H) : ∀ (σ : Sg) (H : Heap), lxK cal φ N (veneerlaw08CallTotalC5 cVeneerlaw08Awake cCallDecode cCallMay) σ H k = veneerlaw08CallTotalC5S cal φ N cVeneerlaw08Awake cCallDecode cCallMay (lk σ 0) H := by
  have hk : k = (kR (resK [(.tmp 2)] []) k) := (kR_mk hR rfl)
  intro σ H
  rw [hk]
  show lxK cal φ N (.seq (.reg [
    ⟨(some 7), (.mv (.t 0)), none⟩,
    ⟨(some 8), (.len .slice (.t 7)), none⟩,
    ⟨(some 9), (.bin .gtr (.t 8) (.k (.int .i64 65536))), none⟩])
  (.cond (.t 9) (.seq (.reg [
    ⟨(some 2), (.mv (.k (.bool true))), none⟩])
  .ret)
  .skip)) σ H (seqK (lxK cal φ N (veneerlaw08CallTotalC4 cVeneerlaw08Awake cCallDecode cCallMay)) (kR (resK [(.tmp 2)] []) k)) = _
  rw [seqK_mk (g := fun σ H => veneerlaw08CallTotalC4S cal φ N cVeneerlaw08Awake cCallDecode cCallMay (lk σ 0) H) (veneerlaw08CallTotalC4Eq cal φ N cVeneerlaw08Awake cCallDecode cCallMay (k := (kR (resK [(.tmp 2)] []) k)) (fun _ _ => rfl))]
  kernel_rfl
def veneerlaw08CallTotalC6S (cal : FuncId → Bool) (φ : Oracle) (N : Nat) (cVeneerlaw08Awake cCallDecode cCallMay : FuncId) (v0 : IV) (H : Heap) : Option (IV × Heap) :=
    ob (φ cVeneerlaw08Awake [] H) fun r1 =>
    ob (iun .not r1.1) fun t2 =>
    cnd t2
    (some ((.bool false), r1.2))
    (veneerlaw08CallTotalC5S cal φ N cVeneerlaw08Awake cCallDecode cCallMay v0 r1.2)
theorem veneerlaw08CallTotalC6Eq (cal : FuncId → Bool) (φ : Oracle) (N : Nat) (cVeneerlaw08Awake cCallDecode cCallMay : FuncId) {k : KT (IV × Heap)} (hR : ∀ σ H, k .ret σ H = resK [(.tmp 2)] [] σ H) : ∀ (σ : Sg) (H : Heap), lxK cal φ N (veneerlaw08CallTotalC6 cVeneerlaw08Awake cCallDecode cCallMay) σ H k = veneerlaw08CallTotalC6S cal φ N cVeneerlaw08Awake cCallDecode cCallMay (lk σ 0) H := by
  have hk : k = (kR (resK [(.tmp 2)] []) k) := (kR_mk hR rfl)
  intro σ H
  rw [hk]
  show lxK cal φ N (.seq (.reg [
    ⟨(some 5), (.callF cVeneerlaw08Awake []), none⟩,
    ⟨(some 6), (.un .not (.t 5)), none⟩])
  (.cond (.t 6) (.seq (.reg [
    ⟨(some 2), (.mv (.k (.bool false))), none⟩])
  .ret)
  .skip)) σ H (seqK (lxK cal φ N (veneerlaw08CallTotalC5 cVeneerlaw08Awake cCallDecode cCallMay)) (kR (resK [(.tmp 2)] []) k)) = _
  rw [seqK_mk (g := fun σ H => veneerlaw08CallTotalC5S cal φ N cVeneerlaw08Awake cCallDecode cCallMay (lk σ 0) H) (veneerlaw08CallTotalC5Eq cal φ N cVeneerlaw08Awake cCallDecode cCallMay (k := (kR (resK [(.tmp 2)] []) k)) (fun _ _ => rfl))]
  kernel_rfl
def veneerlaw08CallTotalC7S (cal : FuncId → Bool) (φ : Oracle) (N : Nat) (cVeneerlaw08Awake cCallDecode cCallMay : FuncId) (v0 : IV) (H : Heap) : Option (IV × Heap) :=
    veneerlaw08CallTotalC6S cal φ N cVeneerlaw08Awake cCallDecode cCallMay v0 H
theorem veneerlaw08CallTotalC7Eq (cal : FuncId → Bool) (φ : Oracle) (N : Nat) (cVeneerlaw08Awake cCallDecode cCallMay : FuncId) {k : KT (IV × Heap)} (hR : ∀ σ H, k .ret σ H = resK [(.tmp 2)] [] σ H) : ∀ (σ : Sg) (H : Heap), lxK cal φ N (veneerlaw08CallTotalC7 cVeneerlaw08Awake cCallDecode cCallMay) σ H k = veneerlaw08CallTotalC7S cal φ N cVeneerlaw08Awake cCallDecode cCallMay (lk σ 0) H := by
  have hk : k = (kR (resK [(.tmp 2)] []) k) := (kR_mk hR rfl)
  intro σ H
  rw [hk]
  show lxK cal φ N (.reg [
    ⟨(some 2), (.mv (.k (.bool false))), none⟩]) σ H (seqK (lxK cal φ N (veneerlaw08CallTotalC6 cVeneerlaw08Awake cCallDecode cCallMay)) (kR (resK [(.tmp 2)] []) k)) = _
  rw [seqK_mk (g := fun σ H => veneerlaw08CallTotalC6S cal φ N cVeneerlaw08Awake cCallDecode cCallMay (lk σ 0) H) (veneerlaw08CallTotalC6Eq cal φ N cVeneerlaw08Awake cCallDecode cCallMay (k := (kR (resK [(.tmp 2)] []) k)) (fun _ _ => rfl))]
  kernel_rfl
def veneerlaw08CallTotal (cVeneerlaw08Awake cCallDecode cCallMay : FuncId) : LFun := ⟨(veneerlaw08CallTotalC7 cVeneerlaw08Awake cCallDecode cCallMay), [(.tmp 2)], 36⟩
def veneerlaw08CallTotalS (cal : FuncId → Bool) (φ : Oracle) (N : Nat) (cVeneerlaw08Awake cCallDecode cCallMay : FuncId) (v0 : IV) (H : Heap) : Option (IV × Heap) :=
    veneerlaw08CallTotalC7S cal φ N cVeneerlaw08Awake cCallDecode cCallMay v0 H
theorem veneerlaw08CallTotalEq (cal : FuncId → Bool) (φ : Oracle) (N : Nat) (cVeneerlaw08Awake cCallDecode cCallMay : FuncId) (v0 : IV) (H : Heap) : lrunK cal φ N (veneerlaw08CallTotal cVeneerlaw08Awake cCallDecode cCallMay) [v0] H = veneerlaw08CallTotalS cal φ N cVeneerlaw08Awake cCallDecode cCallMay v0 H := by
  show lxK cal φ N (veneerlaw08CallTotalC7 cVeneerlaw08Awake cCallDecode cCallMay) (initFrom 0 [v0]) H (endK [(.tmp 2)]) = _
  exact veneerlaw08CallTotalC7Eq cal φ N cVeneerlaw08Awake cCallDecode cCallMay (k := (endK [(.tmp 2)])) (fun _ _ => rfl) (initFrom 0 [v0]) H

def veneerlaw08CallBack (cVeneerlaw08Awake cCallScript cCallDecode cVeneerlaw08Same : FuncId) : LFun := ⟨(.seq (.reg [
    ⟨(some 4), (.mv (.k (.bool false))), none⟩])
  (.seq (.seq (.reg [
    ⟨(some 10), (.callF cVeneerlaw08Awake []), none⟩,
    ⟨(some 11), (.un .not (.t 10)), none⟩])
  (.cond (.t 11) (.seq (.reg [
    ⟨(some 4), (.mv (.k (.bool false))), none⟩])
  .ret)
  .skip))
  (.seq (.seq (.reg [
    ⟨(some 12), (.mv (.t 0)), none⟩,
    ⟨(some 13), (.len .slice (.t 12)), none⟩,
    ⟨(some 14), (.bin .gtr (.t 13) (.k (.int .i64 300))), none⟩,
    ⟨(some 15), (.mv (.t 14)), none⟩,
    ⟨(some 16), (.mv (.t 1)), (some (15, false))⟩,
    ⟨(some 17), (.len .slice (.t 16)), (some (15, false))⟩,
    ⟨(some 18), (.bin .gtr (.t 17) (.k (.int .i64 65536))), (some (15, false))⟩,
    ⟨(some 19), (.pick (.t 15) (.k (.bool true)) (.t 18)), none⟩])
  (.cond (.t 19) (.seq (.reg [
    ⟨(some 4), (.mv (.k (.bool true))), none⟩])
  .ret)
  .skip))
  (.seq (.reg [
    ⟨(some 21), (.mv (.t 0)), none⟩,
    ⟨(some 22), (.callF cCallScript [(.t 21)]), none⟩,
    ⟨(some 20), (.mv (.t 22)), none⟩,
    ⟨(some 23), (.ext (.t 20) 0), none⟩,
    ⟨(some 24), (.ext (.t 20) 1), none⟩,
    ⟨(some 5), (.mv (.t 23)), none⟩,
    ⟨(some 6), (.mv (.t 24)), none⟩])
  (.seq (.seq (.reg [
    ⟨(some 25), (.mv (.t 6)), none⟩,
    ⟨(some 26), (.bin .eql (.t 25) (.k (.int .i64 0))), none⟩,
    ⟨(some 27), (.mv (.t 26)), none⟩,
    ⟨(some 28), (.mv (.t 5)), (some (27, true))⟩,
    ⟨(some 29), (.callF cCallDecode [(.t 28)]), (some (27, true))⟩,
    ⟨(some 30), (.mv (.t 0)), (some (27, true))⟩,
    ⟨(some 31), (.callF cVeneerlaw08Same [(.t 29), (.t 30)]), (some (27, true))⟩,
    ⟨(some 32), (.un .not (.t 31)), (some (27, true))⟩,
    ⟨(some 33), (.pick (.t 27) (.t 32) (.k (.bool false))), none⟩])
  (.cond (.t 33) (.seq (.reg [
    ⟨(some 4), (.mv (.k (.bool false))), none⟩])
  .ret)
  .skip))
  (.seq (.reg [
    ⟨(some 34), (.mv (.t 1)), none⟩,
    ⟨(some 35), (.callF cCallDecode [(.t 34)]), none⟩,
    ⟨(some 7), (.mv (.t 35)), none⟩])
  (.seq (.reg [
    ⟨(some 37), (.mv (.t 7)), none⟩,
    ⟨(some 38), (.callF cCallScript [(.t 37)]), none⟩,
    ⟨(some 36), (.mv (.t 38)), none⟩,
    ⟨(some 39), (.ext (.t 36) 0), none⟩,
    ⟨(some 40), (.ext (.t 36) 1), none⟩,
    ⟨(some 8), (.mv (.t 39)), none⟩,
    ⟨(some 9), (.mv (.t 40)), none⟩])
  (.seq (.reg [
    ⟨(some 41), (.mv (.t 9)), none⟩,
    ⟨(some 42), (.bin .eql (.t 41) (.k (.int .i64 0))), none⟩,
    ⟨(some 43), (.mv (.t 42)), none⟩,
    ⟨(some 44), (.mv (.t 8)), (some (43, true))⟩,
    ⟨(some 45), (.callF cCallDecode [(.t 44)]), (some (43, true))⟩,
    ⟨(some 46), (.mv (.t 7)), (some (43, true))⟩,
    ⟨(some 47), (.callF cVeneerlaw08Same [(.t 45), (.t 46)]), (some (43, true))⟩,
    ⟨(some 48), (.pick (.t 43) (.t 47) (.k (.bool false))), none⟩,
    ⟨(some 4), (.mv (.t 48)), none⟩])
  .ret)))))))), [(.tmp 4)], 49⟩
def veneerlaw08CallBackS (cal : FuncId → Bool) (φ : Oracle) (N : Nat) (cVeneerlaw08Awake cCallScript cCallDecode cVeneerlaw08Same : FuncId) (v0 v1 : IV) (H : Heap) : Option (IV × Heap) :=
    ob (φ cVeneerlaw08Awake [] H) fun r1 =>
    ob (iun .not r1.1) fun t2 =>
    cnd t2
    (some ((.bool false), r1.2))
    (ob (llen r1.2 .slice v0) fun t3 =>
    ob (lbin .gtr t3 (.int .i64 300)) fun t4 =>
    ob (gq (isB t4 false) (some v1)) fun t5 =>
    ob (gq (isB t4 false) (llen r1.2 .slice t5)) fun t6 =>
    ob (gq (isB t4 false) (lbin .gtr t6 (.int .i64 65536))) fun t7 =>
    ob (lpick t4 (.bool true) t7) fun t8 =>
    cnd t8
    (some ((.bool true), r1.2))
    (ob (φ cCallScript [v0] r1.2) fun r9 =>
    ob (iextract r9.1 0) fun t10 =>
    ob (iextract r9.1 1) fun t11 =>
    ob (lbin .eql t11 (.int .i64 0)) fun t12 =>
    ob (gq (isB t12 true) (some t10)) fun t13 =>
    ob (ge (isB t12 true) r9.2 (φ cCallDecode [t13] r9.2)) fun r14 =>
    ob (gq (isB t12 true) (some v0)) fun t15 =>
    ob (ge (isB t12 true) r14.2 (φ cVeneerlaw08Same [r14.1, t15] r14.2)) fun r16 =>
    ob (gq (isB t12 true) (iun .not r16.1)) fun t17 =>
    ob (lpick t12 t17 (.bool false)) fun t18 =>
    cnd t18
    (some ((.bool false), r16.2))
    (ob (φ cCallDecode [v1] r16.2) fun r19 =>
    ob (φ cCallScript [r19.1] r19.2) fun r20 =>
    ob (iextract r20.1 0) fun t21 =>
    ob (iextract r20.1 1) fun t22 =>
    ob (lbin .eql t22 (.int .i64 0)) fun t23 =>
    ob (gq (isB t23 true) (some t21)) fun t24 =>
    ob (ge (isB t23 true) r20.2 (φ cCallDecode [t24] r20.2)) fun r25 =>
    ob (gq (isB t23 true) (some r19.1)) fun t26 =>
    ob (ge (isB t23 true) r25.2 (φ cVeneerlaw08Same [r25.1, t26] r25.2)) fun r27 =>
    ob (lpick t23 r27.1 (.bool false)) fun t28 =>
    some (t28, r27.2))))
theorem veneerlaw08CallBackEq (cal : FuncId → Bool) (φ : Oracle) (N : Nat) (cVeneerlaw08Awake cCallScript cCallDecode cVeneerlaw08Same : FuncId) (v0 v1 : IV) (H : Heap) : lrunK cal φ N (veneerlaw08CallBack cVeneerlaw08Awake cCallScript cCallDecode cVeneerlaw08Same) [v0, v1] H = veneerlaw08CallBackS cal φ N cVeneerlaw08Awake cCallScript cCallDecode cVeneerlaw08Same v0 v1 H := by
  kernel_rfl

def veneerlaw08CallJoins (cVeneerlaw08Awake cCallScript cCallDecode cVeneerlaw08Same : FuncId) : LFun := ⟨(.seq (.reg [
    ⟨(some 4), (.mv (.k (.bool false))), none⟩])
  (.seq (.seq (.reg [
    ⟨(some 9), (.callF cVeneerlaw08Awake []), none⟩,
    ⟨(some 10), (.un .not (.t 9)), none⟩])
  (.cond (.t 10) (.seq (.reg [
    ⟨(some 4), (.mv (.k (.bool false))), none⟩])
  .ret)
  .skip))
  (.seq (.seq (.reg [
    ⟨(some 11), (.mv (.t 0)), none⟩,
    ⟨(some 12), (.len .slice (.t 11)), none⟩,
    ⟨(some 13), (.bin .gtr (.t 12) (.k (.int .i64 100))), none⟩,
    ⟨(some 14), (.mv (.t 13)), none⟩,
    ⟨(some 15), (.mv (.t 1)), (some (14, false))⟩,
    ⟨(some 16), (.len .slice (.t 15)), (some (14, false))⟩,
    ⟨(some 17), (.bin .gtr (.t 16) (.k (.int .i64 100))), (some (14, false))⟩,
    ⟨(some 18), (.pick (.t 14) (.k (.bool true)) (.t 17)), none⟩])
  (.cond (.t 18) (.seq (.reg [
    ⟨(some 4), (.mv (.k (.bool true))), none⟩])
  .ret)
  .skip))
  (.seq (.reg [
    ⟨(some 20), (.mv (.t 0)), none⟩,
    ⟨(some 21), (.callF cCallScript [(.t 20)]), none⟩,
    ⟨(some 19), (.mv (.t 21)), none⟩,
    ⟨(some 22), (.ext (.t 19) 0), none⟩,
    ⟨(some 23), (.ext (.t 19) 1), none⟩,
    ⟨(some 5), (.mv (.t 22)), none⟩,
    ⟨(some 6), (.mv (.t 23)), none⟩])
  (.seq (.reg [
    ⟨(some 25), (.mv (.t 1)), none⟩,
    ⟨(some 26), (.callF cCallScript [(.t 25)]), none⟩,
    ⟨(some 24), (.mv (.t 26)), none⟩,
    ⟨(some 27), (.ext (.t 24) 0), none⟩,
    ⟨(some 28), (.ext (.t 24) 1), none⟩,
    ⟨(some 7), (.mv (.t 27)), none⟩,
    ⟨(some 8), (.mv (.t 28)), none⟩])
  (.seq (.seq (.reg [
    ⟨(some 29), (.mv (.t 6)), none⟩,
    ⟨(some 30), (.bin .neq (.t 29) (.k (.int .i64 0))), none⟩,
    ⟨(some 31), (.mv (.t 30)), none⟩,
    ⟨(some 32), (.mv (.t 8)), (some (31, false))⟩,
    ⟨(some 33), (.bin .neq (.t 32) (.k (.int .i64 0))), (some (31, false))⟩,
    ⟨(some 34), (.pick (.t 31) (.k (.bool true)) (.t 33)), none⟩])
  (.cond (.t 34) (.seq (.reg [
    ⟨(some 4), (.mv (.k (.bool true))), none⟩])
  .ret)
  .skip))
  (.seq (.reg [
    ⟨(some 35), (.bldS 1 0 [(.int .u8 0)] []), none⟩,
    ⟨(some 36), (.mv (.t 5)), none⟩,
    ⟨(some 37), (.app 1 1 (.t 35) (.t 36)), none⟩,
    ⟨(some 38), (.mv (.t 7)), none⟩,
    ⟨(some 39), (.app 1 1 (.t 37) (.t 38)), none⟩,
    ⟨(some 40), (.callF cCallDecode [(.t 39)]), none⟩,
    ⟨(some 41), (.bldS 7 0 [(.int .i64 0), (.int .i64 0), (.int .i64 0), (.int .i64 0), (.int .i64 0), (.str []), (.str [])] []), none⟩,
    ⟨(some 42), (.mv (.t 0)), none⟩,
    ⟨(some 43), (.app 7 72 (.t 41) (.t 42)), none⟩,
    ⟨(some 44), (.mv (.t 1)), none⟩,
    ⟨(some 45), (.app 7 72 (.t 43) (.t 44)), none⟩,
    ⟨(some 46), (.callF cVeneerlaw08Same [(.t 40), (.t 45)]), none⟩,
    ⟨(some 4), (.mv (.t 46)), none⟩])
  .ret))))))), [(.tmp 4)], 47⟩
def veneerlaw08CallJoinsS (cal : FuncId → Bool) (φ : Oracle) (N : Nat) (cVeneerlaw08Awake cCallScript cCallDecode cVeneerlaw08Same : FuncId) (v0 v1 : IV) (H : Heap) : Option (IV × Heap) :=
    ob (φ cVeneerlaw08Awake [] H) fun r1 =>
    ob (iun .not r1.1) fun t2 =>
    cnd t2
    (some ((.bool false), r1.2))
    (ob (llen r1.2 .slice v0) fun t3 =>
    ob (lbin .gtr t3 (.int .i64 100)) fun t4 =>
    ob (gq (isB t4 false) (some v1)) fun t5 =>
    ob (gq (isB t4 false) (llen r1.2 .slice t5)) fun t6 =>
    ob (gq (isB t4 false) (lbin .gtr t6 (.int .i64 100))) fun t7 =>
    ob (lpick t4 (.bool true) t7) fun t8 =>
    cnd t8
    (some ((.bool true), r1.2))
    (ob (φ cCallScript [v0] r1.2) fun r9 =>
    ob (iextract r9.1 0) fun t10 =>
    ob (iextract r9.1 1) fun t11 =>
    ob (φ cCallScript [v1] r9.2) fun r12 =>
    ob (iextract r12.1 0) fun t13 =>
    ob (iextract r12.1 1) fun t14 =>
    ob (lbin .neq t11 (.int .i64 0)) fun t15 =>
    ob (gq (isB t15 false) (some t14)) fun t16 =>
    ob (gq (isB t15 false) (lbin .neq t16 (.int .i64 0))) fun t17 =>
    ob (lpick t15 (.bool true) t17) fun t18 =>
    cnd t18
    (some ((.bool true), r12.2))
    (ob (lbldS r12.2 1 0 [(.int .u8 0)] []) fun r19 =>
    ob (lapp r19.2 1 1 r19.1 t10) fun r20 =>
    ob (lapp r20.2 1 1 r20.1 t13) fun r21 =>
    ob (φ cCallDecode [r21.1] r21.2) fun r22 =>
    ob (lbldS r22.2 7 0 [(.int .i64 0), (.int .i64 0), (.int .i64 0), (.int .i64 0), (.int .i64 0), (.str []), (.str [])] []) fun r23 =>
    ob (lapp r23.2 7 72 r23.1 v0) fun r24 =>
    ob (lapp r24.2 7 72 r24.1 v1) fun r25 =>
    ob (φ cVeneerlaw08Same [r22.1, r25.1] r25.2) fun r26 =>
    some (r26.1, r26.2))))
theorem veneerlaw08CallJoinsEq (cal : FuncId → Bool) (φ : Oracle) (N : Nat) (cVeneerlaw08Awake cCallScript cCallDecode cVeneerlaw08Same : FuncId) (v0 v1 : IV) (H : Heap) : lrunK cal φ N (veneerlaw08CallJoins cVeneerlaw08Awake cCallScript cCallDecode cVeneerlaw08Same) [v0, v1] H = veneerlaw08CallJoinsS cal φ N cVeneerlaw08Awake cCallScript cCallDecode cVeneerlaw08Same v0 v1 H := by
  kernel_rfl

def veneerlaw08CallAhead (cVeneerlaw08Awake cCallScript cCallDecode cVeneerlaw08Same : FuncId) : LFun := ⟨(.seq (.reg [
    ⟨(some 4), (.mv (.k (.bool false))), none⟩])
  (.seq (.seq (.reg [
    ⟨(some 9), (.callF cVeneerlaw08Awake []), none⟩,
    ⟨(some 10), (.un .not (.t 9)), none⟩])
  (.cond (.t 10) (.seq (.reg [
    ⟨(some 4), (.mv (.k (.bool false))), none⟩])
  .ret)
  .skip))
  (.seq (.seq (.reg [
    ⟨(some 11), (.mv (.t 0)), none⟩,
    ⟨(some 12), (.len .slice (.t 11)), none⟩,
    ⟨(some 13), (.bin .gtr (.t 12) (.k (.int .i64 150))), none⟩,
    ⟨(some 14), (.mv (.t 13)), none⟩,
    ⟨(some 15), (.mv (.t 1)), (some (14, false))⟩,
    ⟨(some 16), (.len .slice (.t 15)), (some (14, false))⟩,
    ⟨(some 17), (.bin .gtr (.t 16) (.k (.int .i64 16384))), (some (14, false))⟩,
    ⟨(some 18), (.pick (.t 14) (.k (.bool true)) (.t 17)), none⟩])
  (.cond (.t 18) (.seq (.reg [
    ⟨(some 4), (.mv (.k (.bool true))), none⟩])
  .ret)
  .skip))
  (.seq (.reg [
    ⟨(some 20), (.mv (.t 0)), none⟩,
    ⟨(some 21), (.callF cCallScript [(.t 20)]), none⟩,
    ⟨(some 19), (.mv (.t 21)), none⟩,
    ⟨(some 22), (.ext (.t 19) 0), none⟩,
    ⟨(some 23), (.ext (.t 19) 1), none⟩,
    ⟨(some 5), (.mv (.t 22)), none⟩,
    ⟨(some 6), (.mv (.t 23)), none⟩])
  (.seq (.seq (.reg [
    ⟨(some 24), (.mv (.t 6)), none⟩,
    ⟨(some 25), (.bin .neq (.t 24) (.k (.int .i64 0))), none⟩])
  (.cond (.t 25) (.seq (.reg [
    ⟨(some 4), (.mv (.k (.bool true))), none⟩])
  .ret)
  .skip))
  (.seq (.reg [
    ⟨(some 26), (.bldS 1 0 [(.int .u8 0)] []), none⟩,
    ⟨(some 27), (.mv (.t 5)), none⟩,
    ⟨(some 28), (.app 1 1 (.t 26) (.t 27)), none⟩,
    ⟨(some 29), (.mv (.t 1)), none⟩,
    ⟨(some 30), (.app 1 1 (.t 28) (.t 29)), none⟩,
    ⟨(some 31), (.callF cCallDecode [(.t 30)]), none⟩,
    ⟨(some 7), (.mv (.t 31)), none⟩])
  (.seq (.reg [
    ⟨(some 32), (.mv (.t 1)), none⟩,
    ⟨(some 33), (.callF cCallDecode [(.t 32)]), none⟩,
    ⟨(some 8), (.mv (.t 33)), none⟩])
  (.seq (.seq (.reg [
    ⟨(some 34), (.mv (.t 7)), none⟩,
    ⟨(some 35), (.len .slice (.t 34)), none⟩,
    ⟨(some 36), (.mv (.t 0)), none⟩,
    ⟨(some 37), (.len .slice (.t 36)), none⟩,
    ⟨(some 38), (.bin .lss (.t 35) (.t 37)), none⟩,
    ⟨(some 39), (.mv (.t 38)), none⟩,
    ⟨(some 40), (.mv (.t 7)), (some (39, false))⟩,
    ⟨(some 41), (.mv (.t 0)), (some (39, false))⟩,
    ⟨(some 42), (.len .slice (.t 41)), (some (39, false))⟩,
    ⟨(some 43), (.slc (.slice 7) (.t 40) none (some (.t 42)) none), (some (39, false))⟩,
    ⟨(some 44), (.mv (.t 0)), (some (39, false))⟩,
    ⟨(some 45), (.callF cVeneerlaw08Same [(.t 43), (.t 44)]), (some (39, false))⟩,
    ⟨(some 46), (.un .not (.t 45)), (some (39, false))⟩,
    ⟨(some 47), (.pick (.t 39) (.k (.bool true)) (.t 46)), none⟩])
  (.cond (.t 47) (.seq (.reg [
    ⟨(some 4), (.mv (.k (.bool false))), none⟩])
  .ret)
  .skip))
  (.seq (.drw [
    ⟨(some 48), (.mv (.t 7)), none⟩,
    ⟨(some 49), (.mv (.t 0)), none⟩,
    ⟨(some 50), (.len .slice (.t 49)), none⟩,
    ⟨(some 51), (.slc (.slice 7) (.t 48) (some (.t 50)) none none), none⟩,
    ⟨(some 52), (.mv (.t 8)), none⟩,
    ⟨(some 53), (.mv (.t 8)), none⟩,
    ⟨(some 54), (.len .slice (.t 53)), none⟩,
    ⟨(some 55), (.mv (.t 0)), none⟩,
    ⟨(some 56), (.len .slice (.t 55)), none⟩,
    ⟨(some 57), (.bin .sub (.k (.int .i64 200)) (.t 56)), none⟩,
    ⟨(some 58), (.fold false (.t 54) [(.t 57)]), none⟩,
    ⟨(some 59), (.slc (.slice 7) (.t 52) none (some (.t 58)) none), none⟩,
    ⟨(some 60), (.callF cVeneerlaw08Same [(.t 51), (.t 59)]), none⟩,
    ⟨(some 4), (.mv (.t 60)), none⟩] [])
  .ret))))))))), [(.tmp 4)], 61⟩
def veneerlaw08CallAheadS (cal : FuncId → Bool) (φ : Oracle) (N : Nat) (cVeneerlaw08Awake cCallScript cCallDecode cVeneerlaw08Same : FuncId) (v0 v1 : IV) (H : Heap) : Option (IV × Heap) :=
    ob (φ cVeneerlaw08Awake [] H) fun r1 =>
    ob (iun .not r1.1) fun t2 =>
    cnd t2
    (some ((.bool false), r1.2))
    (ob (llen r1.2 .slice v0) fun t3 =>
    ob (lbin .gtr t3 (.int .i64 150)) fun t4 =>
    ob (gq (isB t4 false) (some v1)) fun t5 =>
    ob (gq (isB t4 false) (llen r1.2 .slice t5)) fun t6 =>
    ob (gq (isB t4 false) (lbin .gtr t6 (.int .i64 16384))) fun t7 =>
    ob (lpick t4 (.bool true) t7) fun t8 =>
    cnd t8
    (some ((.bool true), r1.2))
    (ob (φ cCallScript [v0] r1.2) fun r9 =>
    ob (iextract r9.1 0) fun t10 =>
    ob (iextract r9.1 1) fun t11 =>
    ob (lbin .neq t11 (.int .i64 0)) fun t12 =>
    cnd t12
    (some ((.bool true), r9.2))
    (ob (lbldS r9.2 1 0 [(.int .u8 0)] []) fun r13 =>
    ob (lapp r13.2 1 1 r13.1 t10) fun r14 =>
    ob (lapp r14.2 1 1 r14.1 v1) fun r15 =>
    ob (φ cCallDecode [r15.1] r15.2) fun r16 =>
    ob (φ cCallDecode [v1] r16.2) fun r17 =>
    ob (llen r17.2 .slice r16.1) fun t18 =>
    ob (llen r17.2 .slice v0) fun t19 =>
    ob (lbin .lss t18 t19) fun t20 =>
    ob (gq (isB t20 false) (some r16.1)) fun t21 =>
    ob (gq (isB t20 false) (some v0)) fun t22 =>
    ob (gq (isB t20 false) (llen r17.2 .slice t22)) fun t23 =>
    ob (gq (isB t20 false) (lslice r17.2 (.slice 7) t21 none (some t23) none)) fun t24 =>
    ob (gq (isB t20 false) (some v0)) fun t25 =>
    ob (ge (isB t20 false) r17.2 (φ cVeneerlaw08Same [t24, t25] r17.2)) fun r26 =>
    ob (gq (isB t20 false) (iun .not r26.1)) fun t27 =>
    ob (lpick t20 (.bool true) t27) fun t28 =>
    cnd t28
    (some ((.bool false), r26.2))
    (ob (llen r26.2 .slice v0) fun t29 =>
    ob (lslice r26.2 (.slice 7) r16.1 (some t29) none none) fun t30 =>
    ob (llen r26.2 .slice r17.1) fun t31 =>
    ob (llen r26.2 .slice v0) fun t32 =>
    ob (lbin .sub (.int .i64 200) t32) fun t33 =>
    ob (ifold imin2 t31 [t33]) fun t34 =>
    ob (lslice r26.2 (.slice 7) r17.1 none (some t34) none) fun t35 =>
    ob (φ cVeneerlaw08Same [t30, t35] r26.2) fun r36 =>
    some (r36.1, r36.2)))))
theorem veneerlaw08CallAheadEq (cal : FuncId → Bool) (φ : Oracle) (N : Nat) (cVeneerlaw08Awake cCallScript cCallDecode cVeneerlaw08Same : FuncId) (v0 v1 : IV) (H : Heap) : lrunK cal φ N (veneerlaw08CallAhead cVeneerlaw08Awake cCallScript cCallDecode cVeneerlaw08Same) [v0, v1] H = veneerlaw08CallAheadS cal φ N cVeneerlaw08Awake cCallScript cCallDecode cVeneerlaw08Same v0 v1 H := by
  kernel_rfl

def veneerlaw08CallApart (cVeneerlaw08Awake cCallEncode : FuncId) : LFun := ⟨(.seq (.reg [
    ⟨(some 2), (.box (.t 0)), none⟩,
    ⟨(some 3), (.box (.t 1)), none⟩,
    ⟨(some 4), (.mv (.k (.bool false))), none⟩])
  (.seq (.seq (.reg [
    ⟨(some 10), (.callF cVeneerlaw08Awake []), none⟩,
    ⟨(some 11), (.un .not (.t 10)), none⟩])
  (.cond (.t 11) (.seq (.reg [
    ⟨(some 4), (.mv (.k (.bool false))), none⟩])
  .ret)
  .skip))
  (.seq (.seq (.reg [
    ⟨(some 12), (.off (.t 2) 5), none⟩,
    ⟨(some 13), (.ld1 (.t 12)), none⟩,
    ⟨(some 14), (.len .str (.t 13)), none⟩,
    ⟨(some 15), (.off (.t 2) 6), none⟩,
    ⟨(some 16), (.ld1 (.t 15)), none⟩,
    ⟨(some 17), (.len .str (.t 16)), none⟩,
    ⟨(some 18), (.bin .add (.t 14) (.t 17)), none⟩,
    ⟨(some 19), (.bin .gtr (.t 18) (.k (.int .i64 65536))), none⟩,
    ⟨(some 20), (.mv (.t 19)), none⟩,
    ⟨(some 21), (.off (.t 3) 5), (some (20, false))⟩,
    ⟨(some 22), (.ld1 (.t 21)), (some (20, false))⟩,
    ⟨(some 23), (.len .str (.t 22)), (some (20, false))⟩,
    ⟨(some 24), (.off (.t 3) 6), (some (20, false))⟩,
    ⟨(some 25), (.ld1 (.t 24)), (some (20, false))⟩,
    ⟨(some 26), (.len .str (.t 25)), (some (20, false))⟩,
    ⟨(some 27), (.bin .add (.t 23) (.t 26)), (some (20, false))⟩,
    ⟨(some 28), (.bin .gtr (.t 27) (.k (.int .i64 65536))), (some (20, false))⟩,
    ⟨(some 29), (.pick (.t 20) (.k (.bool true)) (.t 28)), none⟩])
  (.cond (.t 29) (.seq (.reg [
    ⟨(some 4), (.mv (.k (.bool true))), none⟩])
  .ret)
  .skip))
  (.seq (.reg [
    ⟨(some 31), (.ldn 7 (.t 2)), none⟩,
    ⟨(some 32), (.callF cCallEncode [(.t 31)]), none⟩,
    ⟨(some 30), (.mv (.t 32)), none⟩,
    ⟨(some 33), (.ext (.t 30) 0), none⟩,
    ⟨(some 34), (.ext (.t 30) 1), none⟩,
    ⟨(some 5), (.mv (.t 33)), none⟩,
    ⟨(some 6), (.mv (.t 34)), none⟩])
  (.seq (.reg [
    ⟨(some 36), (.ldn 7 (.t 3)), none⟩,
    ⟨(some 37), (.callF cCallEncode [(.t 36)]), none⟩,
    ⟨(some 35), (.mv (.t 37)), none⟩,
    ⟨(some 38), (.ext (.t 35) 0), none⟩,
    ⟨(some 39), (.ext (.t 35) 1), none⟩,
    ⟨(some 7), (.mv (.t 38)), none⟩,
    ⟨(some 8), (.mv (.t 39)), none⟩])
  (.seq (.seq (.reg [
    ⟨(some 40), (.mv (.t 6)), none⟩,
    ⟨(some 41), (.bin .neq (.t 40) (.k (.int .i64 0))), none⟩,
    ⟨(some 42), (.mv (.t 41)), none⟩,
    ⟨(some 43), (.mv (.t 8)), (some (42, false))⟩,
    ⟨(some 44), (.bin .neq (.t 43) (.k (.int .i64 0))), (some (42, false))⟩,
    ⟨(some 45), (.pick (.t 42) (.k (.bool true)) (.t 44)), none⟩])
  (.cond (.t 45) (.seq (.reg [
    ⟨(some 4), (.mv (.k (.bool true))), none⟩])
  .ret)
  .skip))
  (.seq (.reg [
    ⟨(some 46), (.mv (.t 5)), none⟩,
    ⟨(some 47), (.len .slice (.t 46)), none⟩,
    ⟨(some 48), (.mv (.t 7)), none⟩,
    ⟨(some 49), (.len .slice (.t 48)), none⟩,
    ⟨(some 50), (.fold false (.t 47) [(.t 49)]), none⟩,
    ⟨(some 9), (.mv (.t 50)), none⟩])
  (.seq (.drw [
    ⟨(some 51), (.ldn 7 (.t 2)), none⟩,
    ⟨(some 52), (.ldn 7 (.t 3)), none⟩,
    ⟨(some 53), (.eqv false (.struct [(0, .int), (1, .int), (2, .int), (3, .int), (4, .int), (5, .str), (6, .str)]) (.t 51) (.t 52)), none⟩,
    ⟨(some 54), (.mv (.t 5)), none⟩,
    ⟨(some 55), (.mv (.t 9)), none⟩,
    ⟨(some 56), (.slc (.slice 1) (.t 54) none (some (.t 55)) none), none⟩,
    ⟨(some 57), (.b2s (.t 56)), none⟩,
    ⟨(some 58), (.mv (.t 7)), none⟩,
    ⟨(some 59), (.mv (.t 9)), none⟩,
    ⟨(some 60), (.slc (.slice 1) (.t 58) none (some (.t 59)) none), none⟩,
    ⟨(some 61), (.b2s (.t 60)), none⟩,
    ⟨(some 62), (.bin .eql (.t 57) (.t 61)), none⟩,
    ⟨(some 63), (.eqv false .bool (.t 53) (.t 62)), none⟩,
    ⟨(some 4), (.mv (.t 63)), none⟩] [])
  .ret)))))))), [(.tmp 4)], 64⟩
def veneerlaw08CallApartS (cal : FuncId → Bool) (φ : Oracle) (N : Nat) (cVeneerlaw08Awake cCallEncode : FuncId) (v0 v1 : IV) (H : Heap) : Option (IV × Heap) :=
    ob (lbox H v0) fun r1 =>
    ob (lbox r1.2 v1) fun r2 =>
    ob (φ cVeneerlaw08Awake [] r2.2) fun r3 =>
    ob (iun .not r3.1) fun t4 =>
    cnd t4
    (some ((.bool false), r3.2))
    (ob (loff r1.1 5) fun t5 =>
    ob (lload1 r3.2 t5) fun t6 =>
    ob (llen r3.2 .str t6) fun t7 =>
    ob (loff r1.1 6) fun t8 =>
    ob (lload1 r3.2 t8) fun t9 =>
    ob (llen r3.2 .str t9) fun t10 =>
    ob (lbin .add t7 t10) fun t11 =>
    ob (lbin .gtr t11 (.int .i64 65536)) fun t12 =>
    ob (gq (isB t12 false) (loff r2.1 5)) fun t13 =>
    ob (gq (isB t12 false) (lload1 r3.2 t13)) fun t14 =>
    ob (gq (isB t12 false) (llen r3.2 .str t14)) fun t15 =>
    ob (gq (isB t12 false) (loff r2.1 6)) fun t16 =>
    ob (gq (isB t12 false) (lload1 r3.2 t16)) fun t17 =>
    ob (gq (isB t12 false) (llen r3.2 .str t17)) fun t18 =>
    ob (gq (isB t12 false) (lbin .add t15 t18)) fun t19 =>
    ob (gq (isB t12 false) (lbin .gtr t19 (.int .i64 65536))) fun t20 =>
    ob (lpick t12 (.bool true) t20) fun t21 =>
    cnd t21
    (some ((.bool true), r3.2))
    (ob (lloadn r3.2 7 r1.1) fun t22 =>
    ob (φ cCallEncode [t22] r3.2) fun r23 =>
    ob (iextract r23.1 0) fun t24 =>
    ob (iextract r23.1 1) fun t25 =>
    ob (lloadn r23.2 7 r2.1) fun t26 =>
    ob (φ cCallEncode [t26] r23.2) fun r27 =>
    ob (iextract r27.1 0) fun t28 =>
    ob (iextract r27.1 1) fun t29 =>
    ob (lbin .neq t25 (.int .i64 0)) fun t30 =>
    ob (gq (isB t30 false) (some t29)) fun t31 =>
    ob (gq (isB t30 false) (lbin .neq t31 (.int .i64 0))) fun t32 =>
    ob (lpick t30 (.bool true) t32) fun t33 =>
    cnd t33
    (some ((.bool true), r27.2))
    (ob (llen r27.2 .slice t24) fun t34 =>
    ob (llen r27.2 .slice t28) fun t35 =>
    ob (ifold imin2 t34 [t35]) fun t36 =>
    ob (lloadn r27.2 7 r1.1) fun t37 =>
    ob (lloadn r27.2 7 r2.1) fun t38 =>
    ob (leqv false (leq (.struct [(0, .int), (1, .int), (2, .int), (3, .int), (4, .int), (5, .str), (6, .str)]) t37 t38)) fun t39 =>
    ob (lslice r27.2 (.slice 1) t24 none (some t36) none) fun t40 =>
    ob (lb2s r27.2 t40) fun t41 =>
    ob (lslice r27.2 (.slice 1) t28 none (some t36) none) fun t42 =>
    ob (lb2s r27.2 t42) fun t43 =>
    ob (lbin .eql t41 t43) fun t44 =>
    ob (leqv false (leq .bool t39 t44)) fun t45 =>
    some (t45, r27.2))))
theorem veneerlaw08CallApartEq (cal : FuncId → Bool) (φ : Oracle) (N : Nat) (cVeneerlaw08Awake cCallEncode : FuncId) (v0 v1 : IV) (H : Heap) : lrunK cal φ N (veneerlaw08CallApart cVeneerlaw08Awake cCallEncode) [v0, v1] H = veneerlaw08CallApartS cal φ N cVeneerlaw08Awake cCallEncode v0 v1 H := by
  kernel_rfl

end Go.Shade
/- CALL, part 9: the law's fixed answers. -/
namespace Go.Shade
set_option linter.unusedVariables false
set_option linter.unusedSimpArgs false

def cA : Cl := { op := 2, fd := 0, fl := 0, n := 0, off := 0, a := [97], b := [] }
def cZ : Cl := { op := 0, fd := 0, fl := 0, n := 0, off := 0, a := [], b := [] }
def cB : Cl := { op := 1, fd := -4, fl := 0, n := -256, off := -256, a := [], b := [] }
theorem encA : cA.enc = [1, 4, 0, 1, 0, 1, 0, 1, 97, 0] := by decide
theorem mayA : cA.may = true := by decide
theorem mayZ : cZ.may = false := by decide
theorem decA : dec 200 [1, 4, 0, 1, 0, 1, 0, 1, 97, 0] = [cA] := by decide
theorem decB : dec 200 [20] = [cB] := by decide
/-- One's own row of bytes. -/
theorem ownBS {H : Heap} {r : Nat} {l : List UInt8} {ex : Bool} (h : H[r]? = some (.row (bytes l) false)) : BS H (.slice r 0 l.length l.length ex 1) l := by
  refine .inr ⟨r, 0, l.length, l.length, ex, 1, rfl, Nat.le_refl _, .inr rfl, rfl, fun _ => ⟨bytes l, false, h, fun i hi => ?_⟩⟩
  simp [bytes, hi, List.getD_eq_getElem?_getD]
theorem lowAt {B r o n lb sz : Nat} {ex : Bool} (h : r < B) : low B (.slice r o n lb ex sz) := by
  intro b o n lb ex sz e; cases e; exact h
theorem b2sBS {H : Heap} {v : IV} {l : List UInt8} (h : BS H v l) : lb2s H v = some (.str l) := by
  rcases h with ⟨rfl, rfl⟩ | ⟨b, o, n, lb, ex, sz, rfl, h1, h2, h3, h4⟩
  · rfl
  · subst h3
    have hc : lsl H 1 (.slice b o l.length lb ex sz) l.length = some (bytes l) := by
      simp only [lsl, Nat.le_refl, if_true]
      by_cases h0 : l.length = 0
      · rw [if_pos h0, List.length_eq_zero_iff.1 h0]; rfl
      · rw [if_neg h0]
        obtain ⟨cells, ro, g1, g2⟩ := h4 (by omega)
        have hlast := g2 (l.length - 1) (by omega)
        have hlen := (List.getElem?_eq_some_iff.1 hlast).1
        simp only [irow, g1, Nat.mul_one]
        rw [if_pos (by omega)]
        congr 1
        apply List.ext_getElem?
        intro i
        by_cases hi : i < l.length
        · rw [List.getElem?_take, if_pos hi, List.getElem?_drop, g2 i hi]
          simp [bytes, hi, List.getD_eq_getElem?_getD]
        · rw [List.getElem?_eq_none (by simp; omega), List.getElem?_eq_none (by simp [bytes]; omega)]
    simp only [lb2s, hc, Option.bind_some, ibytes_bytes]
theorem awake_s {cal : FuncId → Bool} {φ : Oracle} {N : Nat} {e d s m : FuncId} (he : EncOk φ e) (hd : DecOk φ d) (hs : ScriptOk φ s) (hm : MayOk φ m) (H : Heap) : ∃ X, veneerlaw08AwakeS cal φ N e d s m H = some (.bool true, H ++ X) := by
  unfold veneerlaw08AwakeS
  have b1 : lbld [(.int .i64 0), (.int .i64 0), (.int .i64 0), (.int .i64 0), (.int .i64 0), (.str []), (.str [])] [(0, 1, (.int .i64 2)), (5, 1, (.str [97]))] = some (.agg cA.cells) := rfl
  have b2 : lbld [(.int .i64 0), (.int .i64 0), (.int .i64 0), (.int .i64 0), (.int .i64 0), (.str []), (.str [])] [] = some (.agg cZ.cells) := rfl
  have b3 : lbld [(.int .i64 0), (.int .i64 0), (.int .i64 0), (.int .i64 0), (.int .i64 0), (.str []), (.str [])] [(0, 1, (.int .i64 1)), (1, 1, (.int .i64 (-4))), (3, 1, (.int .i64 (-256))), (4, 1, (.int .i64 (-256)))] = some (.agg cB.cells) := rfl
  rw [b1, ob_some, he, if_pos mayA, ob_some, iextract_tuple, iextract_tuple, encA]
  simp only [List.getElem?_cons_zero, List.getElem?_cons_succ, ob_some]
  generalize hH1 : H ++ [IObj.row (bytes [1, 4, 0, 1, 0, 1, 0, 1, 97, 0]) false] = H1
  have l1 : H1.length = H.length + 1 := by rw [← hH1]; simp
  have r1 : H1[H.length]? = some (.row (bytes [1, 4, 0, 1, 0, 1, 0, 1, 97, 0]) false) := by rw [← hH1]; simp
  have s1 : BS H1 (.slice H.length 0 10 10 false 1) [1, 4, 0, 1, 0, 1, 0, 1, 97, 0] := ownBS r1
  rw [show ([1, 4, 0, 1, 0, 1, 0, 1, 97, 0] : List UInt8).length = 10 from rfl]
  rw [hd H1 _ _ rfl (lowAt (by omega)) s1, decA, if_neg (by decide), ob_some]
  simp only
  rw [b2, ob_some, he, if_neg (by rw [mayZ]; decide), ob_some, iextract_tuple, iextract_tuple]
  simp only [List.getElem?_cons_zero, List.getElem?_cons_succ, ob_some]
  generalize hH2 : H1 ++ [IObj.row (flat7 [cA]) false] = H2
  have l2 : H2.length = H.length + 2 := by rw [← hH2]; simp [l1]
  have r2 : H2[H1.length]? = some (.row (flat7 [cA]) false) := by rw [← hH2]; simp
  have s2 : CS H2 (.slice H1.length 0 1 1 false 7) [cA] := Buf.calls (B := 0) (.inr ⟨_, 1, false, rfl, by omega, r2, rfl⟩)
  rw [show [cA].length = 1 from rfl]
  rw [hs H2 _ _ (lowAt (by omega)) s2, ob_some]
  have sx : scrX H2 [cA] = (.tuple [.slice H2.length 0 10 10 false 1, .int .i64 0], H2 ++ [.row (bytes [1, 4, 0, 1, 0, 1, 0, 1, 97, 0]) false]) := by
    unfold scrX
    rw [if_pos (by decide), if_neg (by decide)]
    have : encs [cA] = [1, 4, 0, 1, 0, 1, 0, 1, 97, 0] := by decide
    rw [this]; rfl
  rw [sx, iextract_tuple, iextract_tuple]
  simp only [List.getElem?_cons_zero, List.getElem?_cons_succ, ob_some]
  generalize hH3 : H2 ++ [IObj.row (bytes [1, 4, 0, 1, 0, 1, 0, 1, 97, 0]) false] = H3
  have l3 : H3.length = H.length + 3 := by rw [← hH3]; simp [l2]
  have r3 : H3[H2.length]? = some (.row (bytes [1, 4, 0, 1, 0, 1, 0, 1, 97, 0]) false) := by rw [← hH3]; simp
  have bl : lbldS H3 1 1 [(.int .u8 0)] [(0, (.int .u8 20))] = some (.slice H3.length 0 1 1 true 1, H3 ++ [.row (bytes [20]) false]) := rfl
  rw [bl, ob_some]
  simp only
  generalize hH4 : H3 ++ [IObj.row (bytes [20]) false] = H4
  have l4 : H4.length = H.length + 4 := by rw [← hH4]; simp [l3]
  have r4 : H4[H3.length]? = some (.row (bytes [20]) false) := by rw [← hH4]; simp
  have s4 : BS H4 (.slice H3.length 0 1 1 true 1) [20] := ownBS r4
  rw [hd H4 _ _ rfl (lowAt (by omega)) s4, decB, if_neg (by decide), ob_some]
  simp only
  rw [show [cB].length = 1 from rfl]
  generalize hH5 : H4 ++ [IObj.row (flat7 [cB]) false] = H5
  have r5 : H5[H4.length]? = some (.row (flat7 [cB]) false) := by rw [← hH5]; simp
  have up : ∀ {i : Nat}, i < H.length + 4 → H5[i]? = H4[i]? := fun {i} hi => by rw [← hH5, List.getElem?_append_left (show i < H4.length by omega)]
  have up4 : ∀ {i : Nat}, i < H.length + 3 → H4[i]? = H3[i]? := fun {i} hi => by rw [← hH4, List.getElem?_append_left (show i < H3.length by omega)]
  have up3 : ∀ {i : Nat}, i < H.length + 2 → H3[i]? = H2[i]? := fun {i} hi => by rw [← hH3, List.getElem?_append_left (show i < H2.length by omega)]
  have up2 : ∀ {i : Nat}, i < H.length + 1 → H2[i]? = H1[i]? := fun {i} hi => by rw [← hH2, List.getElem?_append_left (show i < H1.length by omega)]
  have t1 : lb2s H5 (.slice H.length 0 10 10 false 1) = some (.str [1, 4, 0, 1, 0, 1, 0, 1, 97, 0]) := b2sBS (ownBS (by rw [up (i := H.length) (by omega), up4 (i := H.length) (by omega), up3 (i := H.length) (by omega), up2 (i := H.length) (by omega)]; exact r1))
  have t3 : lb2s H5 (.slice H2.length 0 10 10 false 1) = some (.str [1, 4, 0, 1, 0, 1, 0, 1, 97, 0]) := b2sBS (ownBS (by rw [up (i := H2.length) (by omega), up4 (i := H2.length) (by omega)]; exact r3))
  have g2 : lloadn H5 7 (.ptr H1.length 0) = some (.agg cA.cells) := by rw [lloadn_ptr, up (i := H1.length) (by omega), up4 (i := H1.length) (by omega), up3 (i := H1.length) (by omega), r2]; rfl
  have g5 : lloadn H5 7 (.ptr H4.length 0) = some (.agg cB.cells) := by rw [lloadn_ptr, r5]; rfl
  have x2 : lix 7 (.slice H1.length 0 1 1 false 7) (.int .i64 0) = some (.ptr H1.length 0) := rfl
  have x5 : lix 7 (.slice H4.length 0 1 1 false 7) (.int .i64 0) = some (.ptr H4.length 0) := rfl
  have n0 : ∀ (a : Int), decide (a = a) = true := fun a => decide_eq_true rfl
  have n1 : ∀ (a : List UInt8), decide (a = a) = true := fun a => decide_eq_true rfl
  have n2 : ∀ (a : Cl), decide (a = a) = true := fun a => decide_eq_true rfl
  simp only [t1, ob_some, lbin_seq, n1, decide_true, isB_tt, gq_true, lbin_eql, n0, lpick_true, llen_slice, Int.natCast_one, x2, g2, b1, call_eq, n2, leqv_f, t3, x5, g5, b3, ge_true]
  rw [hm, ob_some, mayA]
  exact ⟨_, by rw [← hH5, ← hH4, ← hH3, ← hH2, ← hH1]; simp only [List.append_assoc]; rfl⟩
end Go.Shade
/- CALL, part 10: the law 'CallTotal'. -/
namespace Go.Shade
set_option linter.unusedVariables false
set_option linter.unusedSimpArgs false

theorem rdText_len (bs : List UInt8) : (rdText bs).length < 64 := by
  simp only [rdText, List.length_map, List.length_range]; omega
theorem rdCl_may (bs : List UInt8) : (rdCl bs).may = true := by
  rw [Cl.may_iff]
  have h3 := (bs.getD 3 0).toNat_lt
  have h4 := (bs.getD 4 0).toNat_lt
  have h5 := (bs.getD 5 0).toNat_lt
  have h6 := (bs.getD 6 0).toNat_lt
  have a := rdText_len (rd1 bs)
  have b := rdText_len (rd2 bs)
  simp only [rdCl]
  omega
theorem dec_may : ∀ (k : Nat) (bs : List UInt8), (dec k bs).all Cl.may = true
  | 0, _ => rfl
  | k + 1, bs => by
    simp only [dec]
    split
    · rfl
    · simp only [List.all_cons, rdCl_may, dec_may k, Bool.and_self]
theorem dec_len : ∀ (k : Nat) (bs : List UInt8), (dec k bs).length ≤ k
  | 0, _ => Nat.le_refl _
  | k + 1, bs => by
    simp only [dec]
    split
    · simp
    · have := dec_len k (bs.drop (rdN bs)); simp; omega
theorem dec_nil {k : Nat} {bs : List UInt8} : dec (k + 1) bs = [] ↔ bs = [] := by
  simp only [dec]
  split <;> simp_all
def AwakeOk (φ : Oracle) (f : FuncId) : Prop := ∀ H : Heap, φ f [] H = some (.bool true, H)
theorem total_loop {cal : FuncId → Bool} {φ : Oracle} {N : Nat} {aw d m : FuncId} (hm : MayOk φ m) {gE0 : IV → IV → Heap → Option (IV × Heap)} {H : Heap} {v0 v : IV} {l : List Cl} (hl : l.all Cl.may = true) (hc : CS H v l) (h200 : l.length ≤ 200) : ∀ (k i n : Nat), i + k = l.length → k < n →
    veneerlaw08CallTotalC0S cal φ N aw d m gE0 n v0 v (.int .i64 (l.length : Nat)) (.int .i64 (i : Nat)) H = gE0 v0 v H := by
  intro k
  induction k with
  | zero =>
    intro i n hi hn
    obtain ⟨n, rfl⟩ : ∃ m, n = m + 1 := ⟨n - 1, by omega⟩
    have hd : decide (((i : Nat) : Int) < (l.length : Nat)) = false := decide_eq_false (by omega)
    rw [veneerlaw08CallTotalC0S, lbin_lss, ob_some, hd, cnd_false]
  | succ k ih =>
    intro i n hi hn
    obtain ⟨n, rfl⟩ : ∃ m, n = m + 1 := ⟨n - 1, by omega⟩
    have hd : decide (((i : Nat) : Int) < (l.length : Nat)) = true := decide_eq_true (by omega)
    have e1 := List.getElem?_eq_getElem (l := l) (i := i) (by omega)
    obtain ⟨b1, o1, x1, y1⟩ := hc.at e1
    have hmay : (l[i]).may = true := List.all_eq_true.1 hl _ (List.getElem_mem _)
    rw [veneerlaw08CallTotalC0S, lbin_lss, ob_some, hd, cnd_true, x1, ob_some, y1, ob_some, hm, ob_some]
    simp only
    rw [hmay, iun_not, ob_some, Bool.not_true, cnd_false, lbin_add, ob_some, wrap_i64 (by omega) (by omega)]
    rw [show (((i : Nat) : Int) + 1) = ((i + 1 : Nat) : Int) by omega]
    exact ih (i + 1) n (by omega) (by omega)
theorem total_loop0 {cal : FuncId → Bool} {φ : Oracle} {N : Nat} {aw d m : FuncId} (hm : MayOk φ m) {gE0 : IV → IV → Heap → Option (IV × Heap)} {H : Heap} {v0 v : IV} {l : List Cl} (hl : l.all Cl.may = true) (hc : CS H v l) (h200 : l.length ≤ 200) (n : Nat) (hn : l.length < n) :
    veneerlaw08CallTotalC0S cal φ N aw d m gE0 n v0 v (.int .i64 (l.length : Nat)) (.int .i64 0) H = gE0 v0 v H := total_loop hm hl hc h200 l.length 0 n (by omega) hn
theorem total_l {cal : FuncId → Bool} {φ : Oracle} {N : Nat} {aw d m : FuncId} (hN : 200 < N) (ha : AwakeOk φ aw) (hd : DecOk φ d) (hm : MayOk φ m) {H : Heap} {v : IV} {bs : List UInt8} (hv : v.one = true) (hl : low H.length v) (hb : BS H v bs) :
    ∃ H', veneerlaw08CallTotalS cal φ N aw d m v H = some (.bool true, H') := by
  unfold veneerlaw08CallTotalS veneerlaw08CallTotalC7S veneerlaw08CallTotalC6S veneerlaw08CallTotalC5S veneerlaw08CallTotalC4S veneerlaw08CallTotalC3S veneerlaw08CallTotalC2S veneerlaw08CallTotalC1S
  rw [ha, ob_some]
  simp only
  rw [iun_not, ob_some, Bool.not_true, cnd_false, hb.len, ob_some, lbin_gtr, ob_some]
  cases hbig : decide ((65536 : Int) < (bs.length : Nat))
  · rw [cnd_false, hd H v bs hv hl hb]
    have hlen := dec_len 200 bs
    have hle : decide ((((dec 200 bs).length : Nat) : Int) ≤ 200) = true := decide_eq_true (by omega)
    by_cases h0 : dec 200 bs = []
    · have hbs : bs = [] := dec_nil.1 h0
      subst hbs
      rw [if_pos h0, ob_some]
      simp only
      have hc : CS H .nilSlice [] := .inl ⟨rfl, rfl⟩
      rw [hc.len, ob_some]
      rw [total_loop0 (cal := cal) (N := N) (aw := aw) (d := d) hm (l := []) rfl hc (by simp) N (by simp; omega)]
      have hlb := hb.len
      refine ⟨H, ?_⟩
      have z1 : decide ((((([] : List Cl).length : Nat)) : Int) ≤ 200) = true := rfl
      have z2 : decide ((((([] : List Cl).length : Nat)) : Int) = 0) = true := rfl
      have z3 : decide ((((([] : List UInt8).length : Nat)) : Int) = 0) = true := rfl
      simp only [hc.len, ob_some, lbin_leq, z1, isB_tt, gq_true, lbin_eql, z2, hlb, z3, leq_bool, leqv_f, lpick_true]
      rfl
    · rw [if_neg h0, ob_some]
      simp only
      generalize hH1 : H ++ [IObj.row (flat7 (dec 200 bs)) false] = H1
      have r1 : H1[H.length]? = some (.row (flat7 (dec 200 bs)) false) := by rw [← hH1]; simp
      have hc : CS H1 (.slice H.length 0 (dec 200 bs).length (dec 200 bs).length false 7) (dec 200 bs) := Buf.calls (B := 0) (.inr ⟨_, _, false, rfl, by omega, r1, by rw [flat7_length]⟩)
      have hb1 : BS H1 v bs := hb.keep (fun i o hi => by rw [← hH1, List.getElem?_append_left (List.getElem?_eq_some_iff.1 hi).1]; exact hi)
      rw [hc.len, ob_some, total_loop0 (cal := cal) (N := N) (aw := aw) (d := d) hm (dec_may _ _) hc hlen N (by omega)]
      have hpos : 0 < (dec 200 bs).length := List.length_pos_iff.2 h0
      have hbpos : 0 < bs.length := List.length_pos_iff.2 (fun e => h0 (dec_nil.2 e))
      have z2 : decide ((((dec 200 bs).length : Nat) : Int) = 0) = false := decide_eq_false (by omega)
      have z3 : decide (((bs.length : Nat) : Int) = 0) = false := decide_eq_false (by omega)
      refine ⟨H1, ?_⟩
      simp only [hc.len, ob_some, lbin_leq, hle, isB_tt, gq_true, lbin_eql, z2, hb1.len, z3, leq_bool, leqv_f, lpick_true]
      rfl
  · exact ⟨H, by rw [cnd_true]⟩
end Go.Shade
/- SHADE, part 28: arguments that came in: numbers, texts, structs and slices of such become rows that are only read. -/
namespace Go.Shade
open Go.RowKit
set_option linter.unusedSimpArgs false
set_option linter.unusedVariables false

inductive CT where
  | int (k : IntKind)
  | bool
  | str
  | sl (es : List CT)
mutual
def Fit (H : Heap) : CT → IV → Prop
  | .int k, v => ∃ n, v = .int k n ∧ (Lit.int k n).wf = true
  | .bool, v => ∃ b, v = .bool b
  | .str, v => ∃ s, v = .str s ∧ s.length ≤ maxLen
  | .sl es, v => v = .nilSlice ∨ ∃ (b n : Nat) (elems : List (List IV)), v = .slice b 0 n elems.length true 0 ∧ H[b]? = some (.row elems.flatten true) ∧ n ≤ elems.length ∧ elems.length ≤ maxLen ∧ ∀ e ∈ elems, Fits H es e
def Fits (H : Heap) : List CT → List IV → Prop
  | [], vs => vs = []
  | c :: cs, vs => ∃ v r, vs = v :: r ∧ Fit H c v ∧ Fits H cs r
end
mutual
theorem Fit.mono {H H' : Heap} (h : ∀ (b : Nat) o, H[b]? = some o → H'[b]? = some o) : ∀ (c : CT) (v : IV), Fit H c v → Fit H' c v
  | .int k, v, hf => by simpa [Fit] using hf
  | .bool, v, hf => by simpa [Fit] using hf
  | .str, v, hf => by simpa [Fit] using hf
  | .sl es, v, hf => by
    simp only [Fit] at hf ⊢
    rcases hf with hf | ⟨b, n, elems, h1, h2, h3, h4, h5⟩
    · exact .inl hf
    · exact .inr ⟨b, n, elems, h1, h _ _ h2, h3, h4, fun e he => Fits.mono h es e (h5 e he)⟩
theorem Fits.mono {H H' : Heap} (h : ∀ (b : Nat) o, H[b]? = some o → H'[b]? = some o) : ∀ (cs : List CT) (vs : List IV), Fits H cs vs → Fits H' cs vs
  | [], vs, hf => by simpa [Fits] using hf
  | c :: cs, vs, hf => by
    simp only [Fits] at hf ⊢
    obtain ⟨v, r, h1, h2, h3⟩ := hf
    exact ⟨v, r, h1, Fit.mono h c v h2, Fits.mono h cs r h3⟩
end
theorem app_mono {H : Heap} (X : Heap) : ∀ (b : Nat) o, H[b]? = some o → (H ++ X)[b]? = some o := by
  intro b o h
  rw [List.getElem?_append_left (List.getElem?_eq_some_iff.1 h).1]; exact h
theorem Fits.append {H : Heap} : ∀ {cs ds : List CT} {vs us : List IV}, Fits H cs vs → Fits H ds us → Fits H (cs ++ ds) (vs ++ us)
  | [], ds, vs, us, h, k => by simp only [Fits] at h; subst h; simpa using k
  | c :: cs, ds, vs, us, h, k => by
    simp only [Fits] at h
    obtain ⟨v, r, rfl, h2, h3⟩ := h
    simp only [List.cons_append, Fits]
    exact ⟨v, r ++ us, rfl, h2, h3.append k⟩
theorem Fits.length {H : Heap} : ∀ {cs : List CT} {vs : List IV}, Fits H cs vs → vs.length = cs.length
  | [], vs, h => by simp only [Fits] at h; subst h; rfl
  | c :: cs, vs, h => by
    simp only [Fits] at h
    obtain ⟨v, r, rfl, h2, h3⟩ := h
    simp [h3.length]
theorem Fit.one {H : Heap} {c : CT} {v : IV} (h : Fit H c v) : v.one = true := by
  cases c <;> simp only [Fit] at h
  · obtain ⟨n, rfl, _⟩ := h; rfl
  · obtain ⟨n, rfl⟩ := h; rfl
  · obtain ⟨n, rfl, _⟩ := h; rfl
  · rcases h with rfl | ⟨b, n, e, rfl, _⟩ <;> rfl
theorem Fits.one {H : Heap} : ∀ {cs : List CT} {vs : List IV}, Fits H cs vs → ∀ v ∈ vs, v.one = true
  | [], vs, h => by simp only [Fits] at h; subst h; simp
  | c :: cs, vs, h => by
    simp only [Fits] at h
    obtain ⟨v, r, rfl, h2, h3⟩ := h
    intro x hx
    rcases List.mem_cons.1 hx with rfl | hx
    · exact h2.one
    · exact h3.one x hx

def flatFs (P : Program) (fl : TypeId → Option (List CT)) : Nat → List Field → Option (List CT)
  | _, [] => some []
  | off, f :: fs => if f.offset = off then (fl f.type).bind fun c => if c.length = P.cellsOf f.type then (flatFs P fl (off + c.length) fs).map (c ++ ·) else none else none
def flat (P : Program) : Nat → TypeId → Option (List CT)
  | 0, _ => none
  | n + 1, t => match P.underlying t with
    | some .bool => some [.bool]
    | some (.int k) => some [.int k]
    | some .string => some [.str]
    | some (.slice e) => (flat P n e).bind fun es => if es.length = P.cellsOf e ∧ es ≠ [] then some [.sl es] else none
    | some (.struct fs) => (flatFs P (flat P n) 0 fs.toList).bind fun cs => if cs.length = P.cellsOf t then some cs else none
    | _ => none

theorem Rel.pushRo {B0 : Nat} {w0 w : World} {m : Mp} {H : Heap} (h : Rel B0 w0 m H w) (l : Loc) (cs : List IV)
    (hg : cs ≠ [] → ∃ C e fr, w.heap[l.cb]? = some (.cells C e fr) ∧ l.cb < B0 ∧ ∀ (j : Nat) v, cs[j]? = some v → v.one = true ∧ ∃ u, C[l.co + j]? = some u ∧ VR m v u) :
    Rel B0 w0 (grow m H.length l) (H ++ [.row cs true]) w := by
  have hext := grow_ext h l
  refine ⟨h.below, h.base, fun i k hi => ?_, fun i o hi => ?_, fun i j o p li lj hi hj ho hp hne hmi hmj => ?_⟩
  · simp only [grow] at hi
    split at hi
    · simp; omega
    · have := h.dom i k hi; simp; omega
  · rw [List.getElem?_append] at hi
    split at hi
    · exact (h.good i o hi).move hext (fun _ _ _ => rfl)
    · rename_i hge
      have hz : i - H.length = 0 := by
        rcases Nat.eq_zero_or_pos (i - H.length) with e | e
        · exact e
        · rw [List.getElem?_eq_none (by simp; omega)] at hi; exact absurd hi (by simp)
      rw [hz] at hi; simp at hi; subst hi
      have : i = H.length := by omega
      subst this
      refine ⟨l, grow_at _ _ _, fun hne => ?_⟩
      obtain ⟨C, e, fr, h1, h2, h3⟩ := hg hne
      exact ⟨C, e, fr, h1, h2, fun j v hj => by obtain ⟨h4, u, h5, h6⟩ := h3 j v hj; exact ⟨h4, u, h5, h6.ext hext⟩⟩
  · have key : ∀ {a : Nat} {q : IObj}, (H ++ [IObj.row cs true])[a]? = some q → q.held = true → H[a]? = some q ∧ a ≠ H.length := by
      intro a q ha hq
      rw [List.getElem?_append] at ha
      split at ha
      · exact ⟨ha, by omega⟩
      · rename_i hge
        have hz : a - H.length = 0 := by
          rcases Nat.eq_zero_or_pos (a - H.length) with e | e
          · exact e
          · rw [List.getElem?_eq_none (by simp; omega)] at ha; exact absurd ha (by simp)
        rw [hz] at ha; simp at ha; subst ha; simp [IObj.held] at hq
    obtain ⟨h1, h2⟩ := key hi ho
    obtain ⟨h3, h4⟩ := key hj hp
    simp only [grow, if_neg h2] at hmi
    simp only [grow, if_neg h4] at hmj
    exact h.inj i j o p li lj h1 h3 ho hp hne hmi hmj

/-- What an argument's cells become. -/
def Opened (B0 : Nat) (w0 w : World) (m : Mp) (H : Heap) (cts : List CT) (cs : List Value) : Prop :=
  ∃ m' X ivs, Ext m m' ∧ Rel B0 w0 m' (H ++ X) w ∧ VRs m' ivs cs ∧ Fits (H ++ X) cts ivs
theorem add_add' (a : Addr) (i j : Nat) : (a.add i).add j = a.add (i + j) := by
  unfold Addr.add
  by_cases hi : i = 0
  · subst hi; simp
  · by_cases hj : j = 0
    · subst hj; simp
    · rw [if_neg hi, if_neg hj, if_neg (by omega)]; simp [Nat.add_assoc]
theorem cell_lt {w : World} {a : Addr} {v : Value} (h : w.cell? a = some v) : a.spot = none ∧ ∃ C e fr, w.heap[a.block]? = some (.cells C e fr) ∧ C[a.off]? = some v := by
  unfold World.cell? at h
  split at h
  · rename_i c e fr hc
    split at h
    · cases h
    · rename_i hs
      exact ⟨by simpa using hs, c, e, fr, hc, h⟩
  · cases h

section
variable {K : Type} {enc : TypeId × Value → K} {P : Program} {w w0 : World} {B0 : Nat} {held : Bool}
theorem open_fields (hB : B0 = w.heap.size) {n : Nat} (ih : ∀ t cts, flat P n t = some cts → ∀ fuel cs x, DataW.trod enc P w 0 (fun _ => true) held fuel t cs = some x → ∀ m H, Rel B0 w0 m H w → Opened B0 w0 w m H cts cs) {fuel : Nat} {cs : List Value} :
    ∀ (fs : List Field) (off : Nat) (cts : List CT), flatFs P (flat P n) off fs = some cts → cs.length = off + cts.length →
      (∀ f ∈ fs, ∃ x, DataW.trod enc P w 0 (fun _ => true) held fuel f.type ((cs.drop f.offset).take (P.cellsOf f.type)) = some x) → ∀ m H, Rel B0 w0 m H w → Opened B0 w0 w m H cts (cs.drop off)
  | [], off, cts, h, hl, _, m, H, hR => by
    simp only [flatFs] at h; cases h
    refine ⟨m, [], [], Ext.refl m, by simpa using hR, ?_, by simp [Fits]⟩
    rw [List.drop_of_length_le (by simpa using Nat.le_of_eq hl)]; exact VRs.nil m
  | f :: fs, off, cts, h, hl, hx, m, H, hR => by
    simp only [flatFs] at h
    split at h
    · rename_i hoff
      obtain ⟨c, hc, h⟩ := Option.bind_eq_some_iff.1 h
      split at h
      · rename_i hcl
        simp only [Option.map_eq_some_iff] at h
        obtain ⟨r, hr, rfl⟩ := h
        obtain ⟨x, hx1⟩ := hx f (by simp)
        obtain ⟨m1, X1, v1, e1, r1, s1, f1⟩ := ih f.type c hc _ _ _ hx1 m H hR
        obtain ⟨m2, X2, v2, e2, r2, s2, f2⟩ := open_fields hB ih fs (off + c.length) r hr (by simp at hl; omega) (fun g hg => hx g (by simp [hg])) m1 (H ++ X1) r1
        refine ⟨m2, X1 ++ X2, v1 ++ v2, e1.trans e2, by simpa using r2, ?_, ?_⟩
        · have : cs.drop off = (cs.drop off).take c.length ++ cs.drop (off + c.length) := by
            rw [← List.drop_drop, List.take_append_drop]
          rw [this]
          rw [hoff, ← hcl] at s1
          exact (s1.ext e2).append s2
        · rw [← List.append_assoc]
          exact (f1.mono (app_mono X2)).append f2
      · cases h
    · cases h
theorem open_flat (hB : B0 = w.heap.size) : ∀ (n : Nat) (t : TypeId) (cts : List CT), flat P n t = some cts → ∀ (fuel : Nat) (cs : List Value) (x : DataW K × List MemPlace), DataW.trod enc P w 0 (fun _ => true) held fuel t cs = some x → ∀ m H, Rel B0 w0 m H w → Opened B0 w0 w m H cts cs
  | 0, _, _, h => by simp [flat] at h
  | n + 1, t, cts, h => by
    intro fuel cs x hx m H hR
    have hxx := hx
    simp only [flat] at h
    split at h
    · rename_i hu
      cases h
      obtain ⟨b, rfl, _⟩ := DataW.trod_bool hu hx
      exact ⟨m, [], [.bool b], Ext.refl m, by simpa using hR, VRs.cons (VR_bool m b) (VRs.nil m), by simp [Fits, Fit]⟩
    · rename_i k hu
      cases h
      obtain ⟨i, rfl, _, hw⟩ := DataW.trod_int hu hx
      exact ⟨m, [], [.int k i], Ext.refl m, by simpa using hR, VRs.cons (VR_int m k i) (VRs.nil m), by simp [Fits, Fit, hw]⟩
    · rename_i hu
      cases h
      obtain ⟨s, rfl, _, hw⟩ := DataW.trod_string hu hx
      refine ⟨m, [], [.str s.data.toList], Ext.refl m, by simpa using hR, VRs.cons (by simp [VR]) (VRs.nil m), ?_⟩
      simp only [Fits, Fit]
      exact ⟨_, _, rfl, ⟨_, rfl, by rw [Array.length_toList]; exact hw⟩, rfl⟩
    · rename_i e hu
      obtain ⟨es, he, h⟩ := Option.bind_eq_some_iff.1 h
      split at h
      · rename_i hne
        cases h
        rcases Go.Deep.open_slice hu hx with ⟨rfl, _⟩ | ⟨a, len, cap, mm, k, D, Pl, rfl, _, hlc, hcm, hmm, _, hi⟩
        · refine ⟨m, [], [.nilSlice], Ext.refl m, by simpa using hR, VRs.cons (by simp [VR]) (VRs.nil m), ?_⟩
          simp only [Fits, Fit]
          exact ⟨_, _, rfl, .inl rfl, rfl⟩
        · simp only [if_true] at hmm
          subst hmm
          have hC : 0 < es.length := List.length_pos_iff.2 hne.2
          have key : ∀ j, j ≤ mm → ∃ (m' : Mp) (X : Heap) (elems : List (List IV)), Ext m m' ∧ Rel B0 w0 m' (H ++ X) w ∧ elems.length = j ∧ (∀ e' ∈ elems, Fits (H ++ X) es e') ∧ elems.flatten.length = j * es.length ∧
              (∀ (q : Nat) v, elems.flatten[q]? = some v → ∃ u, w.cell? (a.add q) = some u ∧ VR m' v u) := by
            intro j
            induction j with
            | zero => intro _; exact ⟨m, [], [], Ext.refl m, by simpa using hR, rfl, by simp, by simp, by simp⟩
            | succ j ihj =>
              intro hj
              obtain ⟨m1, X1, el, e1, r1, l1, f1, c1, v1⟩ := ihj (by omega)
              obtain ⟨cs', hc, ht⟩ := hi j (by omega)
              obtain ⟨_, hcl, hat⟩ := World.cells?_some hc
              obtain ⟨m2, X2, iv, e2, r2, s2, f2⟩ := open_flat hB n e es he _ _ _ ht m1 (H ++ X1) r1
              have hivl := f2.length
              refine ⟨m2, X1 ++ X2, el ++ [iv], e1.trans e2, by simpa using r2, by simp [l1], ?_, ?_, ?_⟩
              · intro e' he'
                rw [← List.append_assoc]
                rcases List.mem_append.1 he' with he' | he'
                · exact (f1 e' he').mono (app_mono X2)
                · simp at he'; subst he'; exact f2
              · simp only [List.flatten_append, List.length_append, c1, List.flatten_cons, List.flatten_nil, List.append_nil, hivl]
                rw [Nat.add_mul]; omega
              · intro q v hq
                simp only [List.flatten_append, List.flatten_cons, List.flatten_nil, List.append_nil] at hq
                rw [List.getElem?_append] at hq
                split at hq
                · obtain ⟨u, hu1, hu2⟩ := v1 q v hq
                  exact ⟨u, hu1, hu2.ext e2⟩
                · rename_i hge
                  rw [c1] at hge hq
                  obtain ⟨u, hu1, hu2⟩ := s2.get hq
                  have hql : q - j * es.length < es.length := by have h9 := (List.getElem?_eq_some_iff.1 hq).1; rw [hivl] at h9; exact h9
                  have := hat (q - j * es.length) (by rw [← hne.1]; exact hql)
                  rw [hu1, add_add', ← hne.1, show j * es.length + (q - j * es.length) = q by omega] at this
                  exact ⟨u, this, hu2⟩
          obtain ⟨m1, X1, el, e1, r1, l1, f1, c1, v1⟩ := key mm (Nat.le_refl _)
          have hspot : 0 < mm → a.spot = none := by
            intro hm
            have hl : 0 < el.flatten.length := by rw [c1]; exact Nat.mul_pos hm hC
            obtain ⟨u, hu1, _⟩ := v1 0 _ (List.getElem?_eq_getElem hl)
            have := (cell_lt hu1).1
            simpa [Addr.add] using this
          have hrow : el.flatten ≠ [] → ∃ C e fr, w.heap[a.block]? = some (.cells C e fr) ∧ a.block < B0 ∧ ∀ (j : Nat) v, el.flatten[j]? = some v → v.one = true ∧ ∃ u, C[a.off + j]? = some u ∧ VR m1 v u := by
            intro hne'
            have hl : 0 < el.flatten.length := List.length_pos_iff.2 hne'
            obtain ⟨u, hu1, _⟩ := v1 0 _ (List.getElem?_eq_getElem hl)
            obtain ⟨_, C, e', fr, hc, _⟩ := cell_lt hu1
            have ha0 : (a.add 0) = a := by simp [Addr.add]
            rw [ha0] at hc
            refine ⟨C, e', fr, hc, by rw [hB]; exact (Array.getElem?_eq_some_iff.1 hc).1, fun j v hj => ?_⟩
            obtain ⟨u', hu', hr'⟩ := v1 j v hj
            obtain ⟨_, C', e'', fr', hc', hcu⟩ := cell_lt hu'
            have hab : (a.add j).block = a.block := by unfold Addr.add; split <;> rfl
            have hao : (a.add j).off = a.off + j := by unfold Addr.add; split <;> simp_all
            rw [hab, hc] at hc'; cases hc'
            rw [hao] at hcu
            have hmem : v ∈ el.flatten := List.mem_of_getElem? hj
            obtain ⟨e0, he0, hve⟩ := List.mem_flatten.1 hmem
            exact ⟨(f1 e0 he0).one v hve, u', hcu, hr'⟩
          have hp := r1.pushRo ⟨a.block, a.off, 0⟩ el.flatten hrow
          have hext := grow_ext r1 ⟨a.block, a.off, 0⟩
          refine ⟨_, X1 ++ [.row el.flatten true], [.slice (H ++ X1).length 0 len el.length true 0], e1.trans hext, by rw [← List.append_assoc]; exact hp, VRs.cons ?_ (VRs.nil _), ?_⟩
          · simp only [VR]
            refine ⟨_, a.off, mm, a.spot, grow_at _ _ _, rfl, by omega, by omega, fun _ => l1.symm, fun h0 => ⟨rfl, hspot (by omega)⟩, fun h0 => absurd h0 (by omega)⟩
          · simp only [Fits, Fit]
            refine ⟨_, _, rfl, .inr ⟨_, len, el, rfl, by rw [← List.append_assoc]; simp, by omega, by omega, fun e' he' => ?_⟩, rfl⟩
            rw [← List.append_assoc]
            exact (f1 e' he').mono (app_mono _)
      · cases h
    · rename_i fs hu
      obtain ⟨cs', hc, h⟩ := Option.bind_eq_some_iff.1 h
      split at h
      · rename_i hl
        cases h
        obtain ⟨xs, k, _, _, hcl, hxl, hf⟩ := DataW.trod_struct hu hx
        have := open_fields (fuel := k) (cs := cs) hB (open_flat hB n) fs.toList 0 cts hc (by omega) (fun f hf' => by
          obtain ⟨i, hi⟩ := List.mem_iff_getElem?.1 hf'
          have hil : i < fs.size := by simpa using (List.getElem?_eq_some_iff.1 hi).1
          rw [hf i f (by simpa using hi)]
          exact ⟨_, List.getElem?_eq_getElem (by omega)⟩) m H hR
        simpa using this
      · cases h
    · cases h

/-- What one argument becomes: its cells' kinds, and whether it is a struct. -/
def FitA (H : Heap) (cts : List CT) (agg : Bool) (v : IV) : Prop :=
  match agg with
  | true => ∃ ivs, v = .agg ivs ∧ Fits H cts ivs
  | false => ∃ c, cts = [c] ∧ Fit H c v
theorem FitA.mono {H H' : Heap} (h : ∀ (b : Nat) o, H[b]? = some o → H'[b]? = some o) {cts : List CT} {agg : Bool} {v : IV} (hf : FitA H cts agg v) : FitA H' cts agg v := by
  cases agg with
  | true => obtain ⟨ivs, h1, h2⟩ := hf; exact ⟨ivs, h1, h2.mono h⟩
  | false => obtain ⟨c, h1, h2⟩ := hf; exact ⟨c, h1, h2.mono h⟩
structure AT where
  cts : List CT
  agg : Bool
def FitAll (H : Heap) : List AT → List IV → Prop
  | [], vs => vs = []
  | a :: ats, vs => ∃ v r, vs = v :: r ∧ FitA H a.cts a.agg v ∧ FitAll H ats r
theorem FitAll.mono {H H' : Heap} (h : ∀ (b : Nat) o, H[b]? = some o → H'[b]? = some o) : ∀ {ats : List AT} {vs : List IV}, FitAll H ats vs → FitAll H' ats vs
  | [], vs, hf => hf
  | a :: ats, vs, hf => by
    obtain ⟨v, r, h1, h2, h3⟩ := hf
    exact ⟨v, r, h1, h2.mono h, FitAll.mono h h3⟩
def aggOf (P : Program) (t : TypeId) : Bool := match P.underlying t with
  | some (.struct _) | some (.array _ _) => true
  | _ => false
def atOf (P : Program) (n : Nat) (t : TypeId) : Option AT := (flat P n t).map fun c => ⟨c, aggOf P t⟩
def atsOf (P : Program) (n : Nat) : List TypeId → Option (List AT)
  | [] => some []
  | t :: ts => (atOf P n t).bind fun a => (atsOf P n ts).bind fun ats => some (a :: ats)
theorem open_one (hB : B0 = w.heap.size) {n : Nat} {t : TypeId} {cts : List CT} (hfl : flat P n t = some cts) {v : Value} {d : DataW K} {p : List MemPlace} {r : Reach} {b0 : Nat} (hv : Value.okWide P w r b0 t v) (ht : DataW.Trod enc P w 0 (fun _ => true) held t v d p) {m : Mp} {H : Heap} (hR : Rel B0 w0 m H w) :
    ∃ m' X iv, Ext m m' ∧ Rel B0 w0 m' (H ++ X) w ∧ VR m' iv v ∧ FitA (H ++ X) cts (aggOf P t) iv := by
  obtain ⟨fuel, hf⟩ := ht
  obtain ⟨m', X, ivs, h1, h2, h3, h4⟩ := open_flat hB n t cts hfl fuel _ _ hf m H hR
  cases ha : aggOf P t with
  | true =>
    have hagg : ∃ cs, v = .agg cs := by
      unfold aggOf at ha
      split at ha
      · rename_i hu; simp only [Value.okWide, hu] at hv; obtain ⟨cs, hv, _⟩ := hv; exact ⟨cs, hv⟩
      · rename_i hu; simp only [Value.okWide, hu] at hv; obtain ⟨cs, hv, _⟩ := hv; exact ⟨cs, hv⟩
      · cases ha
    obtain ⟨cs, rfl⟩ := hagg
    exact ⟨m', X, .agg ivs, h1, h2, by simp only [VR]; exact ⟨cs, rfl, by simpa [Value.cells] using h3⟩, ⟨ivs, rfl, h4⟩⟩
  | false =>
    have hone : ∃ c, cts = [c] := by
      cases n with
      | zero => simp [flat] at hfl
      | succ n =>
        simp only [flat] at hfl
        split at hfl
        · cases hfl; exact ⟨_, rfl⟩
        · cases hfl; exact ⟨_, rfl⟩
        · cases hfl; exact ⟨_, rfl⟩
        · obtain ⟨es, _, hfl⟩ := Option.bind_eq_some_iff.1 hfl
          split at hfl
          · cases hfl; exact ⟨_, rfl⟩
          · cases hfl
        · rename_i fs hu; unfold aggOf at ha; rw [hu] at ha; cases ha
        · cases hfl
    obtain ⟨c, rfl⟩ := hone
    simp only [Fits] at h4
    obtain ⟨iv, rr, rfl, h5, rfl⟩ := h4
    simp only [VRs] at h3
    obtain ⟨u, us, h6, h7, h8⟩ := h3
    subst h8
    have hvc : v = u := by
      have hna : ∀ cs, v ≠ .agg cs := by
        rintro cs rfl
        cases n with
        | zero => simp [flat] at hfl
        | succ n =>
          simp only [flat] at hfl
          simp only [Value.okWide] at hv
          unfold aggOf at ha
          cases hu : P.underlying t with
          | none => rw [hu] at hfl; cases hfl
          | some dd => rw [hu] at hv ha; cases dd <;> simp_all [Cell.okWide, Cell.ok]
      cases v <;> simp_all [Value.cells]
    subst hvc
    exact ⟨m', X, iv, h1, h2, h7, ⟨c, rfl, h5⟩⟩
theorem open_all (hB : B0 = w.heap.size) {n : Nat} {r : Reach} {b0 : Nat} : ∀ {ts : List TypeId} {ats : List AT} {vs : List Value} {ds : List (DataW K)} {p : List MemPlace}, atsOf P n ts = some ats →
    (∀ (j : Nat) t v, ts[j]? = some t → vs[j]? = some v → Value.okWide P w r b0 t v) → DataW.TrodAll enc P w 0 (fun _ => true) held ts vs ds p → ∀ {m : Mp} {H : Heap}, Rel B0 w0 m H w →
    ∃ m' X ivs, Ext m m' ∧ Rel B0 w0 m' (H ++ X) w ∧ VRs m' ivs vs ∧ FitAll (H ++ X) ats ivs
  | [], ats, vs, ds, p, ha, hv, ht, m, H, hR => by
    simp only [atsOf] at ha; cases ha
    cases vs with
    | nil => exact ⟨m, [], [], Ext.refl m, by simpa using hR, VRs.nil m, rfl⟩
    | cons v vs => cases ds <;> simp [DataW.TrodAll] at ht
  | t :: ts, ats, vs, ds, p, ha, hv, ht, m, H, hR => by
    simp only [atsOf] at ha
    obtain ⟨a, ha1, ha⟩ := Option.bind_eq_some_iff.1 ha
    obtain ⟨ats', ha2, ha⟩ := Option.bind_eq_some_iff.1 ha
    cases ha
    cases vs with
    | nil => cases ds <;> simp [DataW.TrodAll] at ht
    | cons v vs =>
      cases ds with
      | nil => simp [DataW.TrodAll] at ht
      | cons d ds =>
        simp only [DataW.TrodAll] at ht
        obtain ⟨p1, q1, t1, t2, _⟩ := ht
        simp only [atOf, Option.map_eq_some_iff] at ha1
        obtain ⟨c, hc, rfl⟩ := ha1
        obtain ⟨m1, X1, iv, e1, r1, v1, f1⟩ := open_one hB hc (hv 0 t v rfl rfl) t1 hR
        obtain ⟨m2, X2, ivs, e2, r2, v2, f2⟩ := open_all hB ha2 (fun j t' v' h1 h2 => hv (j + 1) t' v' (by simpa using h1) (by simpa using h2)) t2 r1
        refine ⟨m2, X1 ++ X2, iv :: ivs, e1.trans e2, by simpa using r2, VRs.cons (v1.ext e2) v2, ⟨iv, ivs, rfl, ?_, ?_⟩⟩
        · rw [← List.append_assoc]; exact f1.mono (app_mono X2)
        · rw [← List.append_assoc]; exact f2
end
end Go.Shade
/- SHADE, part 29: from what a law's low code comes to, to the row's contract. -/
namespace Go.Shade
open Go.RowKit Go.ChangeShapes Go.WideShapes Go.ChangeAt
set_option linter.unusedSimpArgs false
set_option linter.unusedVariables false

def T0 : Table := fun _ => none
theorem soundT0 (P : Program) : SoundT P T0 := fun f g h => by cases h
theorem trodAll_lt {K : Type} {enc : TypeId × Value → K} {P : Program} {w : World} {base : Nat} {spare : Nat → Bool} {held : Bool} : ∀ {ts : List TypeId} {vs : List Value} {ds : List (DataW K)} {p : List MemPlace}, DataW.TrodAll enc P w base spare held ts vs ds p → ∀ x ∈ p, x.block < w.heap.size
  | [], [], [], p, h => by simp only [DataW.TrodAll] at h; subst h; simp
  | t :: ts, v :: vs, d :: ds, p, h => by
    simp only [DataW.TrodAll] at h
    obtain ⟨p1, q1, ⟨n, h1⟩, h2, rfl⟩ := h
    intro x hx
    rcases List.mem_append.1 hx with hx | hx
    · exact DataW.trod_lt _ _ _ _ h1 x hx
    · exact trodAll_lt h2 x hx
  | [], _ :: _, _, _, h => by simp [DataW.TrodAll] at h
  | [], [], _ :: _, _, h => by simp [DataW.TrodAll] at h
  | _ :: _, [], _, _, h => by simp [DataW.TrodAll] at h
  | _ :: _, _ :: _, [], _, h => by simp [DataW.TrodAll] at h
theorem trodAll_len {K : Type} {enc : TypeId × Value → K} {P : Program} {w : World} {base : Nat} {spare : Nat → Bool} {held : Bool} : ∀ {ts : List TypeId} {vs : List Value} {ds : List (DataW K)} {p : List MemPlace}, DataW.TrodAll enc P w base spare held ts vs ds p → ds.length = ts.length
  | [], [], [], p, h => rfl
  | t :: ts, v :: vs, d :: ds, p, h => by
    simp only [DataW.TrodAll] at h
    obtain ⟨p1, q1, ⟨n, h1⟩, h2, rfl⟩ := h
    simp [trodAll_len h2]
  | [], _ :: _, _, _, h => by simp [DataW.TrodAll] at h
  | [], [], _ :: _, _, h => by simp [DataW.TrodAll] at h
  | _ :: _, [], _, _, h => by simp [DataW.TrodAll] at h
  | _ :: _, _ :: _, [], _, h => by simp [DataW.TrodAll] at h
theorem trodAll_stays {K : Type} {enc : TypeId × Value → K} {P : Program} {W W' : World} (hl : laidOutB P = true) (hb : Below W.heap.size W W') : ∀ {ts : List TypeId} {vs : List Value} {ds : List (DataW K)} {p : List MemPlace},
    (ts.all fun t => P.readableRec t && decide (t < P.types.size)) = true → DataW.TrodAll enc P W 0 (fun _ => true) true ts vs ds p → DataW.TrodAll enc P W' 0 (fun b => decide (b < W.heap.size)) true ts vs ds p
  | [], [], [], p, _, h => h
  | t :: ts, v :: vs, d :: ds, p, hr, h => by
    simp only [List.all_cons, Bool.and_eq_true, decide_eq_true_eq] at hr
    simp only [DataW.TrodAll] at h ⊢
    obtain ⟨p1, q1, h1, h2, rfl⟩ := h
    refine ⟨p1, q1, Below.trod hl hr.1.1 hr.1.2 h1 hb (by obtain ⟨n, hn⟩ := h1; exact DataW.trod_lt _ _ _ _ hn), trodAll_stays hl hb ?_ h2, rfl⟩
    exact hr.2
  | [], _ :: _, _, _, _, h => by simp [DataW.TrodAll] at h
  | [], [], _ :: _, _, _, h => by simp [DataW.TrodAll] at h
  | _ :: _, [], _, _, _, h => by simp [DataW.TrodAll] at h
  | _ :: _, _ :: _, [], _, _, h => by simp [DataW.TrodAll] at h

/-- What is to be shown of a law in the ideal: whatever fitting arguments lie in rows that are only read, it returns true. -/
def Good1 (P : Program) (T : Table) (f : FuncId) (ats : List AT) : Prop := ∀ (H : Heap) (ivs : List IV), FitAll H ats ivs → ∃ H', den P T f ivs H = some (.bool true, H')

theorem rel_start (W : World) : Rel W.heap.size W (fun _ => none) [] W :=
  ⟨Below.refl _ _, Nat.le_refl _, (fun _ _ h => by cases h), (fun i o h => by simp at h), (fun i j o p l k h => by simp at h)⟩

theorem calls_good {P : Program} {T : Table} (hT : SoundT P T) {f : FuncId} {ats : List AT} (hg : Good1 P T f ats) (hm : P.follows .mixedOrders = true) {K : Type} {enc : TypeId × Value → K} {ts : List TypeId} {n : Nat} (ha : atsOf P n ts = some ats) {W : World} {args : Array Value} {ds : List (DataW K)} {p : List MemPlace} {r : Reach} {b0 : Nat}
    (hv : ∀ (j : Nat) t v, ts[j]? = some t → args.toList[j]? = some v → Value.okWide P W r b0 t v) (ht : DataW.TrodAll enc P W 0 (fun _ => true) true ts args.toList ds p) :
    Calls P f args W fun e W' => e = .returned (.bool true) ∧ Below W.heap.size W W' := by
  obtain ⟨m, X, ivs, _, hR, hV, hF⟩ := open_all rfl ha hv ht (rel_start W)
  obtain ⟨H', hd⟩ := hg _ ivs hF
  refine (sound_den hT hm f ivs _ _ H' hd W.heap.size W W m args hR hV).mono ?_
  rintro e W' ⟨m', u, rfl, _, hR', hu⟩
  simp only [VR] at hu; subst hu
  exact ⟨rfl, hR'.below⟩

theorem post_same' {K : Type} {enc : TypeId × Value → K} {P : Program} {fn : Func} {s : ChangeSpec} {tb : TypeId} (hvars : s.vars = []) (hrt : fn.resultTypes.toList = [tb]) (hsz : fn.resultTypes.size = 1) (htb : P.underlying tb = some .bool)
    (hs : ∀ ds : List (DataW K), ds.length = fn.params.toList.length → s.fn K ds = { results := [.lit (.bool true)], args := ds }) (hl : laidOutB P = true)
    (hr : (fn.params.toList.all fun t => P.readableRec t && decide (t < P.types.size)) = true) {W W' : World} {args : Array Value} {ds gs : List (DataW K)} {before : List MemPlace} (hW : DataW.Whole enc P fn.params.toList s.vars false W args.toList ds gs before) (bel : Below W.heap.size W W') :
    s.post enc P fn false true false false W args (.bool true) W' := by
  have hW' := hW
  obtain ⟨p, q, hA, hV, rfl, hfz, hnd⟩ := hW
  rw [hvars] at hV
  obtain ⟨rfl, rfl⟩ := trodVars_none hV
  have hfn := hs ds (trodAll_len hA)
  refine ⟨ds, [], _, [], p, [], hW', ?_, ?_, ?_, bel.frame _, fun h => by cases h⟩
  · rw [List.append_nil, hfn, hrt, hsz]
    exact trodAll_mk1 (shut_bool htb _)
  · rw [List.append_nil, hfn]
    exact trodAll_stays hl bel hr hA
  · rw [List.append_nil, hfn, hvars]; rfl
end Go.Shade
/- CALL, part 11: the table of this seat's program. -/
namespace Go.Proofs.Ytdljmmdbpngchaa
open Go.Shade
set_option linter.unusedVariables false
theorem hm : Try.prog.follows .mixedOrders = true := by kernel_rfl
theorem lo26 : LoF Try.prog 26 callWithin := ⟨⟨Try.f26, Try.func26, by kernel_rfl⟩, by kernel_rfl⟩
theorem lo16 : LoF Try.prog 16 (callMay 26) := ⟨⟨Try.f16, Try.func16, by kernel_rfl⟩, by kernel_rfl⟩
theorem lo14 : LoF Try.prog 14 (callEncode 16) := ⟨⟨Try.f14, Try.func14, by kernel_rfl⟩, by kernel_rfl⟩
theorem lo20 : LoF Try.prog 20 callDecode1 := ⟨⟨Try.f20, Try.func20, by kernel_rfl⟩, by kernel_rfl⟩
theorem lo21 : LoF Try.prog 21 callDecode2 := ⟨⟨Try.f21, Try.func21, by kernel_rfl⟩, by kernel_rfl⟩
theorem lo22 : LoF Try.prog 22 callDecode3 := ⟨⟨Try.f22, Try.func22, by kernel_rfl⟩, by kernel_rfl⟩
theorem lo11 : LoF Try.prog 11 (callDecode 20 21 22) := ⟨⟨Try.f11, Try.func11, by kernel_rfl⟩, by kernel_rfl⟩
theorem lo12 : LoF Try.prog 12 veneerlaw08Same := ⟨⟨Try.f12, Try.func12, by kernel_rfl⟩, by kernel_rfl⟩
theorem lo18 : LoF Try.prog 18 (callScript 14) := ⟨⟨Try.f18, Try.func18, by kernel_rfl⟩, by kernel_rfl⟩
theorem lo10 : LoF Try.prog 10 (veneerlaw08Awake 14 11 18 16) := ⟨⟨Try.f10, Try.func10, by kernel_rfl⟩, by kernel_rfl⟩
theorem lo5 : LoF Try.prog 5 (veneerlaw08CallTotal 10 11 16) := ⟨⟨Try.f5, Try.func5, by kernel_rfl⟩, by kernel_rfl⟩
noncomputable def t1 : Table := ext T0 26 (tab WithinR)
noncomputable def t2 : Table := ext t1 16 (tab MayR)
noncomputable def t3 : Table := ext t2 14 (tab EncR)
noncomputable def t4 : Table := ext t3 20 (tab OneR)
noncomputable def t5 : Table := ext t4 21 (tab (TwoR 20))
noncomputable def t6 : Table := ext t5 22 (tab (TextR 20))
noncomputable def t7 : Table := ext t6 11 (tab DecR)
noncomputable def t8 : Table := ext t7 12 (tab SameR)
noncomputable def t9 : Table := ext t8 18 (tab ScriptR)
def AwakeR : RelT := fun args H x => args = [] ∧ x = (.bool true, H)
noncomputable def t10 : Table := ext t9 10 (tab AwakeR)
theorem s1 : SoundT Try.prog t1 := soundExt (soundT0 _) fun args H r H' h => simWithin (soundT0 _) hm rfl lo26 args H (r, H') (tab_some h)
theorem s2 : SoundT Try.prog t2 := soundExt s1 fun args H r H' h => simMay s1 hm rfl rfl lo16 args H (r, H') (tab_some h)
theorem s3 : SoundT Try.prog t3 := soundExt s2 fun args H r H' h => simEnc s2 hm rfl rfl lo14 args H (r, H') (tab_some h)
theorem s4 : SoundT Try.prog t4 := soundExt s3 fun args H r H' h => simOne s3 hm rfl lo20 args H (r, H') (tab_some h)
theorem s5 : SoundT Try.prog t5 := soundExt s4 fun args H r H' h => simTwo s4 hm lo20.2 rfl rfl lo21 args H (r, H') (tab_some h)
theorem s6 : SoundT Try.prog t6 := soundExt s5 fun args H r H' h => simText s5 hm lo20.2 rfl rfl lo22 args H (r, H') (tab_some h)
theorem s7 : SoundT Try.prog t7 := soundExt s6 fun args H r H' h => simDec s6 hm lo20.2 lo21.2 lo22.2 rfl rfl rfl rfl lo11 args H (r, H') (tab_some h)
theorem s8 : SoundT Try.prog t8 := soundExt s7 fun args H r H' h => simSame s7 hm rfl lo12 args H (r, H') (tab_some h)
theorem s9 : SoundT Try.prog t9 := soundExt s8 fun args H r H' h => simScript s8 hm rfl rfl lo18 args H (r, H') (tab_some h)
theorem simAwake : ∀ args H x, AwakeR args H x → SimCall Try.prog 10 args H x.1 x.2 := by
  rintro args H x ⟨rfl, rfl⟩
  obtain ⟨X, h⟩ := awake_s (cal := callable Try.prog) (N := 0) (okEnc (P := Try.prog) (T := t9) (f := 14) rfl) (okDec (f := 11) rfl) (okScript (f := 18) rfl) (okMay (f := 16) rfl) H
  exact (simOf s9 hm rfl lo10 0 (args := []) (Nat.le_of_ble_eq_true rfl) (by rw [veneerlaw08AwakeEq]; exact h)).drop (fun i o hi => by rw [List.getElem?_append_left (List.getElem?_eq_some_iff.1 hi).1]; exact hi) rfl
theorem s10 : SoundT Try.prog t10 := soundExt s9 fun args H r H' h => simAwake args H (r, H') (tab_some h)
theorem okAwake : AwakeOk (den Try.prog t10) 10 := fun H => den_tab (S := AwakeR) rfl (fun x y ⟨_, h⟩ ⟨_, k⟩ => by rw [h, k]) ⟨rfl, rfl⟩
end Go.Proofs.Ytdljmmdbpngchaa
/- CALL, part 12: arguments. -/
namespace Go.Shade
set_option linter.unusedVariables false
set_option linter.unusedSimpArgs false
theorem fit_u8 {H : Heap} {e : List IV} (h : Fits H [.int .u8] e) : ∃ x : UInt8, e = [.int .u8 (x.toNat : Int)] := by
  simp only [Fits, Fit] at h
  obtain ⟨v, r, rfl, ⟨n, rfl, hw⟩, rfl⟩ := h
  refine ⟨UInt8.ofNat n.toNat, ?_⟩
  have hmin : IntKind.u8.min = 0 := by decide
  have hmax : IntKind.u8.max = 255 := by decide
  have : 0 ≤ n ∧ n < 256 := by simp only [Lit.wf] at hw; simp [hmin, hmax] at hw; omega
  simp only [UInt8.toNat_ofNat', List.cons.injEq, IV.int.injEq, true_and, and_true]
  omega
theorem fit_rows {H : Heap} : ∀ {elems : List (List IV)}, (∀ e ∈ elems, Fits H [.int .u8] e) → ∃ bs : List UInt8, elems.flatten = bytes bs ∧ bs.length = elems.length
  | [], _ => ⟨[], rfl, rfl⟩
  | e :: es, h => by
    obtain ⟨x, rfl⟩ := fit_u8 (h e (by simp))
    obtain ⟨bs, h1, h2⟩ := fit_rows (elems := es) (fun e' he' => h e' (List.mem_cons_of_mem _ he'))
    exact ⟨x :: bs, by simp [h1, bytes], by simp [h2]⟩
theorem fit_bytes {H : Heap} {v : IV} (h : Fit H (.sl [.int .u8]) v) : ∃ bs, BS H v bs ∧ v.one = true ∧ low H.length v := by
  simp only [Fit] at h
  rcases h with rfl | ⟨b, n, elems, rfl, h2, h3, h4, h5⟩
  · exact ⟨[], .inl ⟨rfl, rfl⟩, rfl, fun _ _ _ _ _ _ e => by cases e⟩
  · obtain ⟨bs, k1, k2⟩ := fit_rows h5
    refine ⟨bs.take n, .inr ⟨b, 0, n, elems.length, true, 0, rfl, h3, .inl rfl, by simp; omega, fun _ => ⟨_, true, h2, fun i hi => ?_⟩⟩, rfl, lowAt (List.getElem?_eq_some_iff.1 h2).1⟩
    rw [k1]
    have : i < bs.length := by omega
    simp [bytes, this, hi, List.getD_eq_getElem?_getD]
end Go.Shade
/- CALL, part 17: arguments: calls, slices of calls. -/
namespace Go.Shade
set_option linter.unusedVariables false
set_option linter.unusedSimpArgs false
def callT : List CT := [.int .i64, .int .i64, .int .i64, .int .i64, .int .i64, .str, .str]
theorem fit_call {H : Heap} {e : List IV} (h : Fits H callT e) : ∃ c : Cl, e = c.cells ∧ c.a.length ≤ maxLen ∧ c.b.length ≤ maxLen := by
  simp only [callT, Fits, Fit] at h
  obtain ⟨_, _, rfl, ⟨n1, rfl, _⟩, _, _, rfl, ⟨n2, rfl, _⟩, _, _, rfl, ⟨n3, rfl, _⟩, _, _, rfl, ⟨n4, rfl, _⟩, _, _, rfl, ⟨n5, rfl, _⟩, _, _, rfl, ⟨s6, rfl, h6⟩, _, _, rfl, ⟨s7, rfl, h7⟩, rfl⟩ := h
  exact ⟨⟨n1, n2, n3, n4, n5, s6, s7⟩, rfl, h6, h7⟩
theorem fit_crows {H : Heap} : ∀ {elems : List (List IV)}, (∀ e ∈ elems, Fits H callT e) → ∃ l : List Cl, elems.flatten = flat7 l ∧ l.length = elems.length ∧ ∀ c ∈ l, c.a.length ≤ maxLen ∧ c.b.length ≤ maxLen
  | [], _ => ⟨[], rfl, rfl, fun _ h => by cases h⟩
  | e :: es, h => by
    obtain ⟨c, rfl, k1, k2⟩ := fit_call (h e (by simp))
    obtain ⟨l, h1, h2, h3⟩ := fit_crows (elems := es) (fun e' he' => h e' (List.mem_cons_of_mem _ he'))
    refine ⟨c :: l, by simp [h1, flat7], by simp [h2], fun d hd => ?_⟩
    rcases List.mem_cons.1 hd with rfl | hd
    · exact ⟨k1, k2⟩
    · exact h3 d hd
theorem fit_calls {H : Heap} {v : IV} (h : Fit H (.sl callT) v) : ∃ l, CS H v l ∧ v.one = true ∧ low H.length v ∧ ∀ c ∈ l, c.a.length ≤ maxLen ∧ c.b.length ≤ maxLen := by
  simp only [Fit] at h
  rcases h with rfl | ⟨b, n, elems, rfl, h2, h3, h4, h5⟩
  · exact ⟨[], .inl ⟨rfl, rfl⟩, rfl, (fun _ _ _ _ _ _ e => by cases e), (fun _ h => by cases h)⟩
  · obtain ⟨l, k1, k2, k3⟩ := fit_crows h5
    refine ⟨l.take n, .inr ⟨b, 0, n, elems.length, true, 0, rfl, h3, .inl rfl, by simp; omega, fun i c hi => ?_⟩, rfl, lowAt (List.getElem?_eq_some_iff.1 h2).1, fun c hc => k3 c (List.mem_of_mem_take hc)⟩
    rw [List.getElem?_take] at hi
    split at hi
    · have hlt := (List.getElem?_eq_some_iff.1 hi).1
      rw [lloadn_ptr, h2, ogn_row, k1, flat7_get l i c hi |> fun h => (by rw [Nat.zero_add]; exact h : ((flat7 l).drop (0 + i * 7)).take 7 = c.cells), if_pos (by rw [flat7_length]; omega)]
    · cases hi
end Go.Shade
/- CALL, part 14: there and back, without a program in sight. -/
namespace Go.Shade
set_option linter.unusedVariables false
set_option linter.unusedSimpArgs false
theorem ub_val {x : Int} (h1 : 0 ≤ x) (h2 : x < 256) : ((ub x).toNat : Int) = x := by
  simp only [ub, UInt8.toNat_ofNat']; omega
theorem ub_mod (x : Int) : ((ub x).toNat : Int) = x % 256 := by
  simp only [ub, UInt8.toNat_ofNat']; omega
theorem rdText_app (l rest : List UInt8) (h : l.length < 64) : rdText (ub l.length :: l ++ rest) = l ∧ TextN (ub l.length :: l ++ rest) = l.length + 1 := by
  have hn : (ub (l.length : Nat)).toNat = l.length := by have := ub_val (x := (l.length : Nat)) (by omega) (by omega); omega
  have h0 : (ub (l.length : Nat) :: l ++ rest).getD 0 0 = ub (l.length : Nat) := by simp
  constructor
  · unfold rdText
    rw [h0, hn, Nat.mod_eq_of_lt h]
    apply List.ext_getElem (by simp)
    intro i h1 h2
    simp [List.getD_eq_getElem?_getD, List.getElem?_append, h2]
  · unfold TextN
    rw [h0, hn, Nat.mod_eq_of_lt h]
theorem rd_enc {c : Cl} (h : c.may = true) (rest : List UInt8) : rdCl (c.enc ++ rest) = c ∧ (c.enc ++ rest).drop (rdN (c.enc ++ rest)) = rest := by
  obtain ⟨⟨m1, m2⟩, ⟨m3, m4⟩, ⟨m5, m6⟩, ⟨m7, m8⟩, ⟨m9, m10⟩, m11, m12⟩ := c.may_iff.1 h
  have he : c.enc ++ rest = [ub (c.op - 1), ub (c.fd + 4), ub c.fl, ub ((c.n + 256) / 256), ub (c.n + 256), ub ((c.off + 256) / 256), ub (c.off + 256)] ++ (ub c.a.length :: c.a ++ (ub c.b.length :: c.b ++ rest)) := by
    simp [Cl.enc, List.append_assoc]
  have e1 : rd1 (c.enc ++ rest) = ub c.a.length :: c.a ++ (ub c.b.length :: c.b ++ rest) := by rw [he]; rfl
  obtain ⟨t1, n1⟩ := rdText_app c.a (ub c.b.length :: c.b ++ rest) (by omega)
  have e2 : rd2 (c.enc ++ rest) = ub c.b.length :: c.b ++ rest := by
    unfold rd2
    rw [e1, n1]
    simp
  obtain ⟨t2, n2⟩ := rdText_app c.b rest (by omega)
  constructor
  · have b0 := ub_val (x := c.op - 1) (by omega) (by omega)
    have b1 := ub_val (x := c.fd + 4) (by omega) (by omega)
    have b2 := ub_val (x := c.fl) (by omega) (by omega)
    have b3 := ub_val (x := (c.n + 256) / 256) (by omega) (by omega)
    have b4 := ub_mod (c.n + 256)
    have b5 := ub_val (x := (c.off + 256) / 256) (by omega) (by omega)
    have b6 := ub_mod (c.off + 256)
    have g : ∀ i, (c.enc ++ rest).getD i 0 = ([ub (c.op - 1), ub (c.fd + 4), ub c.fl, ub ((c.n + 256) / 256), ub (c.n + 256), ub ((c.off + 256) / 256), ub (c.off + 256)] ++ (ub c.a.length :: c.a ++ (ub c.b.length :: c.b ++ rest))).getD i 0 := fun i => by rw [he]
    have g0 : (c.enc ++ rest).getD 0 0 = ub (c.op - 1) := by rw [g]; rfl
    have g1 : (c.enc ++ rest).getD 1 0 = ub (c.fd + 4) := by rw [g]; rfl
    have g2 : (c.enc ++ rest).getD 2 0 = ub c.fl := by rw [g]; rfl
    have g3 : (c.enc ++ rest).getD 3 0 = ub ((c.n + 256) / 256) := by rw [g]; rfl
    have g4 : (c.enc ++ rest).getD 4 0 = ub (c.n + 256) := by rw [g]; rfl
    have g5 : (c.enc ++ rest).getD 5 0 = ub ((c.off + 256) / 256) := by rw [g]; rfl
    have g6 : (c.enc ++ rest).getD 6 0 = ub (c.off + 256) := by rw [g]; rfl
    unfold rdCl
    rw [g0, g1, g2, g3, g4, g5, g6, e1, e2, t1, t2, b0, b1, b2, b3, b4, b5, b6]
    obtain ⟨op, fd, fl, n, off, a, b⟩ := c
    simp only [Cl.mk.injEq, and_true]
    simp only at *
    omega
  · unfold rdN
    rw [e1, e2, n1, n2]
    have hl : c.enc.length = 7 + (c.a.length + 1) + (c.b.length + 1) := by simp [Cl.enc]; omega
    rw [← hl, List.drop_left]
theorem enc_ne (c : Cl) : c.enc ≠ [] := by simp [Cl.enc]
/-- A script's bytes ahead of others are its calls. -/
theorem dec_encs : ∀ (l : List Cl) (k : Nat) (rest : List UInt8), l.all Cl.may = true → l.length ≤ k → dec k (encs l ++ rest) = l ++ dec (k - l.length) rest
  | [], k, rest, _, _ => by simp [encs]
  | c :: l, 0, rest, _, hk => by simp at hk
  | c :: l, k + 1, rest, h, hk => by
    simp only [List.all_cons, Bool.and_eq_true] at h
    obtain ⟨r1, r2⟩ := rd_enc h.1 (encs l ++ rest)
    have he : encs (c :: l) ++ rest = c.enc ++ (encs l ++ rest) := by simp [encs, List.append_assoc]
    have hne : c.enc ++ (encs l ++ rest) ≠ [] := by simp [enc_ne]
    rw [he, dec, if_neg hne, r1, r2, dec_encs l k rest h.2 (by simpa using hk)]
    simp
end Go.Shade
/- CALL, part 15: the laws 'CallBack', 'CallJoins', 'CallAhead', 'CallApart'. -/
namespace Go.Shade
set_option linter.unusedVariables false
set_option linter.unusedSimpArgs false
theorem BS.app {H : Heap} {v : IV} {bs : List UInt8} (h : BS H v bs) (X : Heap) : BS (H ++ X) v bs := h.keep (fun i o hi => by rw [List.getElem?_append_left (List.getElem?_eq_some_iff.1 hi).1]; exact hi)
theorem CS.app {H : Heap} {v : IV} {l : List Cl} (h : CS H v l) (X : Heap) : CS (H ++ X) v l := by
  rcases h with ⟨rfl, rfl⟩ | ⟨b, o', n, lb, ex, sz, rfl, h1, h2, h3, h4⟩
  · exact .inl ⟨rfl, rfl⟩
  · refine .inr ⟨b, o', n, lb, ex, sz, rfl, h1, h2, h3, fun i c hi => ?_⟩
    have hx := h4 i c hi
    have hb : b < H.length := by
      rcases Nat.lt_or_ge b H.length with h | h
      · exact h
      · rw [lloadn_ptr, List.getElem?_eq_none h] at hx; cases hx
    rw [lloadn_keep (List.getElem?_append_left hb)]; exact hx
theorem low.app {H : Heap} {v : IV} (h : low H.length v) (X : Heap) : low (H ++ X).length v := low_mono h (by simp)
theorem lowNil {B : Nat} : low B .nilSlice := fun _ _ _ _ _ _ e => by cases e
theorem dec_ex {φ : Oracle} {d : FuncId} (hd : DecOk φ d) {H : Heap} {v : IV} {bs : List UInt8} (hv : v.one = true) (hl : low H.length v) (hb : BS H v bs) :
    ∃ v' X, φ d [v] H = some (v', H ++ X) ∧ CS (H ++ X) v' (dec 200 bs) ∧ low (H ++ X).length v' := by
  by_cases h0 : dec 200 bs = []
  · exact ⟨.nilSlice, [], by rw [hd H v bs hv hl hb, if_pos h0, List.append_nil], by rw [h0]; exact .inl ⟨rfl, rfl⟩, lowNil⟩
  · refine ⟨_, _, by rw [hd H v bs hv hl hb, if_neg h0], ?_, lowAt (by simp)⟩
    exact Buf.calls (B := 0) (.inr ⟨_, _, false, rfl, by omega, by simp, by rw [flat7_length]⟩)
theorem scr_ex {φ : Oracle} {s : FuncId} (hs : ScriptOk φ s) {H : Heap} {v : IV} {l : List Cl} (hl : low H.length v) (hc : CS H v l) (ho : okScr l = true) :
    ∃ v' X, φ s [v] H = some (.tuple [v', .int .i64 0], H ++ X) ∧ BS (H ++ X) v' (encs l) ∧ low (H ++ X).length v' ∧ v'.one = true := by
  by_cases h0 : l = []
  · subst h0
    exact ⟨.nilSlice, [], by rw [hs H v [] hl hc, scrX, if_pos ho, if_pos rfl, List.append_nil], .inl ⟨rfl, rfl⟩, lowNil, rfl⟩
  · refine ⟨_, _, by rw [hs H v l hl hc, scrX, if_pos ho, if_neg h0], ?_, lowAt (by simp), rfl⟩
    exact ownBS (by simp)
theorem scr_no {φ : Oracle} {s : FuncId} (hs : ScriptOk φ s) {H : Heap} {v : IV} {l : List Cl} (hl : low H.length v) (hc : CS H v l) (ho : okScr l = false) : φ s [v] H = some (.tuple [.nilSlice, .int .i64 22], H) := by
  rw [hs H v l hl hc, scrX, ho]; rfl
theorem okScr_len {l : List Cl} (h : okScr l = true) : l.length ≤ 200 ∧ l.all Cl.may = true := by
  unfold okScr at h; simpa using h
theorem dec_back {l : List Cl} (h : okScr l = true) : dec 200 (encs l) = l := by
  obtain ⟨h1, h2⟩ := okScr_len h
  have := dec_encs l 200 [] h2 h1
  have e : ∀ k, dec k [] = [] := fun k => by cases k <;> rfl
  simpa [e] using this
theorem okScr_dec (bs : List UInt8) : okScr (dec 200 bs) = true := by
  unfold okScr; rw [decide_eq_true (dec_len 200 bs), dec_may]; rfl
theorem dself {α : Type} [DecidableEq α] (a : α) : decide (a = a) = true := decide_eq_true rfl
theorem back_l {cal : FuncId → Bool} {φ : Oracle} {N : Nat} {aw s d m : FuncId} (ha : AwakeOk φ aw) (hs : ScriptOk φ s) (hd : DecOk φ d) (hm : SameOk φ m) {H : Heap} {v0 v1 : IV} {l : List Cl} {bs : List UInt8} (hl0 : low H.length v0) (hc0 : CS H v0 l) (hv1 : v1.one = true) (hl1 : low H.length v1) (hb1 : BS H v1 bs) :
    ∃ H', veneerlaw08CallBackS cal φ N aw s d m v0 v1 H = some (.bool true, H') := by
  unfold veneerlaw08CallBackS
  rw [ha, ob_some]
  simp only
  rw [iun_not, ob_some, Bool.not_true, cnd_false, hc0.len, ob_some, lbin_gtr, ob_some]
  cases hbig : decide ((300 : Int) < (l.length : Nat))
  · simp only [isB_ff, gq_true, ob_some, hb1.len, lbin_gtr]
    rw [lpick_false, ob_some]
    cases hbig2 : decide ((65536 : Int) < (bs.length : Nat))
    · rw [cnd_false]
      have tail : ∀ (K : Heap), low K.length v1 → BS K v1 bs → ∃ H', (ob (φ d [v1] K) fun r19 =>
          ob (φ s [r19.1] r19.2) fun r20 =>
          ob (iextract r20.1 0) fun t21 =>
          ob (iextract r20.1 1) fun t22 =>
          ob (lbin .eql t22 (.int .i64 0)) fun t23 =>
          ob (gq (isB t23 true) (some t21)) fun t24 =>
          ob (ge (isB t23 true) r20.2 (φ d [t24] r20.2)) fun r25 =>
          ob (gq (isB t23 true) (some r19.1)) fun t26 =>
          ob (ge (isB t23 true) r25.2 (φ m [r25.1, t26] r25.2)) fun r27 =>
          ob (lpick t23 r27.1 (.bool false)) fun t28 =>
          some (t28, r27.2)) = some (.bool true, H') := by
        intro K kl kb
        obtain ⟨w1, X1, a1, b1, c1⟩ := dec_ex hd hv1 kl kb
        obtain ⟨w2, X2, a2, b2, c2, d2⟩ := scr_ex hs c1 b1 (okScr_dec bs)
        obtain ⟨w3, X3, a3, b3, c3⟩ := dec_ex hd d2 c2 b2
        rw [dec_back (okScr_dec bs)] at b3
        rw [a1, ob_some]
        simp only
        rw [a2, ob_some]
        simp only
        rw [iextract_tuple, iextract_tuple]
        simp only [List.getElem?_cons_zero, List.getElem?_cons_succ, ob_some, lbin_eql, decide_true, isB_tt, gq_true, ge_true, a3]
        have hlen := dec_len 200 bs
        rw [hm _ _ _ _ _ b3 ((b1.app X2).app X3) (by omega), ob_some]
        simp only [decide_true, lpick_true, ob_some]
        exact ⟨_, rfl⟩
      cases hok : okScr l with
      | true =>
        obtain ⟨w2, X2, a2, b2, c2, d2⟩ := scr_ex hs hl0 hc0 hok
        obtain ⟨w3, X3, a3, b3, c3⟩ := dec_ex hd d2 c2 b2
        rw [dec_back hok] at b3
        have hlen := (okScr_len hok).1
        rw [a2, ob_some]
        simp only
        rw [iextract_tuple, iextract_tuple]
        simp only [List.getElem?_cons_zero, List.getElem?_cons_succ, ob_some, lbin_eql, decide_true, isB_tt, gq_true, ge_true, a3]
        rw [hm _ _ _ _ _ b3 ((hc0.app X2).app X3) (by omega), ob_some]
        simp only [decide_true, iun_not, Bool.not_true, ob_some, lpick_true, cnd_false]
        exact tail _ ((hl1.app X2).app X3) ((hb1.app X2).app X3)
      | false =>
        rw [scr_no hs hl0 hc0 hok, ob_some]
        simp only
        rw [iextract_tuple, iextract_tuple]
        have h22 : decide ((22 : Int) = 0) = false := rfl
        simp only [List.getElem?_cons_zero, List.getElem?_cons_succ, ob_some, lbin_eql, h22, isB_ft, gq_false, ge_false, lpick_false, cnd_false]
        exact tail _ hl1 hb1
    · rw [cnd_true]; exact ⟨_, rfl⟩
  · simp only [isB_tf, gq_false, ob_some, lpick_true, cnd_true]
    exact ⟨_, rfl⟩
end Go.Shade
/- CALL, part 16: slices that came in, appended; 'CallJoins'. -/
namespace Go.Shade
set_option linter.unusedVariables false
set_option linter.unusedSimpArgs false
theorem BS.cells {H : Heap} {v : IV} {l : List UInt8} (h : BS H v l) : xlen v = some l.length ∧ lxcells H 1 v l.length = some (bytes l) := by
  rcases h with ⟨rfl, rfl⟩ | ⟨b, o, n, lb, ex, sz, rfl, h1, h2, h3, h4⟩
  · exact ⟨rfl, rfl⟩
  · subst h3
    refine ⟨rfl, ?_⟩
    show lsl H 1 (.slice b o l.length lb ex sz) l.length = some (bytes l)
    simp only [lsl, Nat.le_refl, if_true]
    by_cases h0 : l.length = 0
    · rw [if_pos h0, List.length_eq_zero_iff.1 h0]; rfl
    · rw [if_neg h0]
      obtain ⟨cells, ro, g1, g2⟩ := h4 (by omega)
      have hlast := g2 (l.length - 1) (by omega)
      have hlen := (List.getElem?_eq_some_iff.1 hlast).1
      simp only [irow, g1, Nat.mul_one]
      rw [if_pos (by omega)]
      congr 1
      apply List.ext_getElem?
      intro i
      by_cases hi : i < l.length
      · rw [List.getElem?_take, if_pos hi, List.getElem?_drop, g2 i hi]
        simp [bytes, hi, List.getD_eq_getElem?_getD]
      · rw [List.getElem?_eq_none (by simp; omega), List.getElem?_eq_none (by simp [bytes]; omega)]
theorem app_bs {B : Nat} {H : Heap} {v x : IV} {acc bs : List UInt8} (h : Buf B 1 H v (bytes acc)) (hB : B ≤ H.length) (hx : BS H x bs) (hb : acc.length + bs.length ≤ 140737488355328) : ∃ v' H', lapp H 1 1 v x = some (v', H') ∧ Buf B 1 H' v' (bytes (acc ++ bs)) ∧ Keep B H H' := by
  obtain ⟨e1, e2⟩ := hx.cells
  rw [bytes_append]
  exact app_buf h hB (by omega) e1 e2 (by simp [bytes_length]) (bytes_one _) (by simp [bytes_length]; omega)
theorem row7 {cells : List IV} : ∀ {l : List Cl} {o : Nat}, (∀ i c, l[i]? = some c → o + i * 7 + 7 ≤ cells.length ∧ (cells.drop (o + i * 7)).take 7 = c.cells) → (cells.drop o).take (l.length * 7) = flat7 l
  | [], o, _ => by simp [flat7]
  | c :: l, o, h => by
    obtain ⟨h1, h2⟩ := h 0 c rfl
    have ih := row7 (cells := cells) (l := l) (o := o + 7) (fun i d hd => by
      have := h (i + 1) d (by simpa using hd)
      rw [show o + 7 + i * 7 = o + (i + 1) * 7 by omega]; exact this)
    simp only [Nat.zero_mul, Nat.add_zero] at h1 h2
    have hl : (c :: l).length * 7 = 7 + l.length * 7 := by simp; omega
    rw [hl, List.take_add, h2, List.drop_drop, ih]
    simp [flat7]
theorem CS.cells {H : Heap} {v : IV} {l : List Cl} (h : CS H v l) : xlen v = some l.length ∧ lxcells H 7 v l.length = some (flat7 l) := by
  rcases h with ⟨rfl, rfl⟩ | ⟨b, o, n, lb, ex, sz, rfl, h1, h2, h3, h4⟩
  · exact ⟨rfl, rfl⟩
  · subst h3
    refine ⟨rfl, ?_⟩
    show lsl H 7 (.slice b o l.length lb ex sz) l.length = some (flat7 l)
    simp only [lsl, Nat.le_refl, if_true]
    by_cases h0 : l.length = 0
    · rw [if_pos h0, List.length_eq_zero_iff.1 h0]; rfl
    · rw [if_neg h0]
      have hx := h4 (l.length - 1) _ (List.getElem?_eq_getElem (by omega))
      rw [lloadn_ptr] at hx
      unfold ogn at hx
      split at hx
      · rename_i cells ro hrow
        have hrow' : H[b]? = some (.row cells ro) := hrow
        split at hx
        · rename_i hle
          simp only [irow, hrow']
          rw [if_pos (by omega)]
          congr 1
          refine row7 fun i c hi => ?_
          have hi' := h4 i c hi
          rw [lloadn_ptr, hrow', ogn_row] at hi'
          split at hi'
          · rename_i hle'
            refine ⟨by omega, ?_⟩
            simpa using hi'
          · cases hi'
        · cases hx
      · cases hx
theorem flat7_one (l : List Cl) : (flat7 l).all IV.one = true := by
  induction l with
  | nil => rfl
  | cons c l ih => simp only [flat7, List.map_cons, List.flatten_cons, List.all_append] at ih ⊢; rw [ih]; rfl
theorem app_cs {B : Nat} {H : Heap} {v x : IV} {acc l : List Cl} (h : Buf B 7 H v (flat7 acc)) (hB : B ≤ H.length) (hx : CS H x l) (hb : (acc.length + l.length) * 504 ≤ 140737488355328) : ∃ v' H', lapp H 7 72 v x = some (v', H') ∧ Buf B 7 H' v' (flat7 (acc ++ l)) ∧ Keep B H H' := by
  obtain ⟨e1, e2⟩ := hx.cells
  rw [flat7_append]
  exact app_buf h hB (by omega) e1 e2 (flat7_length l) (flat7_one l) (by simp only [flat7_length]; omega)
theorem BS.keep' {B : Nat} {H H' : Heap} {v : IV} {bs : List UInt8} (h : BS H v bs) (hl : low B v) (k : Keep B H H') : BS H' v bs := h.keepB hl k.1
theorem CS.keep' {B : Nat} {H H' : Heap} {v : IV} {l : List Cl} (h : CS H v l) (hl : low B v) (k : Keep B H H') : CS H' v l := h.keepB hl k.1
theorem Buf.bs {B : Nat} {H : Heap} {v : IV} {bs : List UInt8} (h : Buf B 1 H v (bytes bs)) : BS H v bs ∧ v.one = true ∧ low H.length v := by
  rcases h with ⟨rfl, e⟩ | ⟨r, n, ex, rfl, g1, g2, g3⟩
  · have : bs = [] := by cases bs <;> simp [bytes] at e ⊢
    subst this; exact ⟨.inl ⟨rfl, rfl⟩, rfl, lowNil⟩
  · rw [bytes_length, Nat.mul_one] at g3
    subst g3
    exact ⟨ownBS g2, rfl, lowAt (List.getElem?_eq_some_iff.1 g2).1⟩
theorem Buf.low {B s : Nat} {H : Heap} {v : IV} {cs : List IV} (h : Buf B s H v cs) : Shade.low H.length v := by
  rcases h with ⟨rfl, e⟩ | ⟨r, n, ex, rfl, g1, g2, g3⟩
  · exact lowNil
  · exact lowAt (List.getElem?_eq_some_iff.1 g2).1
theorem joins_l {cal : FuncId → Bool} {φ : Oracle} {N : Nat} {aw s d m : FuncId} (ha : AwakeOk φ aw) (hs : ScriptOk φ s) (hd : DecOk φ d) (hm : SameOk φ m) {H : Heap} {v0 v1 : IV} {l0 l1 : List Cl} (hl0 : low H.length v0) (hc0 : CS H v0 l0) (hl1 : low H.length v1) (hc1 : CS H v1 l1) :
    ∃ H', veneerlaw08CallJoinsS cal φ N aw s d m v0 v1 H = some (.bool true, H') := by
  unfold veneerlaw08CallJoinsS
  rw [ha, ob_some]
  simp only
  rw [iun_not, ob_some, Bool.not_true, cnd_false, hc0.len, ob_some, lbin_gtr, ob_some]
  cases hb0 : decide ((100 : Int) < (l0.length : Nat))
  · simp only [isB_ff, gq_true, ob_some, hc1.len, lbin_gtr]
    rw [lpick_false, ob_some]
    cases hb1 : decide ((100 : Int) < (l1.length : Nat))
    · rw [cnd_false]
      have n0 : l0.length ≤ 100 := by have := of_decide_eq_false hb0; omega
      have n1 : l1.length ≤ 100 := by have := of_decide_eq_false hb1; omega
      have h22 : decide ((22 : Int) = 0) = false := rfl
      cases ho0 : okScr l0 with
      | false =>
        rw [scr_no hs hl0 hc0 ho0, ob_some]
        simp only
        rw [iextract_tuple, iextract_tuple]
        simp only [List.getElem?_cons_zero, List.getElem?_cons_succ, ob_some]
        cases ho1 : okScr l1 with
        | false =>
          rw [scr_no hs hl1 hc1 ho1, ob_some]
          simp only
          rw [iextract_tuple, iextract_tuple]
          simp only [List.getElem?_cons_zero, List.getElem?_cons_succ, ob_some, lbin_neq, h22, Bool.not_false, isB_tf, gq_false, lpick_true, cnd_true]
          exact ⟨_, rfl⟩
        | true =>
          obtain ⟨w1, X1, a1, _⟩ := scr_ex hs hl1 hc1 ho1
          rw [a1, ob_some]
          simp only
          rw [iextract_tuple, iextract_tuple]
          simp only [List.getElem?_cons_zero, List.getElem?_cons_succ, ob_some, lbin_neq, h22, Bool.not_false, isB_tf, gq_false, lpick_true, cnd_true]
          exact ⟨_, rfl⟩
      | true =>
        obtain ⟨w0, X0, a0, b0, c0, d0⟩ := scr_ex hs hl0 hc0 ho0
        rw [a0, ob_some]
        simp only
        rw [iextract_tuple, iextract_tuple]
        simp only [List.getElem?_cons_zero, List.getElem?_cons_succ, ob_some]
        cases ho1 : okScr l1 with
        | false =>
          rw [scr_no hs (hl1.app X0) (hc1.app X0) ho1, ob_some]
          simp only
          rw [iextract_tuple, iextract_tuple]
          simp only [List.getElem?_cons_zero, List.getElem?_cons_succ, ob_some, lbin_neq, h22, decide_true, Bool.not_false, Bool.not_true, isB_ff, gq_true, lpick_false, cnd_true]
          exact ⟨_, rfl⟩
        | true =>
          obtain ⟨w1, X1, a1, b1, c1, d1⟩ := scr_ex hs (hl1.app X0) (hc1.app X0) ho1
          rw [a1, ob_some]
          simp only
          rw [iextract_tuple, iextract_tuple]
          simp only [List.getElem?_cons_zero, List.getElem?_cons_succ, ob_some, lbin_neq, decide_true, Bool.not_true, isB_ff, gq_true, lpick_false, cnd_false]
          have b0' := b0.app X1
          have c0' := c0.app X1
          have k0 := (hc0.app X0).app X1
          have k1 := (hc1.app X0).app X1
          have j0 := (hl0.app X0).app X1
          have j1 := (hl1.app X0).app X1
          generalize H ++ X0 ++ X1 = K at *
          have z : lbldS K 1 0 [(.int .u8 0)] [] = some (.slice K.length 0 0 0 true 1, K ++ [.row [] false]) := rfl
          rw [z, ob_some]
          simp only
          have bf0 : Buf K.length 1 (K ++ [.row [] false]) (.slice K.length 0 0 0 true 1) (bytes []) := .inr ⟨_, 0, true, rfl, Nat.le_refl _, by simp [bytes], rfl⟩
          have le0 := fun (c : Cl) (h : c.may = true) => enc_len h
          have es : ∀ (l : List Cl), l.all Cl.may = true → l.length ≤ 100 → (encs l).length ≤ 13500 := by
            intro l hm hlen
            have : (encs l).length ≤ 135 * l.length := by
              clear hlen
              induction l with
              | nil => simp [encs]
              | cons c l ih =>
                simp only [List.all_cons, Bool.and_eq_true] at hm
                have i1 := ih hm.2
                have i2 := enc_len hm.1
                simp only [encs, List.map_cons, List.flatten_cons, List.length_append, List.length_cons] at i1 ⊢
                omega
            omega
          obtain ⟨q0, m0⟩ := okScr_len ho0
          obtain ⟨q1, m1⟩ := okScr_len ho1
          have e0 := es l0 m0 n0
          have e1 := es l1 m1 n1
          obtain ⟨u1, K1, f1, g1, i1⟩ := app_bs bf0 (by simp) (b0'.app [IObj.row [] false]) (by simp; omega)
          rw [f1, ob_some]
          simp only
          have K1l : K.length ≤ K1.length := by have := i1.2; simp at this; omega
          have kk1 : Keep K.length K K1 := (Keep.push K [IObj.row [] false] (Nat.le_refl _)).trans i1
          obtain ⟨u2, K2, f2, g2, i2⟩ := app_bs g1 K1l (b1.keep' c1 kk1) (by simp; omega)
          rw [f2, ob_some]
          simp only
          have kk2 := kk1.trans i2
          obtain ⟨p1, p2, p3⟩ := g2.bs
          obtain ⟨w5, X5, a5, b5, c5⟩ := dec_ex hd p2 p3 p1
          have hdec : dec 200 ([] ++ encs l0 ++ encs l1) = l0 ++ l1 := by
            rw [List.nil_append, dec_encs l0 200 _ m0 (by omega)]
            have := dec_encs l1 (200 - l0.length) [] m1 (by omega)
            have e : ∀ k, dec k [] = [] := fun k => by cases k <;> rfl
            rw [List.append_nil, e, List.append_nil] at this
            rw [this]
          rw [hdec] at b5
          rw [a5, ob_some]
          simp only
          have kk3 : Keep K.length K (K2 ++ X5) := kk2.trans (Keep.push K2 X5 (by have := kk2.2; omega))
          have hz2 : lbldS (K2 ++ X5) 7 0 [(.int .i64 0), (.int .i64 0), (.int .i64 0), (.int .i64 0), (.int .i64 0), (.str []), (.str [])] [] = some (.slice (K2 ++ X5).length 0 0 0 true 7, (K2 ++ X5) ++ [.row [] false]) := rfl
          rw [hz2, ob_some]
          simp only
          generalize hK3 : K2 ++ X5 = K3 at *
          have bf3 : Buf K3.length 7 (K3 ++ [.row [] false]) (.slice K3.length 0 0 0 true 7) (flat7 []) := .inr ⟨_, 0, true, rfl, Nat.le_refl _, by simp [flat7], rfl⟩
          have j0' : low K3.length v0 := low_mono j0 kk3.2
          have j1' : low K3.length v1 := low_mono j1 kk3.2
          have k0' : CS K3 v0 l0 := k0.keep' j0 kk3
          have k1' : CS K3 v1 l1 := k1.keep' j1 kk3
          obtain ⟨u6, K6, f6, g6, i6⟩ := app_cs bf3 (by simp) (k0'.app [IObj.row [] false]) (by simp; omega)
          rw [f6, ob_some]
          simp only
          have kk6 : Keep K3.length K3 K6 := (Keep.push K3 [IObj.row [] false] (Nat.le_refl _)).trans i6
          obtain ⟨u7, K7, f7, g7, i7⟩ := app_cs g6 (by have := kk6.2; omega) (k1'.keep' j1' kk6) (by simp; omega)
          rw [f7, ob_some]
          simp only
          have kk7 := kk6.trans i7
          rw [List.nil_append] at g7
          rw [hm _ _ _ _ _ (b5.keep' c5 kk7) g7.calls (by simp; omega), ob_some]
          simp only [decide_true]
          exact ⟨_, rfl⟩
    · rw [cnd_true]; exact ⟨_, rfl⟩
  · simp only [isB_tf, gq_false, ob_some, lpick_true, cnd_true]
    exact ⟨_, rfl⟩
end Go.Shade
