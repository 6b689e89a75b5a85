/- CALL, part 7: scripts. -/
import Derived.Test.YtdljmmdbpngchaaCallSl
namespace Go.Shade
set_option linter.unusedVariables false
set_option linter.unusedSimpArgs false

def EncOk (φ : Oracle) (f : FuncId) : Prop := ∀ (c : Cl) (H : Heap), φ f [.agg c.cells] H = if c.may = true then some (.tuple [.slice H.length 0 c.enc.length c.enc.length false 1, .int .i64 0], H ++ [.row (bytes c.enc) false]) else some (.tuple [.nilSlice, .int .i64 22], H)
theorem enc_len {c : Cl} (h : c.may = true) : c.enc.length ≤ 135 := by
  obtain ⟨_, _, _, _, _, m11, m12⟩ := c.may_iff.1 h
  simp only [Cl.enc, List.length_append, List.length_cons, List.length_nil]
  omega
def encs (l : List Cl) : List UInt8 := (l.map Cl.enc).flatten
theorem script_loop {cal : FuncId → Bool} {φ : Oracle} {N : Nat} {f : FuncId} (he : EncOk φ f) {gE0 : IV → Heap → Option (IV × Heap)} {B : Nat} {v : IV} {l : List Cl} (hl : low B v) (hl200 : l.length ≤ 200) : ∀ (k i n : Nat) (H : Heap) (v4 : IV) (acc : List UInt8), i + k = l.length → k < n → B ≤ H.length → CS H v l → Buf B 1 H v4 (bytes acc) → acc.length ≤ 135 * i →
    ∃ v4' H', callScriptC0S cal φ N f gE0 n v4 v (.int .i64 (l.length : Nat)) (.int .i64 (i : Nat)) H = (if (l.drop i).all Cl.may = true then gE0 v4' H' else some (.tuple [.nilSlice, .int .i64 22], H')) ∧ Keep B H H' ∧ ((l.drop i).all Cl.may = true → Buf B 1 H' v4' (bytes (acc ++ encs (l.drop i)))) ∧ (l.drop i = [] → v4' = v4) := by
  intro k
  induction k with
  | zero =>
    intro i n H v4 acc hi hn hB hc hv hacc
    obtain ⟨n, rfl⟩ : ∃ m, n = m + 1 := ⟨n - 1, by omega⟩
    have hd : decide (((i : Nat) : Int) < (l.length : Nat)) = false := decide_eq_false (by omega)
    have hdr : l.drop i = [] := List.drop_of_length_le (by omega)
    refine ⟨v4, H, ?_, Keep.refl _ _, (fun _ => by rw [hdr]; simpa [encs] using hv), fun _ => rfl⟩
    rw [callScriptC0S, lbin_lss, ob_some, hd, cnd_false, hdr]; rfl
  | succ k ih =>
    intro i n H v4 acc hi hn hB hc hv hacc
    obtain ⟨n, rfl⟩ : ∃ m, n = m + 1 := ⟨n - 1, by omega⟩
    have hd : decide (((i : Nat) : Int) < (l.length : Nat)) = true := decide_eq_true (by omega)
    have e1 := List.getElem?_eq_getElem (l := l) (i := i) (by omega)
    obtain ⟨b1, o1, x1, y1⟩ := hc.at e1
    have d1 : l.drop i = l[i] :: l.drop (i + 1) := List.drop_eq_getElem_cons (by omega)
    generalize l[i] = c at e1 y1 d1
    rw [callScriptC0S, lbin_lss, ob_some, hd, cnd_true, x1, ob_some, y1, ob_some, lzbox_eq, ob_some]
    simp only
    have hz : (H ++ [IObj.row (IV.cells (.agg [(.int .i64 0), (.int .i64 0), (.int .i64 0), (.int .i64 0), (.int .i64 0), (.str []), (.str [])])) false])[H.length]? = some (.row [(.int .i64 0), (.int .i64 0), (.int .i64 0), (.int .i64 0), (.int .i64 0), (.str []), (.str [])] false) := by rw [at_new]; rfl
    rw [lstV_ptr, hz, putO_all (n := 7) (xs := c.cells) (show c.cells.all IV.one = true from rfl) (show c.cells.length = 7 from rfl) (by simp), ob_some, ob_some]
    simp only
    have hset : (H ++ [IObj.row (IV.cells (.agg [(.int .i64 0), (.int .i64 0), (.int .i64 0), (.int .i64 0), (.int .i64 0), (.str []), (.str [])])) false]).set H.length (.row c.cells false) = H ++ [.row c.cells false] := by rw [set_new]; rfl
    rw [hset]
    have hld : lloadn (H ++ [IObj.row c.cells false]) 7 (.ptr H.length 0) = some (.agg c.cells) := by rw [lloadn_ptr, at_new]; rfl
    rw [hld, ob_some, he]
    by_cases hm : c.may = true
    · rw [if_pos hm, ob_some]
      simp only
      rw [iextract_tuple, iextract_tuple]
      simp only [List.getElem?_cons_zero, List.getElem?_cons_succ, ob_some, lbin_neq, decide_true, Bool.not_true, cnd_false]
      generalize hK : H ++ [IObj.row c.cells false] = K
      have hKlen : K.length = H.length + 1 := by rw [← hK]; simp
      have hKi : ∀ i, i < H.length → K[i]? = H[i]? := fun i hi => by rw [← hK, List.getElem?_append_left hi]
      have hv' : Buf B 1 (K ++ [.row (bytes c.enc) false]) v4 (bytes acc) := by
        rcases hv with h | ⟨r, m, ex, e, g1, g2, g3⟩
        · exact .inl h
        · refine .inr ⟨r, m, ex, e, g1, ?_, g3⟩
          have hr := (List.getElem?_eq_some_iff.1 g2).1
          rw [List.getElem?_append_left (by omega), hKi r hr]; exact g2
      have hx : Buf 0 1 (K ++ [.row (bytes c.enc) false]) (.slice K.length 0 c.enc.length c.enc.length false 1) (bytes c.enc) := .inr ⟨_, _, false, rfl, by omega, by simp, by simp [bytes_length]⟩
      have hel := enc_len hm
      obtain ⟨v7, H7, a7, b7, k7⟩ := app_own (b := 1) hv' (by simp; omega) (by omega) hx (bytes_one _) (by rw [bytes_length, bytes_length]; omega)
      rw [a7, ob_some, lbin_add, ob_some, wrap_i64 (by omega) (by omega)]
      rw [← bytes_append] at b7
      have h7i : ∀ i, i < B → H7[i]? = H[i]? := fun i hi => by rw [k7.1 i hi, List.getElem?_append_left (by omega), hKi i (by omega)]
      have h7len : H.length ≤ H7.length := by have := k7.2; simp at this; omega
      obtain ⟨v8, H8, a8, k8, b8, _⟩ := ih (i + 1) n H7 v7 (acc ++ c.enc) (by omega) (by omega) (by omega) (hc.keepB hl h7i) b7 (by simp; omega)
      refine ⟨v8, H8, ?_, ⟨fun i hi => by rw [k8.1 i hi, h7i i hi], Nat.le_trans h7len k8.2⟩, fun hall => ?_, fun e => by rw [d1] at e; cases e⟩
      · rw [show (((i : Nat) : Int) + 1) = ((i + 1 : Nat) : Int) by omega, a8, d1]
        simp only [List.all_cons, hm, Bool.true_and]
      · rw [d1] at hall ⊢
        simp only [List.all_cons, hm, Bool.true_and] at hall
        have := b8 hall
        simpa [encs, List.append_assoc] using this
    · rw [if_neg hm, ob_some]
      simp only
      rw [iextract_tuple, iextract_tuple]
      have h22 : decide ((22 : Int) = 0) = false := rfl
      simp only [List.getElem?_cons_zero, List.getElem?_cons_succ, ob_some, lbin_neq, h22, Bool.not_false, cnd_true]
      have hf : (l.drop i).all Cl.may = false := by
        rw [d1, List.all_cons]
        cases hcm : c.may with
        | true => exact absurd hcm hm
        | false => rfl
      refine ⟨v4, H ++ [IObj.row c.cells false], ?_, Keep.push _ _ hB, fun hall => ?_, fun _ => rfl⟩
      · rw [hf]; rfl
      · rw [hf] at hall; cases hall
def okScr (l : List Cl) : Bool := decide (l.length ≤ 200) && l.all Cl.may
theorem script_s {cal : FuncId → Bool} {φ : Oracle} {N : Nat} {f : FuncId} (he : EncOk φ f) (hN : 200 < N) {H : Heap} {v : IV} {l : List Cl} (hl : low H.length v) (hc : CS H v l) :
    ∃ v' H', callScriptS cal φ N f v H = (if okScr l = true then some (.tuple [v', .int .i64 0], H') else some (.tuple [.nilSlice, .int .i64 22], H')) ∧ Keep H.length H H' ∧ (okScr l = true → Buf H.length 1 H' v' (bytes (encs l))) ∧ (l = [] → v' = .nilSlice) := by
  unfold callScriptS callScriptC6S callScriptC5S callScriptC4S callScriptC3S callScriptC2S callScriptC1S
  rw [hc.len, ob_some, lbin_gtr, ob_some]
  by_cases h200 : l.length ≤ 200
  · have : decide ((200 : Int) < (l.length : Nat)) = false := decide_eq_false (by omega)
    rw [this, cnd_false, ob_some]
    obtain ⟨v4, H4, a, k, b, n4⟩ := script_loop (cal := cal) (φ := φ) (N := N) he (gE0 := fun v4 H => some ((.tuple [v4, (.int .i64 0)]), H)) hl h200 l.length 0 N H .nilSlice [] (by omega) (by omega) (Nat.le_refl _) hc (.inl ⟨rfl, rfl⟩) (by simp)
    have hok : okScr l = l.all Cl.may := by unfold okScr; rw [decide_eq_true h200, Bool.true_and]
    rw [hok]
    exact ⟨v4, H4, by simpa using a, k, by simpa using b, by simpa using n4⟩
  · have : decide ((200 : Int) < (l.length : Nat)) = true := decide_eq_true (by omega)
    have hok : okScr l = false := by unfold okScr; rw [decide_eq_false h200]; rfl
    rw [this, cnd_true, hok]
    exact ⟨.nilSlice, H, rfl, Keep.refl _ _, (fun h => by cases h), fun _ => rfl⟩
end Go.Shade
