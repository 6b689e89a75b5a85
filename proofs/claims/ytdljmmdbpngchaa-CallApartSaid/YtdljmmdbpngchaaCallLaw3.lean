/- CALL, part 16: slices that came in, appended; 'CallJoins'. -/
import Derived.Test.YtdljmmdbpngchaaCallLaw2
namespace Go.Shade
set_option linter.unusedVariables false
set_option linter.unusedSimpArgs false
theorem BS.cells {H : Heap} {v : IV} {l : List UInt8} (h : BS H v l) : xlen v = some l.length ∧ lxcells H 1 v l.length = some (bytes l) := by
  rcases h with ⟨rfl, rfl⟩ | ⟨b, o, n, lb, ex, sz, rfl, h1, h2, h3, h4⟩
  · exact ⟨rfl, rfl⟩
  · subst h3
    refine ⟨rfl, ?_⟩
    show lsl H 1 (.slice b o l.length lb ex sz) l.length = some (bytes l)
    simp only [lsl, Nat.le_refl, if_true]
    by_cases h0 : l.length = 0
    · rw [if_pos h0, List.length_eq_zero_iff.1 h0]; rfl
    · rw [if_neg h0]
      obtain ⟨cells, ro, g1, g2⟩ := h4 (by omega)
      have hlast := g2 (l.length - 1) (by omega)
      have hlen := (List.getElem?_eq_some_iff.1 hlast).1
      simp only [irow, g1, Nat.mul_one]
      rw [if_pos (by omega)]
      congr 1
      apply List.ext_getElem?
      intro i
      by_cases hi : i < l.length
      · rw [List.getElem?_take, if_pos hi, List.getElem?_drop, g2 i hi]
        simp [bytes, hi, List.getD_eq_getElem?_getD]
      · rw [List.getElem?_eq_none (by simp; omega), List.getElem?_eq_none (by simp [bytes]; omega)]
theorem app_bs {B : Nat} {H : Heap} {v x : IV} {acc bs : List UInt8} (h : Buf B 1 H v (bytes acc)) (hB : B ≤ H.length) (hx : BS H x bs) (hb : acc.length + bs.length ≤ 140737488355328) : ∃ v' H', lapp H 1 1 v x = some (v', H') ∧ Buf B 1 H' v' (bytes (acc ++ bs)) ∧ Keep B H H' := by
  obtain ⟨e1, e2⟩ := hx.cells
  rw [bytes_append]
  exact app_buf h hB (by omega) e1 e2 (by simp [bytes_length]) (bytes_one _) (by simp [bytes_length]; omega)
theorem row7 {cells : List IV} : ∀ {l : List Cl} {o : Nat}, (∀ i c, l[i]? = some c → o + i * 7 + 7 ≤ cells.length ∧ (cells.drop (o + i * 7)).take 7 = c.cells) → (cells.drop o).take (l.length * 7) = flat7 l
  | [], o, _ => by simp [flat7]
  | c :: l, o, h => by
    obtain ⟨h1, h2⟩ := h 0 c rfl
    have ih := row7 (cells := cells) (l := l) (o := o + 7) (fun i d hd => by
      have := h (i + 1) d (by simpa using hd)
      rw [show o + 7 + i * 7 = o + (i + 1) * 7 by omega]; exact this)
    simp only [Nat.zero_mul, Nat.add_zero] at h1 h2
    have hl : (c :: l).length * 7 = 7 + l.length * 7 := by simp; omega
    rw [hl, List.take_add, h2, List.drop_drop, ih]
    simp [flat7]
theorem CS.cells {H : Heap} {v : IV} {l : List Cl} (h : CS H v l) : xlen v = some l.length ∧ lxcells H 7 v l.length = some (flat7 l) := by
  rcases h with ⟨rfl, rfl⟩ | ⟨b, o, n, lb, ex, sz, rfl, h1, h2, h3, h4⟩
  · exact ⟨rfl, rfl⟩
  · subst h3
    refine ⟨rfl, ?_⟩
    show lsl H 7 (.slice b o l.length lb ex sz) l.length = some (flat7 l)
    simp only [lsl, Nat.le_refl, if_true]
    by_cases h0 : l.length = 0
    · rw [if_pos h0, List.length_eq_zero_iff.1 h0]; rfl
    · rw [if_neg h0]
      have hx := h4 (l.length - 1) _ (List.getElem?_eq_getElem (by omega))
      rw [lloadn_ptr] at hx
      unfold ogn at hx
      split at hx
      · rename_i cells ro hrow
        have hrow' : H[b]? = some (.row cells ro) := hrow
        split at hx
        · rename_i hle
          simp only [irow, hrow']
          rw [if_pos (by omega)]
          congr 1
          refine row7 fun i c hi => ?_
          have hi' := h4 i c hi
          rw [lloadn_ptr, hrow', ogn_row] at hi'
          split at hi'
          · rename_i hle'
            refine ⟨by omega, ?_⟩
            simpa using hi'
          · cases hi'
        · cases hx
      · cases hx
theorem flat7_one (l : List Cl) : (flat7 l).all IV.one = true := by
  induction l with
  | nil => rfl
  | cons c l ih => simp only [flat7, List.map_cons, List.flatten_cons, List.all_append] at ih ⊢; rw [ih]; rfl
theorem app_cs {B : Nat} {H : Heap} {v x : IV} {acc l : List Cl} (h : Buf B 7 H v (flat7 acc)) (hB : B ≤ H.length) (hx : CS H x l) (hb : (acc.length + l.length) * 504 ≤ 140737488355328) : ∃ v' H', lapp H 7 72 v x = some (v', H') ∧ Buf B 7 H' v' (flat7 (acc ++ l)) ∧ Keep B H H' := by
  obtain ⟨e1, e2⟩ := hx.cells
  rw [flat7_append]
  exact app_buf h hB (by omega) e1 e2 (flat7_length l) (flat7_one l) (by simp only [flat7_length]; omega)
theorem BS.keep' {B : Nat} {H H' : Heap} {v : IV} {bs : List UInt8} (h : BS H v bs) (hl : low B v) (k : Keep B H H') : BS H' v bs := h.keepB hl k.1
theorem CS.keep' {B : Nat} {H H' : Heap} {v : IV} {l : List Cl} (h : CS H v l) (hl : low B v) (k : Keep B H H') : CS H' v l := h.keepB hl k.1
theorem Buf.bs {B : Nat} {H : Heap} {v : IV} {bs : List UInt8} (h : Buf B 1 H v (bytes bs)) : BS H v bs ∧ v.one = true ∧ low H.length v := by
  rcases h with ⟨rfl, e⟩ | ⟨r, n, ex, rfl, g1, g2, g3⟩
  · have : bs = [] := by cases bs <;> simp [bytes] at e ⊢
    subst this; exact ⟨.inl ⟨rfl, rfl⟩, rfl, lowNil⟩
  · rw [bytes_length, Nat.mul_one] at g3
    subst g3
    exact ⟨ownBS g2, rfl, lowAt (List.getElem?_eq_some_iff.1 g2).1⟩
theorem Buf.low {B s : Nat} {H : Heap} {v : IV} {cs : List IV} (h : Buf B s H v cs) : Shade.low H.length v := by
  rcases h with ⟨rfl, e⟩ | ⟨r, n, ex, rfl, g1, g2, g3⟩
  · exact lowNil
  · exact lowAt (List.getElem?_eq_some_iff.1 g2).1
theorem joins_l {cal : FuncId → Bool} {φ : Oracle} {N : Nat} {aw s d m : FuncId} (ha : AwakeOk φ aw) (hs : ScriptOk φ s) (hd : DecOk φ d) (hm : SameOk φ m) {H : Heap} {v0 v1 : IV} {l0 l1 : List Cl} (hl0 : low H.length v0) (hc0 : CS H v0 l0) (hl1 : low H.length v1) (hc1 : CS H v1 l1) :
    ∃ H', veneerlaw08CallJoinsS cal φ N aw s d m v0 v1 H = some (.bool true, H') := by
  unfold veneerlaw08CallJoinsS
  rw [ha, ob_some]
  simp only
  rw [iun_not, ob_some, Bool.not_true, cnd_false, hc0.len, ob_some, lbin_gtr, ob_some]
  cases hb0 : decide ((100 : Int) < (l0.length : Nat))
  · simp only [isB_ff, gq_true, ob_some, hc1.len, lbin_gtr]
    rw [lpick_false, ob_some]
    cases hb1 : decide ((100 : Int) < (l1.length : Nat))
    · rw [cnd_false]
      have n0 : l0.length ≤ 100 := by have := of_decide_eq_false hb0; omega
      have n1 : l1.length ≤ 100 := by have := of_decide_eq_false hb1; omega
      have h22 : decide ((22 : Int) = 0) = false := rfl
      cases ho0 : okScr l0 with
      | false =>
        rw [scr_no hs hl0 hc0 ho0, ob_some]
        simp only
        rw [iextract_tuple, iextract_tuple]
        simp only [List.getElem?_cons_zero, List.getElem?_cons_succ, ob_some]
        cases ho1 : okScr l1 with
        | false =>
          rw [scr_no hs hl1 hc1 ho1, ob_some]
          simp only
          rw [iextract_tuple, iextract_tuple]
          simp only [List.getElem?_cons_zero, List.getElem?_cons_succ, ob_some, lbin_neq, h22, Bool.not_false, isB_tf, gq_false, lpick_true, cnd_true]
          exact ⟨_, rfl⟩
        | true =>
          obtain ⟨w1, X1, a1, _⟩ := scr_ex hs hl1 hc1 ho1
          rw [a1, ob_some]
          simp only
          rw [iextract_tuple, iextract_tuple]
          simp only [List.getElem?_cons_zero, List.getElem?_cons_succ, ob_some, lbin_neq, h22, Bool.not_false, isB_tf, gq_false, lpick_true, cnd_true]
          exact ⟨_, rfl⟩
      | true =>
        obtain ⟨w0, X0, a0, b0, c0, d0⟩ := scr_ex hs hl0 hc0 ho0
        rw [a0, ob_some]
        simp only
        rw [iextract_tuple, iextract_tuple]
        simp only [List.getElem?_cons_zero, List.getElem?_cons_succ, ob_some]
        cases ho1 : okScr l1 with
        | false =>
          rw [scr_no hs (hl1.app X0) (hc1.app X0) ho1, ob_some]
          simp only
          rw [iextract_tuple, iextract_tuple]
          simp only [List.getElem?_cons_zero, List.getElem?_cons_succ, ob_some, lbin_neq, h22, decide_true, Bool.not_false, Bool.not_true, isB_ff, gq_true, lpick_false, cnd_true]
          exact ⟨_, rfl⟩
        | true =>
          obtain ⟨w1, X1, a1, b1, c1, d1⟩ := scr_ex hs (hl1.app X0) (hc1.app X0) ho1
          rw [a1, ob_some]
          simp only
          rw [iextract_tuple, iextract_tuple]
          simp only [List.getElem?_cons_zero, List.getElem?_cons_succ, ob_some, lbin_neq, decide_true, Bool.not_true, isB_ff, gq_true, lpick_false, cnd_false]
          have b0' := b0.app X1
          have c0' := c0.app X1
          have k0 := (hc0.app X0).app X1
          have k1 := (hc1.app X0).app X1
          have j0 := (hl0.app X0).app X1
          have j1 := (hl1.app X0).app X1
          generalize H ++ X0 ++ X1 = K at *
          have z : lbldS K 1 0 [(.int .u8 0)] [] = some (.slice K.length 0 0 0 true 1, K ++ [.row [] false]) := rfl
          rw [z, ob_some]
          simp only
          have bf0 : Buf K.length 1 (K ++ [.row [] false]) (.slice K.length 0 0 0 true 1) (bytes []) := .inr ⟨_, 0, true, rfl, Nat.le_refl _, by simp [bytes], rfl⟩
          have le0 := fun (c : Cl) (h : c.may = true) => enc_len h
          have es : ∀ (l : List Cl), l.all Cl.may = true → l.length ≤ 100 → (encs l).length ≤ 13500 := by
            intro l hm hlen
            have : (encs l).length ≤ 135 * l.length := by
              clear hlen
              induction l with
              | nil => simp [encs]
              | cons c l ih =>
                simp only [List.all_cons, Bool.and_eq_true] at hm
                have i1 := ih hm.2
                have i2 := enc_len hm.1
                simp only [encs, List.map_cons, List.flatten_cons, List.length_append, List.length_cons] at i1 ⊢
                omega
            omega
          obtain ⟨q0, m0⟩ := okScr_len ho0
          obtain ⟨q1, m1⟩ := okScr_len ho1
          have e0 := es l0 m0 n0
          have e1 := es l1 m1 n1
          obtain ⟨u1, K1, f1, g1, i1⟩ := app_bs bf0 (by simp) (b0'.app [IObj.row [] false]) (by simp; omega)
          rw [f1, ob_some]
          simp only
          have K1l : K.length ≤ K1.length := by have := i1.2; simp at this; omega
          have kk1 : Keep K.length K K1 := (Keep.push K [IObj.row [] false] (Nat.le_refl _)).trans i1
          obtain ⟨u2, K2, f2, g2, i2⟩ := app_bs g1 K1l (b1.keep' c1 kk1) (by simp; omega)
          rw [f2, ob_some]
          simp only
          have kk2 := kk1.trans i2
          obtain ⟨p1, p2, p3⟩ := g2.bs
          obtain ⟨w5, X5, a5, b5, c5⟩ := dec_ex hd p2 p3 p1
          have hdec : dec 200 ([] ++ encs l0 ++ encs l1) = l0 ++ l1 := by
            rw [List.nil_append, dec_encs l0 200 _ m0 (by omega)]
            have := dec_encs l1 (200 - l0.length) [] m1 (by omega)
            have e : ∀ k, dec k [] = [] := fun k => by cases k <;> rfl
            rw [List.append_nil, e, List.append_nil] at this
            rw [this]
          rw [hdec] at b5
          rw [a5, ob_some]
          simp only
          have kk3 : Keep K.length K (K2 ++ X5) := kk2.trans (Keep.push K2 X5 (by have := kk2.2; omega))
          have hz2 : lbldS (K2 ++ X5) 7 0 [(.int .i64 0), (.int .i64 0), (.int .i64 0), (.int .i64 0), (.int .i64 0), (.str []), (.str [])] [] = some (.slice (K2 ++ X5).length 0 0 0 true 7, (K2 ++ X5) ++ [.row [] false]) := rfl
          rw [hz2, ob_some]
          simp only
          generalize hK3 : K2 ++ X5 = K3 at *
          have bf3 : Buf K3.length 7 (K3 ++ [.row [] false]) (.slice K3.length 0 0 0 true 7) (flat7 []) := .inr ⟨_, 0, true, rfl, Nat.le_refl _, by simp [flat7], rfl⟩
          have j0' : low K3.length v0 := low_mono j0 kk3.2
          have j1' : low K3.length v1 := low_mono j1 kk3.2
          have k0' : CS K3 v0 l0 := k0.keep' j0 kk3
          have k1' : CS K3 v1 l1 := k1.keep' j1 kk3
          obtain ⟨u6, K6, f6, g6, i6⟩ := app_cs bf3 (by simp) (k0'.app [IObj.row [] false]) (by simp; omega)
          rw [f6, ob_some]
          simp only
          have kk6 : Keep K3.length K3 K6 := (Keep.push K3 [IObj.row [] false] (Nat.le_refl _)).trans i6
          obtain ⟨u7, K7, f7, g7, i7⟩ := app_cs g6 (by have := kk6.2; omega) (k1'.keep' j1' kk6) (by simp; omega)
          rw [f7, ob_some]
          simp only
          have kk7 := kk6.trans i7
          rw [List.nil_append] at g7
          rw [hm _ _ _ _ _ (b5.keep' c5 kk7) g7.calls (by simp; omega), ob_some]
          simp only [decide_true]
          exact ⟨_, rfl⟩
    · rw [cnd_true]; exact ⟨_, rfl⟩
  · simp only [isB_tf, gq_false, ob_some, lpick_true, cnd_true]
    exact ⟨_, rfl⟩
end Go.Shade
