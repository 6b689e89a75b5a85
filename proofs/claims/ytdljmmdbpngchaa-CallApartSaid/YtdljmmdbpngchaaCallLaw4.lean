/- CALL, part 18: pieces of slices; 'CallAhead', 'CallApart'. -/
import Derived.Test.YtdljmmdbpngchaaCallLaw3
namespace Go.Shade
set_option linter.unusedVariables false
set_option linter.unusedSimpArgs false
theorem CS.take {H : Heap} {v : IV} {l : List Cl} (h : CS H v l) {n : Nat} (hn : n ≤ l.length) : ∃ v', lslice H (.slice 7) v none (some (.int .i64 (n : Nat))) none = some v' ∧ CS H v' (l.take n) := by
  rcases h with ⟨rfl, rfl⟩ | ⟨b, o, m, lb, ex, sz, rfl, h1, h2, h3, h4⟩
  · simp at hn; subst hn
    exact ⟨_, rfl, .inl ⟨rfl, rfl⟩⟩
  · refine ⟨.slice b (o + 0 * 7) (n - 0) (lb - 0) ex sz, ?_, .inr ⟨b, o + 0 * 7, n - 0, lb - 0, ex, sz, rfl, by omega, h2, by simp; omega, fun i c hi => ?_⟩⟩
    · simp only [lslice, bnd]
      rw [if_pos (by omega)]
      simp only [Option.bind_some, Int.toNat_natCast]
      rw [if_neg (by omega), if_pos (by omega)]
    · rw [List.getElem?_take] at hi
      split at hi
      · have := h4 i c hi; simpa using this
      · cases hi
theorem CS.drop {H : Heap} {v : IV} {l : List Cl} (h : CS H v l) {n : Nat} (hn : n ≤ l.length) : ∃ v', lslice H (.slice 7) v (some (.int .i64 (n : Nat))) none none = some v' ∧ CS H v' (l.drop n) := by
  rcases h with ⟨rfl, rfl⟩ | ⟨b, o, m, lb, ex, sz, rfl, h1, h2, h3, h4⟩
  · simp at hn; subst hn
    exact ⟨_, rfl, .inl ⟨rfl, rfl⟩⟩
  · refine ⟨.slice b (o + n * 7) (m - n) (lb - n) ex sz, ?_, .inr ⟨b, o + n * 7, m - n, lb - n, ex, sz, rfl, by omega, h2, by simp; omega, fun i c hi => ?_⟩⟩
    · simp only [lslice, bnd]
      rw [if_pos (by omega)]
      simp only [Option.bind_some, Int.toNat_natCast]
      rw [if_neg (by omega), if_pos (by omega)]
    · rw [List.getElem?_drop] at hi
      have := h4 (n + i) c hi
      rw [Nat.add_mul, ← Nat.add_assoc] at this; exact this
theorem BS.take {H : Heap} {v : IV} {l : List UInt8} (h : BS H v l) {n : Nat} (hn : n ≤ l.length) : ∃ v', lslice H (.slice 1) v none (some (.int .i64 (n : Nat))) none = some v' ∧ BS H v' (l.take n) := by
  rcases h with ⟨rfl, rfl⟩ | ⟨b, o, m, lb, ex, sz, rfl, h1, h2, h3, h4⟩
  · simp at hn; subst hn
    exact ⟨_, rfl, .inl ⟨rfl, rfl⟩⟩
  · refine ⟨.slice b (o + 0 * 1) (n - 0) (lb - 0) ex sz, ?_, .inr ⟨b, o + 0 * 1, n - 0, lb - 0, ex, sz, rfl, by omega, h2, by simp; omega, fun hp => ?_⟩⟩
    · simp only [lslice, bnd]
      rw [if_pos (by omega)]
      simp only [Option.bind_some, Int.toNat_natCast]
      rw [if_neg (by omega), if_pos (by omega)]
    · obtain ⟨cells, ro, g1, g2⟩ := h4 (by omega)
      refine ⟨cells, ro, g1, fun i hi => ?_⟩
      have := g2 i (by omega)
      have e : (l.take n).getD i 0 = l.getD i 0 := by simp [List.getD_eq_getElem?_getD, List.getElem?_take, show i < n by omega]
      rw [e]; simpa using this
theorem BS.b2s {H : Heap} {v : IV} {l : List UInt8} (h : BS H v l) : lb2s H v = some (.str l) := by
  obtain ⟨e1, e2⟩ := h.cells
  rcases h with ⟨rfl, rfl⟩ | ⟨b, o, m, lb, ex, sz, rfl, h1, h2, h3, h4⟩
  · rfl
  · have e2' : lsl H 1 (.slice b o m lb ex sz) m = some (bytes l) := by rw [h3] at e2; exact e2
    simp only [lb2s, e2', Option.bind_some, ibytes_bytes]
theorem dec_nil' (k : Nat) : dec k [] = [] := by cases k <;> rfl
theorem dec_take : ∀ (j k : Nat) (bs : List UInt8), j ≤ k → dec j bs = (dec k bs).take j
  | 0, k, bs, _ => by simp [dec]
  | j + 1, 0, bs, h => by omega
  | j + 1, k + 1, bs, h => by
    simp only [dec]
    split
    · rfl
    · rw [List.take_succ_cons, dec_take j k _ (by omega)]
theorem apart {a b : Cl} (ha : a.may = true) (hb : b.may = true) (h : a.enc.length ≤ b.enc.length) (e : a.enc = b.enc.take a.enc.length) : a = b := by
  obtain ⟨r1, _⟩ := rd_enc ha (b.enc.drop a.enc.length)
  obtain ⟨r2, _⟩ := rd_enc hb []
  rw [List.append_nil] at r2
  have : a.enc ++ b.enc.drop a.enc.length = b.enc := by
    have := List.take_append_drop a.enc.length b.enc
    rw [← e] at this; exact this
  rw [this] at r1
  exact r1.symm.trans r2
theorem apart' {a b : Cl} (ha : a.may = true) (hb : b.may = true) : decide (a = b) = (a.enc.take (min a.enc.length b.enc.length) == b.enc.take (min a.enc.length b.enc.length)) := by
  by_cases h : a = b
  · subst h; simp
  · rw [decide_eq_false h]
    symm
    rw [beq_eq_false_iff_ne]
    intro e
    apply h
    rcases Nat.le_total a.enc.length b.enc.length with hl | hl
    · rw [Nat.min_eq_left hl, List.take_length] at e
      exact apart ha hb hl e
    · rw [Nat.min_eq_right hl, List.take_length] at e
      exact (apart hb ha hl e.symm).symm
theorem enc_ex {φ : Oracle} {f : FuncId} (hs : EncOk φ f) {c : Cl} (ho : c.may = true) (H : Heap) :
    ∃ v' X, φ f [.agg c.cells] H = some (.tuple [v', .int .i64 0], H ++ X) ∧ BS (H ++ X) v' c.enc ∧ low (H ++ X).length v' := by
  refine ⟨_, _, by rw [hs c H, if_pos ho], ownBS (by simp), lowAt (by simp)⟩
theorem enc_nx {φ : Oracle} {f : FuncId} (hs : EncOk φ f) {c : Cl} (ho : c.may = false) (H : Heap) : φ f [.agg c.cells] H = some (.tuple [.nilSlice, .int .i64 22], H) := by
  rw [hs c H, ho]; rfl
theorem imin_nat (a b : Nat) : ifold imin2 (.int .i64 (a : Nat)) [.int .i64 (b : Nat)] = some (.int .i64 ((min a b : Nat) : Int)) := by
  have : (if ((b : Nat) : Int) < ((a : Nat) : Int) then ((b : Nat) : Int) else ((a : Nat) : Int)) = ((min a b : Nat) : Int) := by split <;> omega
  simp only [ifold, imin2, if_true, Option.bind_some, this]
theorem encs_len : ∀ {l : List Cl}, l.all Cl.may = true → (encs l).length ≤ 135 * l.length
  | [], _ => by simp [encs]
  | c :: l, h => by
    simp only [List.all_cons, Bool.and_eq_true] at h
    have i1 := encs_len h.2
    have i2 := enc_len h.1
    simp only [encs, List.map_cons, List.flatten_cons, List.length_append, List.length_cons] at i1 ⊢
    omega
theorem ahead_l {cal : FuncId → Bool} {φ : Oracle} {N : Nat} {aw s d m : FuncId} (ha : AwakeOk φ aw) (hs : ScriptOk φ s) (hd : DecOk φ d) (hm : SameOk φ m) {H : Heap} {v0 v1 : IV} {l : List Cl} {bs : List UInt8} (hl0 : low H.length v0) (hc0 : CS H v0 l) (hv1 : v1.one = true) (hl1 : low H.length v1) (hb1 : BS H v1 bs) :
    ∃ H', veneerlaw08CallAheadS cal φ N aw s d m v0 v1 H = some (.bool true, H') := by
  unfold veneerlaw08CallAheadS
  rw [ha, ob_some]
  simp only
  rw [iun_not, ob_some, Bool.not_true, cnd_false, hc0.len, ob_some, lbin_gtr, ob_some]
  cases hbig : decide ((150 : Int) < (l.length : Nat))
  · simp only [isB_ff, gq_true, ob_some, hb1.len, lbin_gtr]
    rw [lpick_false, ob_some]
    cases hbig2 : decide ((16384 : Int) < (bs.length : Nat))
    · rw [cnd_false]
      have n0 : l.length ≤ 150 := by have := of_decide_eq_false hbig; omega
      have n1 : bs.length ≤ 16384 := by have := of_decide_eq_false hbig2; omega
      have h22 : decide ((22 : Int) = 0) = false := rfl
      cases ho : okScr l with
      | false =>
        rw [scr_no hs hl0 hc0 ho, ob_some]
        simp only
        rw [iextract_tuple, iextract_tuple]
        simp only [List.getElem?_cons_zero, List.getElem?_cons_succ, ob_some, lbin_neq, h22, Bool.not_false, cnd_true]
        exact ⟨_, rfl⟩
      | true =>
        obtain ⟨q0, m0⟩ := okScr_len ho
        obtain ⟨w0, X0, a0, b0, c0, d0⟩ := scr_ex hs hl0 hc0 ho
        rw [a0, ob_some]
        simp only
        rw [iextract_tuple, iextract_tuple]
        simp only [List.getElem?_cons_zero, List.getElem?_cons_succ, ob_some, lbin_neq, decide_true, Bool.not_true, cnd_false]
        have k0 := hc0.app X0
        have k1 := hb1.app X0
        have j0 := hl0.app X0
        have j1 := hl1.app X0
        generalize H ++ X0 = K at *
        have z : lbldS K 1 0 [(.int .u8 0)] [] = some (.slice K.length 0 0 0 true 1, K ++ [.row [] false]) := rfl
        rw [z, ob_some]
        simp only
        have bf0 : Buf K.length 1 (K ++ [.row [] false]) (.slice K.length 0 0 0 true 1) (bytes []) := .inr ⟨_, 0, true, rfl, Nat.le_refl _, by simp [bytes], rfl⟩
        have e0 := encs_len m0
        obtain ⟨u1, K1, f1, g1, i1⟩ := app_bs bf0 (by simp) (b0.app [IObj.row [] false]) (by simp; omega)
        rw [f1, ob_some]
        simp only
        have K1l : K.length ≤ K1.length := by have := i1.2; simp at this; omega
        have kk1 : Keep K.length K K1 := (Keep.push K [IObj.row [] false] (Nat.le_refl _)).trans i1
        obtain ⟨u2, K2, f2, g2, i2⟩ := app_bs g1 K1l (k1.keep' j1 kk1) (by simp; omega)
        rw [f2, ob_some]
        simp only
        have kk2 := kk1.trans i2
        obtain ⟨p1, p2, p3⟩ := g2.bs
        obtain ⟨w5, X5, a5, b5, c5⟩ := dec_ex hd p2 p3 p1
        have hdec : dec 200 ([] ++ encs l ++ bs) = l ++ dec (200 - l.length) bs := by
          rw [List.nil_append, dec_encs l 200 _ m0 (by omega)]
        rw [hdec] at b5
        rw [a5, ob_some]
        simp only
        have kk3 : Keep K.length K (K2 ++ X5) := kk2.trans (Keep.push K2 X5 (by have := kk2.2; omega))
        have j1' := low_mono j1 kk3.2
        obtain ⟨w6, X6, a6, b6, c6⟩ := dec_ex hd hv1 j1' (k1.keep' j1 kk3)
        rw [a6, ob_some]
        simp only
        have b5' := b5.app X6
        have k0' := (k0.keep' j0 kk3).app X6
        generalize hZ : K2 ++ X5 ++ X6 = Z at *
        rw [b5'.len, k0'.len, ob_some, ob_some, lbin_lss, ob_some]
        have hlt : decide (((((l ++ dec (200 - l.length) bs).length : Nat)) : Int) < ((l.length : Nat) : Int)) = false := decide_eq_false (by simp; omega)
        rw [hlt]
        simp only [isB_ff, gq_true, ge_true, ob_some, k0'.len]
        obtain ⟨w7, a7, b7⟩ := b5'.take (n := l.length) (by simp)
        rw [a7, ob_some, hm _ _ _ _ _ b7 k0' (by simp; omega), ob_some]
        simp only [iun_not, ob_some]
        rw [List.take_left, dself, lpick_false, ob_some, Bool.not_true, cnd_false]
        obtain ⟨w8, a8, b8⟩ := b5'.drop (n := l.length) (by simp)
        simp only [a8, k0'.len, b6.len, ob_some, lbin_sub]
        rw [ wrap_i64 (by omega) (by omega), show ((200 : Int) - (l.length : Nat)) = ((200 - l.length : Nat) : Int) by omega, imin_nat, ob_some]
        obtain ⟨w9, a9, b9⟩ := b6.take (n := min (dec 200 bs).length (200 - l.length)) (Nat.min_le_left _ _)
        have hlen := dec_len 200 bs
        rw [a9, ob_some, hm _ _ _ _ _ b8 b9 (by simp; have := dec_len (200 - l.length) bs; omega), ob_some]
        have : (l ++ dec (200 - l.length) bs).drop l.length = (dec 200 bs).take (min (dec 200 bs).length (200 - l.length)) := by
          rw [List.drop_left, dec_take (200 - l.length) 200 bs (by omega)]
          rw [Nat.min_comm, ← List.take_take, List.take_length]
        rw [this, dself]
        exact ⟨_, rfl⟩
    · rw [cnd_true]; exact ⟨_, rfl⟩
  · simp only [isB_tf, gq_false, ob_some, lpick_true, cnd_true]
    exact ⟨_, rfl⟩
theorem cell5 {H : Heap} {r : Nat} {c : Cl} (h : H[r]? = some (.row c.cells false)) : lload1 H (.ptr r 5) = some (.str c.a) := by rw [lload1_ptr, h]; rfl
theorem cell6 {H : Heap} {r : Nat} {c : Cl} (h : H[r]? = some (.row c.cells false)) : lload1 H (.ptr r 6) = some (.str c.b) := by rw [lload1_ptr, h]; rfl
theorem cell7 {H : Heap} {r : Nat} {c : Cl} (h : H[r]? = some (.row c.cells false)) : lloadn H 7 (.ptr r 0) = some (.agg c.cells) := by rw [lloadn_ptr, h]; rfl
theorem apart_l {cal : FuncId → Bool} {φ : Oracle} {N : Nat} {aw e : FuncId} (ha : AwakeOk φ aw) (he : EncOk φ e) {H : Heap} {c0 c1 : Cl} :
    ∃ H', veneerlaw08CallApartS cal φ N aw e (.agg c0.cells) (.agg c1.cells) H = some (.bool true, H') := by
  unfold veneerlaw08CallApartS
  have hb : ∀ (H : Heap) (c : Cl), lbox H (.agg c.cells) = some (.ptr H.length 0, H ++ [IObj.row c.cells false]) := fun H c => lbox_agg rfl
  rw [hb, ob_some]
  simp only
  rw [hb, ob_some]
  simp only
  have r0 : (H ++ [IObj.row c0.cells false] ++ [IObj.row c1.cells false])[H.length]? = some (.row c0.cells false) := by simp
  have r1 : (H ++ [IObj.row c0.cells false] ++ [IObj.row c1.cells false])[(H ++ [IObj.row c0.cells false]).length]? = some (.row c1.cells false) := by simp
  generalize (H ++ [IObj.row c0.cells false]).length = q at *
  generalize H ++ [IObj.row c0.cells false] ++ [IObj.row c1.cells false] = K at *
  rw [ha, ob_some]
  simp only
  rw [iun_not, ob_some, Bool.not_true, cnd_false]
  simp only [loff_ptr, Nat.zero_add, ob_some, cell5 r0, cell6 r0, cell5 r1, cell6 r1, llen_str, lbin_add, lbin_gtr]
  have tail : ∃ H', (ob (lloadn K 7 (.ptr H.length 0)) fun t22 =>
    ob (φ e [t22] K) fun r23 =>
    ob (iextract r23.1 0) fun t24 =>
    ob (iextract r23.1 1) fun t25 =>
    ob (lloadn r23.2 7 (.ptr q 0)) fun t26 =>
    ob (φ e [t26] r23.2) fun r27 =>
    ob (iextract r27.1 0) fun t28 =>
    ob (iextract r27.1 1) fun t29 =>
    ob (lbin .neq t25 (.int .i64 0)) fun t30 =>
    ob (gq (isB t30 false) (some t29)) fun t31 =>
    ob (gq (isB t30 false) (lbin .neq t31 (.int .i64 0))) fun t32 =>
    ob (lpick t30 (.bool true) t32) fun t33 =>
    cnd t33
    (some ((.bool true), r27.2))
    (ob (llen r27.2 .slice t24) fun t34 =>
    ob (llen r27.2 .slice t28) fun t35 =>
    ob (ifold imin2 t34 [t35]) fun t36 =>
    ob (lloadn r27.2 7 (.ptr H.length 0)) fun t37 =>
    ob (lloadn r27.2 7 (.ptr q 0)) fun t38 =>
    ob (leqv false (leq (.struct [(0, .int), (1, .int), (2, .int), (3, .int), (4, .int), (5, .str), (6, .str)]) t37 t38)) fun t39 =>
    ob (lslice r27.2 (.slice 1) t24 none (some t36) none) fun t40 =>
    ob (lb2s r27.2 t40) fun t41 =>
    ob (lslice r27.2 (.slice 1) t28 none (some t36) none) fun t42 =>
    ob (lb2s r27.2 t42) fun t43 =>
    ob (lbin .eql t41 t43) fun t44 =>
    ob (leqv false (leq .bool t39 t44)) fun t45 =>
    some (t45, r27.2))) = some (.bool true, H') := by
    rw [cell7 r0, ob_some]
    have h22 : decide ((22 : Int) = 0) = false := rfl
    cases o0 : c0.may with
    | false =>
      rw [enc_nx he o0, ob_some]
      simp only
      rw [iextract_tuple, iextract_tuple]
      simp only [List.getElem?_cons_zero, List.getElem?_cons_succ, ob_some, cell7 r1]
      cases o1 : c1.may with
      | false =>
        rw [enc_nx he o1, ob_some]
        simp only
        rw [iextract_tuple, iextract_tuple]
        simp only [List.getElem?_cons_zero, List.getElem?_cons_succ, ob_some, lbin_neq, h22, Bool.not_false, isB_tf, gq_false, lpick_true, cnd_true]
        exact ⟨_, rfl⟩
      | true =>
        obtain ⟨w1, X1, a1, _⟩ := enc_ex he o1 K
        rw [a1, ob_some]
        simp only
        rw [iextract_tuple, iextract_tuple]
        simp only [List.getElem?_cons_zero, List.getElem?_cons_succ, ob_some, lbin_neq, h22, Bool.not_false, isB_tf, gq_false, lpick_true, cnd_true]
        exact ⟨_, rfl⟩
    | true =>
      obtain ⟨w0, X0, a0, b0, d0⟩ := enc_ex he o0 K
      rw [a0, ob_some]
      simp only
      rw [iextract_tuple, iextract_tuple]
      have up : ∀ {X : Heap} {r : Nat} {c : Cl} {M : Heap}, M[r]? = some (.row c.cells false) → (M ++ X)[r]? = some (.row c.cells false) := by
        intro X r c M h; rw [List.getElem?_append_left (List.getElem?_eq_some_iff.1 h).1]; exact h
      simp only [List.getElem?_cons_zero, List.getElem?_cons_succ, ob_some, cell7 (up (X := X0) r1)]
      cases o1 : c1.may with
      | false =>
        rw [enc_nx he o1, ob_some]
        simp only
        rw [iextract_tuple, iextract_tuple]
        simp only [List.getElem?_cons_zero, List.getElem?_cons_succ, ob_some, lbin_neq, h22, decide_true, Bool.not_false, Bool.not_true, isB_ff, gq_true, lpick_false, cnd_true]
        exact ⟨_, rfl⟩
      | true =>
        obtain ⟨w1, X1, a1, b1, d1⟩ := enc_ex he o1 (K ++ X0)
        rw [a1, ob_some]
        simp only
        rw [iextract_tuple, iextract_tuple]
        have b0' := b0.app X1
        have r0' := up (X := X1) (up (X := X0) r0)
        have r1' := up (X := X1) (up (X := X0) r1)
        generalize K ++ X0 ++ X1 = Z at *
        simp only [List.getElem?_cons_zero, List.getElem?_cons_succ, ob_some, lbin_neq, decide_true, Bool.not_true, isB_ff, gq_true, lpick_false, cnd_false]
        rw [b0'.len, b1.len, ob_some, ob_some, imin_nat, ob_some, cell7 r0', cell7 r1', ob_some, ob_some, call_eq]
        obtain ⟨u0, x0, y0⟩ := b0'.take (n := min c0.enc.length c1.enc.length) (Nat.min_le_left _ _)
        obtain ⟨u1, x1, y1⟩ := b1.take (n := min c0.enc.length c1.enc.length) (Nat.min_le_right _ _)
        have l1 : leqv false (some (decide (c0 = c1))) = some (.bool (decide (c0 = c1))) := rfl
        rw [l1, ob_some, x0, ob_some, y0.b2s, ob_some, x1, ob_some, y1.b2s, ob_some]
        have l2 : ∀ a b, lbin .eql (.str a) (.str b) = some (.bool (a == b)) := fun a b => rfl
        have l3 : ∀ a b, leqv false (leq .bool (.bool a) (.bool b)) = some (.bool (a == b)) := fun a b => rfl
        rw [l2, ob_some, l3, ob_some, apart' o0 o1, beq_self_eq_true]
        exact ⟨_, rfl⟩
  generalize decide ((65536 : Int) < IntKind.wrap .i64 (((c0.a.length : Nat) : Int) + ((c0.b.length : Nat) : Int))) = t1
  cases t1
  · simp only [isB_ff, gq_true, ob_some, cell5 r1, cell6 r1, llen_str, lbin_add, lbin_gtr]
    generalize decide ((65536 : Int) < IntKind.wrap .i64 (((c1.a.length : Nat) : Int) + ((c1.b.length : Nat) : Int))) = t2
    cases t2
    · simp only [lpick_false, ob_some, cnd_false]
      exact tail
    · simp only [lpick_false, ob_some, cnd_true]
      exact ⟨_, rfl⟩
  · simp only [isB_tf, gq_false, ob_some, lpick_true, cnd_true]
    exact ⟨_, rfl⟩
end Go.Shade
