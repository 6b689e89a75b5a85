/- CALL, part 18: pieces of slices; 'CallAhead', 'CallApart'. -/
import Derived.Test.YtdljmmdbpngchaaM4
namespace Go.Shade
set_option linter.unusedVariables false
set_option linter.unusedSimpArgs false
theorem CS.take {H : Heap} {v : IV} {l : List Cl} (h : CS H v l) {n : Nat} (hn : n ≤ l.length) : ∃ v', lslice H (.slice 7) v none (some (.int .i64 (n : Nat))) none = some v' ∧ CS H v' (l.take n) := by
  rcases h with ⟨rfl, rfl⟩ | ⟨b, o, m, lb, ex, sz, rfl, h1, h2, h3, h4⟩
  · simp at hn; subst hn
    exact ⟨_, rfl, .inl ⟨rfl, rfl⟩⟩
  · refine ⟨.slice b (o + 0 * 7) (n - 0) (lb - 0) ex sz, ?_, .inr ⟨b, o + 0 * 7, n - 0, lb - 0, ex, sz, rfl, by omega, h2, by simp; omega, fun i c hi => ?_⟩⟩
    · simp only [lslice, bnd]
      rw [if_pos (by omega)]
      simp only [Option.bind_some, Int.toNat_natCast]
      rw [if_neg (by omega), if_pos (by omega)]
    · rw [List.getElem?_take] at hi
      split at hi
      · have := h4 i c hi; simpa using this
      · cases hi
theorem CS.drop {H : Heap} {v : IV} {l : List Cl} (h : CS H v l) {n : Nat} (hn : n ≤ l.length) : ∃ v', lslice H (.slice 7) v (some (.int .i64 (n : Nat))) none none = some v' ∧ CS H v' (l.drop n) := by
  rcases h with ⟨rfl, rfl⟩ | ⟨b, o, m, lb, ex, sz, rfl, h1, h2, h3, h4⟩
  · simp at hn; subst hn
    exact ⟨_, rfl, .inl ⟨rfl, rfl⟩⟩
  · refine ⟨.slice b (o + n * 7) (m - n) (lb - n) ex sz, ?_, .inr ⟨b, o + n * 7, m - n, lb - n, ex, sz, rfl, by omega, h2, by simp; omega, fun i c hi => ?_⟩⟩
    · simp only [lslice, bnd]
      rw [if_pos (by omega)]
      simp only [Option.bind_some, Int.toNat_natCast]
      rw [if_neg (by omega), if_pos (by omega)]
    · rw [List.getElem?_drop] at hi
      have := h4 (n + i) c hi
      rw [Nat.add_mul, ← Nat.add_assoc] at this; exact this
theorem BS.take {H : Heap} {v : IV} {l : List UInt8} (h : BS H v l) {n : Nat} (hn : n ≤ l.length) : ∃ v', lslice H (.slice 1) v none (some (.int .i64 (n : Nat))) none = some v' ∧ BS H v' (l.take n) := by
  rcases h with ⟨rfl, rfl⟩ | ⟨b, o, m, lb, ex, sz, rfl, h1, h2, h3, h4⟩
  · simp at hn; subst hn
    exact ⟨_, rfl, .inl ⟨rfl, rfl⟩⟩
  · refine ⟨.slice b (o + 0 * 1) (n - 0) (lb - 0) ex sz, ?_, .inr ⟨b, o + 0 * 1, n - 0, lb - 0, ex, sz, rfl, by omega, h2, by simp; omega, fun hp => ?_⟩⟩
    · simp only [lslice, bnd]
      rw [if_pos (by omega)]
      simp only [Option.bind_some, Int.toNat_natCast]
      rw [if_neg (by omega), if_pos (by omega)]
    · obtain ⟨cells, ro, g1, g2⟩ := h4 (by omega)
      refine ⟨cells, ro, g1, fun i hi => ?_⟩
      have := g2 i (by omega)
      have e : (l.take n).getD i 0 = l.getD i 0 := by simp [List.getD_eq_getElem?_getD, List.getElem?_take, show i < n by omega]
      rw [e]; simpa using this
theorem BS.b2s {H : Heap} {v : IV} {l : List UInt8} (h : BS H v l) : lb2s H v = some (.str l) := by
  obtain ⟨e1, e2⟩ := h.cells
  rcases h with ⟨rfl, rfl⟩ | ⟨b, o, m, lb, ex, sz, rfl, h1, h2, h3, h4⟩
  · rfl
  · have e2' : lsl H 1 (.slice b o m lb ex sz) m = some (bytes l) := by rw [h3] at e2; exact e2
    simp only [lb2s, e2', Option.bind_some, ibytes_bytes]
theorem dec_nil' (k : Nat) : dec k [] = [] := by cases k <;> rfl
theorem dec_take : ∀ (j k : Nat) (bs : List UInt8), j ≤ k → dec j bs = (dec k bs).take j
  | 0, k, bs, _ => by simp [dec]
  | j + 1, 0, bs, h => by omega
  | j + 1, k + 1, bs, h => by
    simp only [dec]
    split
    · rfl
    · rw [List.take_succ_cons, dec_take j k _ (by omega)]
theorem apart {a b : Cl} (ha : a.may = true) (hb : b.may = true) (h : a.enc.length ≤ b.enc.length) (e : a.enc = b.enc.take a.enc.length) : a = b := by
  obtain ⟨r1, _⟩ := rd_enc ha (b.enc.drop a.enc.length)
  obtain ⟨r2, _⟩ := rd_enc hb []
  rw [List.append_nil] at r2
  have : a.enc ++ b.enc.drop a.enc.length = b.enc := by
    have := List.take_append_drop a.enc.length b.enc
    rw [← e] at this; exact this
  rw [this] at r1
  exact r1.symm.trans r2
theorem apart' {a b : Cl} (ha : a.may = true) (hb : b.may = true) : decide (a = b) = (a.enc.take (min a.enc.length b.enc.length) == b.enc.take (min a.enc.length b.enc.length)) := by
  by_cases h : a = b
  · subst h; simp
  · rw [decide_eq_false h]
    symm
    rw [beq_eq_false_iff_ne]
    intro e
    apply h
    rcases Nat.le_total a.enc.length b.enc.length with hl | hl
    · rw [Nat.min_eq_left hl, List.take_length] at e
      exact apart ha hb hl e
    · rw [Nat.min_eq_right hl, List.take_length] at e
      exact (apart hb ha hl e.symm).symm
theorem enc_ex {φ : Oracle} {f : FuncId} (hs : EncOk φ f) {c : Cl} (ho : c.may = true) (H : Heap) :
    ∃ v' X, φ f [.agg c.cells] H = some (.tuple [v', .int .i64 0], H ++ X) ∧ BS (H ++ X) v' c.enc ∧ low (H ++ X).length v' := by
  refine ⟨_, _, by rw [hs c H, if_pos ho], ownBS (by simp), lowAt (by simp)⟩
theorem enc_nx {φ : Oracle} {f : FuncId} (hs : EncOk φ f) {c : Cl} (ho : c.may = false) (H : Heap) : φ f [.agg c.cells] H = some (.tuple [.nilSlice, .int .i64 22], H) := by
  rw [hs c H, ho]; rfl
theorem imin_nat (a b : Nat) : ifold imin2 (.int .i64 (a : Nat)) [.int .i64 (b : Nat)] = some (.int .i64 ((min a b : Nat) : Int)) := by
  have : (if ((b : Nat) : Int) < ((a : Nat) : Int) then ((b : Nat) : Int) else ((a : Nat) : Int)) = ((min a b : Nat) : Int) := by split <;> omega
  simp only [ifold, imin2, if_true, Option.bind_some, this]
theorem encs_len : ∀ {l : List Cl}, l.all Cl.may = true → (encs l).length ≤ 135 * l.length
  | [], _ => by simp [encs]
  | c :: l, h => by
    simp only [List.all_cons, Bool.and_eq_true] at h
    have i1 := encs_len h.2
    have i2 := enc_len h.1
    simp only [encs, List.map_cons, List.flatten_cons, List.length_append, List.length_cons] at i1 ⊢
    omega
theorem ahead_l {cal : FuncId → Bool} {φ : Oracle} {N : Nat} {aw s d m : FuncId} (ha : AwakeOk φ aw) (hs : ScriptOk φ s) (hd : DecOk φ d) (hm : SameOk φ m) {H : Heap} {v0 v1 : IV} {l : List Cl} {bs : List UInt8} (hl0 : low H.length v0) (hc0 : CS H v0 l) (hv1 : v1.one = true) (hl1 : low H.length v1) (hb1 : BS H v1 bs) :
    ∃ H', veneerlaw08CallAheadS cal φ N aw s d m v0 v1 H = some (.bool true, H') := by
  unfold veneerlaw08CallAheadS
  rw [ha, ob_some]
  simp only
  rw [iun_not, ob_some, Bool.not_true, cnd_false, hc0.len, ob_some, lbin_gtr, ob_some]
  cases hbig : decide ((150 : Int) < (l.length : Nat))
  · simp only [isB_ff, gq_true, ob_some, hb1.len, lbin_gtr]
    rw [lpick_false, ob_some]
    cases hbig2 : decide ((16384 : Int) < (bs.length : Nat))
    · rw [cnd_false]
      have n0 : l.length ≤ 150 := by have := of_decide_eq_false hbig; omega
      have n1 : bs.length ≤ 16384 := by have := of_decide_eq_false hbig2; omega
      have h22 : decide ((22 : Int) = 0) = false := rfl
      cases ho : okScr l with
      | false =>
        rw [scr_no hs hl0 hc0 ho, ob_some]
        simp only
        rw [iextract_tuple, iextract_tuple]
        simp only [List.getElem?_cons_zero, List.getElem?_cons_succ, ob_some, lbin_neq, h22, Bool.not_false, cnd_true]
        exact ⟨_, rfl⟩
      | true =>
        obtain ⟨q0, m0⟩ := okScr_len ho
        obtain ⟨w0, X0, a0, b0, c0, d0⟩ := scr_ex hs hl0 hc0 ho
        rw [a0, ob_some]
        simp only
        rw [iextract_tuple, iextract_tuple]
        simp only [List.getElem?_cons_zero, List.getElem?_cons_succ, ob_some, lbin_neq, decide_true, Bool.not_true, cnd_false]
        have k0 := hc0.app X0
        have k1 := hb1.app X0
        have j0 := hl0.app X0
        have j1 := hl1.app X0
        generalize H ++ X0 = K at *
        have z : lbldS K 1 0 [(.int .u8 0)] [] = some (.slice K.length 0 0 0 true 1, K ++ [.row [] false]) := rfl
        rw [z, ob_some]
        simp only
        have bf0 : Buf K.length 1 (K ++ [.row [] false]) (.slice K.length 0 0 0 true 1) (bytes []) := .inr ⟨_, 0, true, rfl, Nat.le_refl _, by simp [bytes], rfl⟩
        have e0 := encs_len m0
        obtain ⟨u1, K1, f1, g1, i1⟩ := app_bs bf0 (by simp) (b0.app [IObj.row [] false]) (by simp; omega)
        rw [f1, ob_some]
        simp only
        have K1l : K.length ≤ K1.length := by have := i1.2; simp at this; omega
        have kk1 : Keep K.length K K1 := (Keep.push K [IObj.row [] false] (Nat.le_refl _)).trans i1
        obtain ⟨u2, K2, f2, g2, i2⟩ := app_bs g1 K1l (k1.keep' j1 kk1) (by simp; omega)
        rw [f2, ob_some]
        simp only
        have kk2 := kk1.trans i2
        obtain ⟨p1, p2, p3⟩ := g2.bs
        obtain ⟨w5, X5, a5, b5, c5⟩ := dec_ex hd p2 p3 p1
        have hdec : dec 200 ([] ++ encs l ++ bs) = l ++ dec (200 - l.length) bs := by
          rw [List.nil_append, dec_encs l 200 _ m0 (by omega)]
        rw [hdec] at b5
        rw [a5, ob_some]
        simp only
        have kk3 : Keep K.length K (K2 ++ X5) := kk2.trans (Keep.push K2 X5 (by have := kk2.2; omega))
        have j1' := low_mono j1 kk3.2
        obtain ⟨w6, X6, a6, b6, c6⟩ := dec_ex hd hv1 j1' (k1.keep' j1 kk3)
        rw [a6, ob_some]
        simp only
        have b5' := b5.app X6
        have k0' := (k0.keep' j0 kk3).app X6
        generalize hZ : K2 ++ X5 ++ X6 = Z at *
        rw [b5'.len, k0'.len, ob_some, ob_some, lbin_lss, ob_some]
        have hlt : decide (((((l ++ dec (200 - l.length) bs).length : Nat)) : Int) < ((l.length : Nat) : Int)) = false := decide_eq_false (by simp; omega)
        rw [hlt]
        simp only [isB_ff, gq_true, ge_true, ob_some, k0'.len]
        obtain ⟨w7, a7, b7⟩ := b5'.take (n := l.length) (by simp)
        rw [a7, ob_some, hm _ _ _ _ _ b7 k0' (by simp; omega), ob_some]
        simp only [iun_not, ob_some]
        rw [List.take_left, dself, lpick_false, ob_some, Bool.not_true, cnd_false]
        obtain ⟨w8, a8, b8⟩ := b5'.drop (n := l.length) (by simp)
        simp only [a8, k0'.len, b6.len, ob_some, lbin_sub]
        rw [ wrap_i64 (by omega) (by omega), show ((200 : Int) - (l.length : Nat)) = ((200 - l.length : Nat) : Int) by omega, imin_nat, ob_some]
        obtain ⟨w9, a9, b9⟩ := b6.take (n := min (dec 200 bs).length (200 - l.length)) (Nat.min_le_left _ _)
        have hlen := dec_len 200 bs
        rw [a9, ob_some, hm _ _ _ _ _ b8 b9 (by simp; have := dec_len (200 - l.length) bs; omega), ob_some]
        have : (l ++ dec (200 - l.length) bs).drop l.length = (dec 200 bs).take (min (dec 200 bs).length (200 - l.length)) := by
          rw [List.drop_left, dec_take (200 - l.length) 200 bs (by omega)]
          rw [Nat.min_comm, ← List.take_take, List.take_length]
        rw [this, dself]
        exact ⟨_, rfl⟩
    · rw [cnd_true]; exact ⟨_, rfl⟩
  · simp only [isB_tf, gq_false, ob_some, lpick_true, cnd_true]
    exact ⟨_, rfl⟩
theorem cell5 {H : Heap} {r : Nat} {c : Cl} (h : H[r]? = some (.row c.cells false)) : lload1 H (.ptr r 5) = some (.str c.a) := by rw [lload1_ptr, h]; rfl
theorem cell6 {H : Heap} {r : Nat} {c : Cl} (h : H[r]? = some (.row c.cells false)) : lload1 H (.ptr r 6) = some (.str c.b) := by rw [lload1_ptr, h]; rfl
theorem cell7 {H : Heap} {r : Nat} {c : Cl} (h : H[r]? = some (.row c.cells false)) : lloadn H 7 (.ptr r 0) = some (.agg c.cells) := by rw [lloadn_ptr, h]; rfl
theorem apart_l {cal : FuncId → Bool} {φ : Oracle} {N : Nat} {aw e : FuncId} (ha : AwakeOk φ aw) (he : EncOk φ e) {H : Heap} {c0 c1 : Cl} :
    ∃ H', veneerlaw08CallApartS cal φ N aw e (.agg c0.cells) (.agg c1.cells) H = some (.bool true, H') := by
  unfold veneerlaw08CallApartS
  have hb : ∀ (H : Heap) (c : Cl), lbox H (.agg c.cells) = some (.ptr H.length 0, H ++ [IObj.row c.cells false]) := fun H c => lbox_agg rfl
  rw [hb, ob_some]
  simp only
  rw [hb, ob_some]
  simp only
  have r0 : (H ++ [IObj.row c0.cells false] ++ [IObj.row c1.cells false])[H.length]? = some (.row c0.cells false) := by simp
  have r1 : (H ++ [IObj.row c0.cells false] ++ [IObj.row c1.cells false])[(H ++ [IObj.row c0.cells false]).length]? = some (.row c1.cells false) := by simp
  generalize (H ++ [IObj.row c0.cells false]).length = q at *
  generalize H ++ [IObj.row c0.cells false] ++ [IObj.row c1.cells false] = K at *
  rw [ha, ob_some]
  simp only
  rw [iun_not, ob_some, Bool.not_true, cnd_false]
  simp only [loff_ptr, Nat.zero_add, ob_some, cell5 r0, cell6 r0, cell5 r1, cell6 r1, llen_str, lbin_add, lbin_gtr]
  have tail : ∃ H', (ob (lloadn K 7 (.ptr H.length 0)) fun t22 =>
    ob (φ e [t22] K) fun r23 =>
    ob (iextract r23.1 0) fun t24 =>
    ob (iextract r23.1 1) fun t25 =>
    ob (lloadn r23.2 7 (.ptr q 0)) fun t26 =>
    ob (φ e [t26] r23.2) fun r27 =>
    ob (iextract r27.1 0) fun t28 =>
    ob (iextract r27.1 1) fun t29 =>
    ob (lbin .neq t25 (.int .i64 0)) fun t30 =>
    ob (gq (isB t30 false) (some t29)) fun t31 =>
    ob (gq (isB t30 false) (lbin .neq t31 (.int .i64 0))) fun t32 =>
    ob (lpick t30 (.bool true) t32) fun t33 =>
    cnd t33
    (some ((.bool true), r27.2))
    (ob (llen r27.2 .slice t24) fun t34 =>
    ob (llen r27.2 .slice t28) fun t35 =>
    ob (ifold imin2 t34 [t35]) fun t36 =>
    ob (lloadn r27.2 7 (.ptr H.length 0)) fun t37 =>
    ob (lloadn r27.2 7 (.ptr q 0)) fun t38 =>
    ob (leqv false (leq (.struct [(0, .int), (1, .int), (2, .int), (3, .int), (4, .int), (5, .str), (6, .str)]) t37 t38)) fun t39 =>
    ob (lslice r27.2 (.slice 1) t24 none (some t36) none) fun t40 =>
    ob (lb2s r27.2 t40) fun t41 =>
    ob (lslice r27.2 (.slice 1) t28 none (some t36) none) fun t42 =>
    ob (lb2s r27.2 t42) fun t43 =>
    ob (lbin .eql t41 t43) fun t44 =>
    ob (leqv false (leq .bool t39 t44)) fun t45 =>
    some (t45, r27.2))) = some (.bool true, H') := by
    rw [cell7 r0, ob_some]
    have h22 : decide ((22 : Int) = 0) = false := rfl
    cases o0 : c0.may with
    | false =>
      rw [enc_nx he o0, ob_some]
      simp only
      rw [iextract_tuple, iextract_tuple]
      simp only [List.getElem?_cons_zero, List.getElem?_cons_succ, ob_some, cell7 r1]
      cases o1 : c1.may with
      | false =>
        rw [enc_nx he o1, ob_some]
        simp only
        rw [iextract_tuple, iextract_tuple]
        simp only [List.getElem?_cons_zero, List.getElem?_cons_succ, ob_some, lbin_neq, h22, Bool.not_false, isB_tf, gq_false, lpick_true, cnd_true]
        exact ⟨_, rfl⟩
      | true =>
        obtain ⟨w1, X1, a1, _⟩ := enc_ex he o1 K
        rw [a1, ob_some]
        simp only
        rw [iextract_tuple, iextract_tuple]
        simp only [List.getElem?_cons_zero, List.getElem?_cons_succ, ob_some, lbin_neq, h22, Bool.not_false, isB_tf, gq_false, lpick_true, cnd_true]
        exact ⟨_, rfl⟩
    | true =>
      obtain ⟨w0, X0, a0, b0, d0⟩ := enc_ex he o0 K
      rw [a0, ob_some]
      simp only
      rw [iextract_tuple, iextract_tuple]
      have up : ∀ {X : Heap} {r : Nat} {c : Cl} {M : Heap}, M[r]? = some (.row c.cells false) → (M ++ X)[r]? = some (.row c.cells false) := by
        intro X r c M h; rw [List.getElem?_append_left (List.getElem?_eq_some_iff.1 h).1]; exact h
      simp only [List.getElem?_cons_zero, List.getElem?_cons_succ, ob_some, cell7 (up (X := X0) r1)]
      cases o1 : c1.may with
      | false =>
        rw [enc_nx he o1, ob_some]
        simp only
        rw [iextract_tuple, iextract_tuple]
        simp only [List.getElem?_cons_zero, List.getElem?_cons_succ, ob_some, lbin_neq, h22, decide_true, Bool.not_false, Bool.not_true, isB_ff, gq_true, lpick_false, cnd_true]
        exact ⟨_, rfl⟩
      | true =>
        obtain ⟨w1, X1, a1, b1, d1⟩ := enc_ex he o1 (K ++ X0)
        rw [a1, ob_some]
        simp only
        rw [iextract_tuple, iextract_tuple]
        have b0' := b0.app X1
        have r0' := up (X := X1) (up (X := X0) r0)
        have r1' := up (X := X1) (up (X := X0) r1)
        generalize K ++ X0 ++ X1 = Z at *
        simp only [List.getElem?_cons_zero, List.getElem?_cons_succ, ob_some, lbin_neq, decide_true, Bool.not_true, isB_ff, gq_true, lpick_false, cnd_false]
        rw [b0'.len, b1.len, ob_some, ob_some, imin_nat, ob_some, cell7 r0', cell7 r1', ob_some, ob_some, call_eq]
        obtain ⟨u0, x0, y0⟩ := b0'.take (n := min c0.enc.length c1.enc.length) (Nat.min_le_left _ _)
        obtain ⟨u1, x1, y1⟩ := b1.take (n := min c0.enc.length c1.enc.length) (Nat.min_le_right _ _)
        have l1 : leqv false (some (decide (c0 = c1))) = some (.bool (decide (c0 = c1))) := rfl
        rw [l1, ob_some, x0, ob_some, y0.b2s, ob_some, x1, ob_some, y1.b2s, ob_some]
        have l2 : ∀ a b, lbin .eql (.str a) (.str b) = some (.bool (a == b)) := fun a b => rfl
        have l3 : ∀ a b, leqv false (leq .bool (.bool a) (.bool b)) = some (.bool (a == b)) := fun a b => rfl
        rw [l2, ob_some, l3, ob_some, apart' o0 o1, beq_self_eq_true]
        exact ⟨_, rfl⟩
  generalize decide ((65536 : Int) < IntKind.wrap .i64 (((c0.a.length : Nat) : Int) + ((c0.b.length : Nat) : Int))) = t1
  cases t1
  · simp only [isB_ff, gq_true, ob_some, cell5 r1, cell6 r1, llen_str, lbin_add, lbin_gtr]
    generalize decide ((65536 : Int) < IntKind.wrap .i64 (((c1.a.length : Nat) : Int) + ((c1.b.length : Nat) : Int))) = t2
    cases t2
    · simp only [lpick_false, ob_some, cnd_false]
      exact tail
    · simp only [lpick_false, ob_some, cnd_true]
      exact ⟨_, rfl⟩
  · simp only [isB_tf, gq_false, ob_some, lpick_true, cnd_true]
    exact ⟨_, rfl⟩
end Go.Shade
/- CALL, part 19: the table of this seat's program: the other laws. -/
namespace Go.Proofs.Ytdljmmdbpngchaa
open Go.Shade
set_option linter.unusedVariables false
theorem lo6 : LoF Try.prog 6 (veneerlaw08CallBack 10 18 11 12) := ⟨⟨Try.f6, Try.func6, by kernel_rfl⟩, by kernel_rfl⟩
theorem lo7 : LoF Try.prog 7 (veneerlaw08CallJoins 10 18 11 12) := ⟨⟨Try.f7, Try.func7, by kernel_rfl⟩, by kernel_rfl⟩
theorem lo8 : LoF Try.prog 8 (veneerlaw08CallAhead 10 18 11 12) := ⟨⟨Try.f8, Try.func8, by kernel_rfl⟩, by kernel_rfl⟩
theorem lo9 : LoF Try.prog 9 (veneerlaw08CallApart 10 14) := ⟨⟨Try.f9, Try.func9, by kernel_rfl⟩, by kernel_rfl⟩
end Go.Proofs.Ytdljmmdbpngchaa
/- CALL, part 20: the document's own functions. -/
namespace Go.Shade
set_option linter.unusedVariables false
set_option linter.unusedSimpArgs false
abbrev Out := IV × Heap
/-- What was there stays, in the heap as it was. -/
def Kp (H : Heap) (H' : Heap) : Prop := Keep H.length H H'
theorem BS.at {H : Heap} {v : IV} {bs : List UInt8} (h : BS H v bs) {i : Nat} (hi : i < bs.length) : ∃ p, lix 1 v (.int .i64 (i : Nat)) = some p ∧ lload1 H p = some (.int .u8 ((bs.getD i 0).toNat : Int)) := by
  rcases h with ⟨rfl, rfl⟩ | ⟨b, o, n, lb, ex, sz, rfl, h1, h2, h3, h4⟩
  · simp at hi
  · obtain ⟨cells, ro, g1, g2⟩ := h4 (by omega)
    refine ⟨_, by rw [lix_slice, if_pos (by omega)], ?_⟩
    rw [lload1_ptr, g1, og1_row]
    have := g2 i (by omega)
    simpa using this
theorem getD_big {bs : List UInt8} {i : Nat} (h : bs.length ≤ i) : bs.getD i 0 = 0 := by simp [List.getD_eq_getElem?_getD, List.getElem?_eq_none h]
theorem ref_at {cal : FuncId → Bool} {φ : Oracle} {N : Nat} {H : Heap} {v : IV} {bs : List UInt8} (hb : BS H v bs) (i : Nat) :
    veneerref08AtS cal φ N v (.int .i64 (i : Nat)) H = some (.int .i64 ((bs.getD i 0).toNat : Int), H) := by
  unfold veneerref08AtS
  rw [hb.len, ob_some, lbin_lss, ob_some]
  by_cases h : i < bs.length
  · rw [decide_eq_true (by omega : (i : Int) < (bs.length : Nat)), cnd_true]
    obtain ⟨p, e1, e2⟩ := hb.at h
    have := (bs.getD i 0).toNat_lt
    rw [e1, ob_some, e2, ob_some, lcvt_int, ob_some, wrap_i64 (by omega) (by omega)]
  · rw [decide_eq_false (by omega : ¬ (i : Int) < (bs.length : Nat)), cnd_false, getD_big (by omega)]
    rfl
def RAtOk (φ : Oracle) (f : FuncId) : Prop := ∀ (H : Heap) (v : IV) (bs : List UInt8) (i : Nat), BS H v bs → φ f [v, .int .i64 (i : Nat)] H = some (.int .i64 ((bs.getD i 0).toNat : Int), H)
def rdT (bs : List UInt8) (i n : Nat) : List UInt8 := (List.range n).map fun k => bs.getD (i + k) 0
theorem rdT_succ (bs : List UInt8) (i n : Nat) : rdT bs i (n + 1) = rdT bs i n ++ [bs.getD (i + n) 0] := by
  simp [rdT, List.range_succ]
theorem rdT_length (bs : List UInt8) (i n : Nat) : (rdT bs i n).length = n := by simp [rdT]
theorem ref_text_go {cal : FuncId → Bool} {φ : Oracle} {N : Nat} {fa : FuncId} (ha : RAtOk φ fa) {B : Nat} {v : IV} {bs : List UInt8} (hl : low B v) {i m : Nat} (hi : i ≤ 1000000) (hm : m ≤ 64) {gE0 : IV → Heap → Option Out} {Q : Out → Prop} {H0 : Heap} (hQ : ∀ v' H', Keep B H0 H' → Buf B 1 H' v' (bytes (rdT bs i m)) → Wp (gE0 v' H') Q) :
    ∀ (d k n : Nat) (w : IV) (H : Heap), k + d = m → d < n → B ≤ H.length → Keep B H0 H → BS H v bs → Buf B 1 H w (bytes (rdT bs i k)) →
      Wp (veneerref08TextC0S cal φ N fa gE0 n v (.int .i64 (i : Nat)) (.int .i64 (m : Nat)) w (.int .i64 (k : Nat)) H) Q := by
  intro d
  induction d with
  | zero =>
    intro k n w H hk hn hB hK hb hw
    obtain ⟨n, rfl⟩ : ∃ j, n = j + 1 := ⟨n - 1, by omega⟩
    rw [veneerref08TextC0S, lbin_lss, ob_some, decide_eq_false (by omega), cnd_false]
    have : k = m := by omega
    subst this
    exact hQ w H hK hw
  | succ d ih =>
    intro k n w H hk hn hB hK hb hw
    obtain ⟨n, rfl⟩ : ∃ j, n = j + 1 := ⟨n - 1, by omega⟩
    rw [veneerref08TextC0S, lbin_lss, ob_some, decide_eq_true (by omega), cnd_true, lbin_add, ob_some, wrap_i64 (by omega) (by omega), ← Int.natCast_add, ha H v bs (i + k) hb, ob_some]
    simp only
    rw [lcvt_int, ob_some, wrap_u8, ub_toNat]
    have z : lbldS H 1 1 [(.int .u8 0)] [(0, .int .u8 ((bs.getD (i + k) 0).toNat : Int))] = some (.slice H.length 0 1 1 true 1, H ++ [.row (bytes [bs.getD (i + k) 0]) false]) := rfl
    rw [z, ob_some]
    simp only
    have hx : BS (H ++ [.row (bytes [bs.getD (i + k) 0]) false]) (.slice H.length 0 1 1 true 1) [bs.getD (i + k) 0] :=
      ((show Buf 0 1 _ _ _ from .inr ⟨_, 1, true, rfl, by omega, by simp, rfl⟩) : Buf 0 1 (H ++ [.row (bytes [bs.getD (i + k) 0]) false]) (.slice H.length 0 1 1 true 1) (bytes [bs.getD (i + k) 0])).bs.1
    have hw' : Buf B 1 (H ++ [.row (bytes [bs.getD (i + k) 0]) false]) w (bytes (rdT bs i k)) := hw.keep (Keep.push (B := H.length) H _ (Nat.le_refl _)) (fun r n' m' ex e => by
      rcases hw with ⟨e', _⟩ | ⟨r', n', ex', e', _, hr, _⟩
      · rw [e] at e'; cases e'
      · rw [e] at e'; cases e'; exact (List.getElem?_eq_some_iff.1 hr).1)
    obtain ⟨w2, H2, a2, b2, k2⟩ := app_bs hw' (by simp; omega) hx (by rw [rdT_length]; simp; omega)
    rw [a2, ob_some]
    simp only
    have kk : Keep B H H2 := (Keep.push H _ hB).trans k2
    rw [lbin_add, ob_some, wrap_i64 (by omega) (by omega)]
    rw [show ((k : Nat) : Int) + 1 = ((k + 1 : Nat) : Int) by omega]
    exact ih (k + 1) n w2 H2 (by omega) (by omega) (by have := kk.2; omega) (hK.trans kk) (hb.keep' hl kk) (by rw [rdT_succ]; exact b2)
theorem Buf.b2s {B : Nat} {H : Heap} {v : IV} {bs : List UInt8} (h : Buf B 1 H v (bytes bs)) : lb2s H v = some (.str bs) := b2s_buf h
theorem ref_text {cal : FuncId → Bool} {φ : Oracle} {N : Nat} {fa : FuncId} (hN : 64 < N) (ha : RAtOk φ fa) {H : Heap} {v : IV} {bs : List UInt8} (hl : low H.length v) (hb : BS H v bs) {i m : Nat} (hi : i ≤ 1000000) (hm : m ≤ 64) :
    Wp (veneerref08TextS cal φ N fa v (.int .i64 (i : Nat)) (.int .i64 (m : Nat)) H) fun r => r.1 = .str (rdT bs i m) ∧ Kp H r.2 := by
  unfold veneerref08TextS veneerref08TextC5S veneerref08TextC4S veneerref08TextC3S veneerref08TextC2S veneerref08TextC1S
  have z : lbldS H 1 0 [(.int .u8 0)] [] = some (.slice H.length 0 0 0 true 1, H ++ [.row [] false]) := rfl
  rw [z, ob_some]
  have k1 : Keep H.length H (H ++ [.row [] false]) := Keep.push H _ (Nat.le_refl _)
  refine ref_text_go ha hl hi hm (H0 := H) (fun v' H' hk hv => ?_) m 0 N _ _ (by omega) (by omega) (by simp) k1 (hb.keep' hl k1) (.inr ⟨_, 0, true, rfl, Nat.le_refl _, by simp [bytes, rdT], rfl⟩)
  exact Wp.of hv.b2s (Wp.ret ⟨rfl, hk⟩)
def RTextOk (φ : Oracle) (f : FuncId) : Prop := ∀ (H : Heap) (v : IV) (bs : List UInt8) (i m : Nat), low H.length v → BS H v bs → i ≤ 1000000 → m ≤ 64 → Wp (φ f [v, .int .i64 (i : Nat), .int .i64 (m : Nat)] H) fun r => r.1 = .str (rdT bs i m) ∧ Kp H r.2
theorem addk (i k : Nat) {c : Int} (hc : c = (k : Nat)) (h : i + k < 9223372036854775808) : lbin .add (.int .i64 (i : Nat)) (.int .i64 c) = some (.int .i64 ((i + k : Nat) : Int)) := by
  subst hc; rw [lbin_add, wrap_i64 (by omega) (by omega), Int.natCast_add]
theorem remk (x k : Nat) {c : Int} (hc : c = (k : Nat)) (hk : 0 < k) : lbin .rem (.int .i64 (x : Nat)) (.int .i64 c) = some (.int .i64 ((x % k : Nat) : Int)) := by
  subst hc; rw [lbin_rem (by omega), Int.tmod_eq_emod_of_nonneg (by omega), Int.natCast_emod]
theorem getD_drop' (bs : List UInt8) (i k : Nat) : (bs.drop i).getD k 0 = bs.getD (i + k) 0 := by simp [List.getD_eq_getElem?_getD]
theorem rdText_drop (bs : List UInt8) (i : Nat) : rdText (bs.drop i) = rdT bs (i + 1) ((bs.getD i 0).toNat % 64) := by
  unfold rdText rdT
  rw [getD_drop', Nat.add_zero]
  apply List.map_congr_left
  intro k _
  rw [getD_drop']; congr 1; omega
theorem rd1_drop (bs : List UInt8) (i : Nat) : rd1 (bs.drop i) = bs.drop (i + 7) := by simp [rd1]
theorem rd2_drop (bs : List UInt8) (i : Nat) : rd2 (bs.drop i) = bs.drop (i + (8 + (bs.getD (i + 7) 0).toNat % 64)) := by
  unfold rd2 TextN; rw [rd1_drop, getD_drop', List.drop_drop, Nat.add_zero]; congr 1; omega
theorem rdN_drop (bs : List UInt8) (i : Nat) : i + rdN (bs.drop i) = i + (8 + (bs.getD (i + 7) 0).toNat % 64) + (1 + (bs.getD (i + (8 + (bs.getD (i + 7) 0).toNat % 64)) 0).toNat % 64) := by
  unfold rdN TextN; rw [rd1_drop, rd2_drop, getD_drop', getD_drop']; simp only [Nat.add_zero]; omega
theorem rdCl_drop (bs : List UInt8) (i : Nat) : (rdCl (bs.drop i)).cells = [.int .i64 (((bs.getD i 0).toNat % 20 : Nat) + 1), .int .i64 (((bs.getD (i + 1) 0).toNat % 40 : Nat) - 4), .int .i64 ((bs.getD (i + 2) 0).toNat % 64 : Nat),
    .int .i64 (((bs.getD (i + 3) 0).toNat : Int) * 256 + (bs.getD (i + 4) 0).toNat - 256), .int .i64 (((bs.getD (i + 5) 0).toNat : Int) * 256 + (bs.getD (i + 6) 0).toNat - 256),
    .str (rdT bs (i + 8) ((bs.getD (i + 7) 0).toNat % 64)), .str (rdT bs (i + (8 + (bs.getD (i + 7) 0).toNat % 64) + 1) ((bs.getD (i + (8 + (bs.getD (i + 7) 0).toNat % 64)) 0).toNat % 64))] := by
  unfold rdCl Cl.cells
  simp only [rd1_drop, rd2_drop, rdText_drop, getD_drop', Nat.add_zero, Int.natCast_emod]
  rfl
theorem lst1 {H : Heap} {b k : Nat} {cs : List IV} {x : IV} (h : H[b]? = some (.row cs false)) (hx : x.one = true) (hk : k < cs.length) : lstV H 1 (.ptr b k) x = some (.tuple [], H.set b (.row (cs.set k x) false)) := by
  rw [lstV_ptr, h, putO_one hx hk]; rfl
theorem lstn {H : Heap} {b n : Nat} {cs xs : List IV} (h : H[b]? = some (.row cs false)) (hx : xs.all IV.one = true) (hn : xs.length = n) (hk : cs.length = n) : lstV H n (.ptr b 0) (.agg xs) = some (.tuple [], H.set b (.row xs false)) := by
  rw [lstV_ptr, h, putO_all hx hn hk]; rfl
set_option maxHeartbeats 1000000 in
theorem ref_dec_go {cal : FuncId → Bool} {φ : Oracle} {N : Nat} {fa ft : FuncId} (ha : RAtOk φ fa) (ht : RTextOk φ ft) {B : Nat} {v : IV} {bs : List UInt8} (hl : low B v) (hbs : bs.length ≤ 65536) {gE0 : IV → Heap → Option Out} {Q : Out → Prop} {H0 : Heap} {out : List Cl}
    (hQ : ∀ v' H', Keep B H0 H' → Buf B 7 H' v' (flat7 out) → Wp (gE0 v' H') Q) :
    ∀ (d i n : Nat) (acc : List Cl) (w : IV) (H : Heap), acc.length + d = 200 → d < n → i ≤ 70000 → acc ++ dec d (bs.drop i) = out → B ≤ H.length → Keep B H0 H → BS H v bs → Buf B 7 H w (flat7 acc) →
      Wp (veneerref08DecodeC0S cal φ N fa ft gE0 n v w (.int .i64 (i : Nat)) H) Q := by
  intro d
  induction d with
  | zero =>
    intro i n acc w H hk hn hi hout hB hK hb hw
    obtain ⟨n, rfl⟩ : ∃ j, n = j + 1 := ⟨n - 1, by omega⟩
    have : acc = out := by simpa [dec] using hout
    subst this
    rw [veneerref08DecodeC0S, hb.len, ob_some, lbin_lss, ob_some]
    have hc := hw.calls
    cases decide (((i : Nat) : Int) < (bs.length : Nat))
    · simp only [isB_ft, gq_false, ob_some, lpick_false, cnd_false]
      exact hQ w H hK hw
    · simp only [isB_tt, gq_true, ob_some, hc.len, lbin_lss]
      rw [lpick_true, ob_some, decide_eq_false (by omega), cnd_false]
      exact hQ w H hK hw
  | succ d ih =>
    intro i n acc w H hk hn hi hout hB hK hb hw
    obtain ⟨n, rfl⟩ : ∃ j, n = j + 1 := ⟨n - 1, by omega⟩
    rw [veneerref08DecodeC0S, hb.len, ob_some, lbin_lss, ob_some]
    have hc := hw.calls
    by_cases hlt : i < bs.length
    · rw [decide_eq_true (by omega)]
      simp only [isB_tt, gq_true, ob_some, hc.len, lbin_lss]
      rw [lpick_true, ob_some, decide_eq_true (by omega), cnd_true]
      have hne : bs.drop i ≠ [] := by intro e; have := congrArg List.length e; simp at this; omega
      rw [dec, if_neg hne] at hout
      have hcells := rdCl_drop bs i
      have hN := rdN_drop bs i
      have byte : ∀ k, (bs.getD k 0).toNat < 256 := fun k => (bs.getD k 0).toNat_lt
      have at' := fun (H : Heap) (h : BS H v bs) (k : Nat) => ha H v bs k h
      have r20 := remk (bs.getD i 0).toNat 20 (c := 20) rfl (by omega)
      have r40 := remk (bs.getD (i + 1) 0).toNat 40 (c := 40) rfl (by omega)
      have r64 := remk (bs.getD (i + 2) 0).toNat 64 (c := 64) rfl (by omega)
      have r64b := remk (bs.getD (i + 7) 0).toNat 64 (c := 64) rfl (by omega)
      have wk : ∀ k : Nat, k ≤ 8 → IntKind.wrap .i64 (((i : Nat) : Int) + ((k : Nat) : Int)) = ((i + k : Nat) : Int) := fun k hk => by rw [wrap_i64 (by omega) (by omega)]; omega
      have w1 : IntKind.wrap .i64 (((i : Nat) : Int) + 1) = ((i + 1 : Nat) : Int) := wk 1 (by omega)
      have w2 : IntKind.wrap .i64 (((i : Nat) : Int) + 2) = ((i + 2 : Nat) : Int) := wk 2 (by omega)
      have w3 : IntKind.wrap .i64 (((i : Nat) : Int) + 3) = ((i + 3 : Nat) : Int) := wk 3 (by omega)
      have w4 : IntKind.wrap .i64 (((i : Nat) : Int) + 4) = ((i + 4 : Nat) : Int) := wk 4 (by omega)
      have w5 : IntKind.wrap .i64 (((i : Nat) : Int) + 5) = ((i + 5 : Nat) : Int) := wk 5 (by omega)
      have w6 : IntKind.wrap .i64 (((i : Nat) : Int) + 6) = ((i + 6 : Nat) : Int) := wk 6 (by omega)
      have w7 : IntKind.wrap .i64 (((i : Nat) : Int) + 7) = ((i + 7 : Nat) : Int) := wk 7 (by omega)
      have w8 : IntKind.wrap .i64 (((i : Nat) : Int) + 8) = ((i + 8 : Nat) : Int) := wk 8 (by omega)
      simp only [at' H hb, ob_some, r20, r40, r64, lbin_add, lbin_sub, w1, w2]
      rw [wrap_i64 (x := (((bs.getD i 0).toNat % 20 : Nat) : Int) + 1) (by omega) (by omega), wrap_i64 (x := (((bs.getD (i + 1) 0).toNat % 40 : Nat) : Int) - 4) (by omega) (by omega)]
      have z1 : ∀ x y z : Int, lbld [(.int .i64 0), (.int .i64 0), (.int .i64 0), (.int .i64 0), (.int .i64 0), (.str []), (.str [])] [(0, 1, .int .i64 x), (1, 1, .int .i64 y), (2, 1, .int .i64 z)] = some (.agg [.int .i64 x, .int .i64 y, .int .i64 z, .int .i64 0, .int .i64 0, .str [], .str []]) := fun x y z => rfl
      rw [z1, ob_some, lzbox_eq, ob_some]
      simp only [cells_agg]
      have g1 : ∀ cs, (H ++ [IObj.row cs false])[H.length]? = some (.row cs false) := fun cs => by simp
      have st : ∀ cs x, (H ++ [IObj.row cs false]).set H.length x = H ++ [x] := fun cs x => by simp
      have b1 : ∀ cs, BS (H ++ [IObj.row cs false]) v bs := fun cs => hb.keep' hl (Keep.push H _ hB)
      rw [lstn (g1 _) (by rfl) (by rfl) (by rfl), ob_some, st]
      have e3 := byte (i + 3)
      have e4 := byte (i + 4)
      have e5 := byte (i + 5)
      have e6 := byte (i + 6)
      have e7 := byte (i + 7)
      simp only [at' _ (b1 _), ob_some, w3, w4, lbin_mul, lbin_add, lbin_sub, loff_ptr, Nat.zero_add]
      rw [wrap_i64 (x := ((bs.getD (i + 3) 0).toNat : Int) * 256) (by omega) (by omega), wrap_i64 (x := ((bs.getD (i + 3) 0).toNat : Int) * 256 + _) (by omega) (by omega), wrap_i64 (x := ((bs.getD (i + 3) 0).toNat : Int) * 256 + _ - 256) (by omega) (by omega)]
      rw [lst1 (g1 _) (by rfl) (by simp), ob_some, st]
      simp only [at' _ (b1 _), ob_some, w5, w6, lbin_mul, lbin_add, lbin_sub, loff_ptr, Nat.zero_add]
      rw [wrap_i64 (x := ((bs.getD (i + 5) 0).toNat : Int) * 256) (by omega) (by omega), wrap_i64 (x := ((bs.getD (i + 5) 0).toNat : Int) * 256 + _) (by omega) (by omega), wrap_i64 (x := ((bs.getD (i + 5) 0).toNat : Int) * 256 + _ - 256) (by omega) (by omega)]
      rw [lst1 (g1 _) (by rfl) (by simp), ob_some, st]
      simp only [at' _ (b1 _), ob_some, w7, w8, r64b, lbin_add, loff_ptr, Nat.zero_add, List.set_cons_succ, List.set_cons_zero]
      generalize hn1 : (bs.getD (i + 7) 0).toNat % 64 = n1 at *
      have hn1' : n1 < 64 := by omega
      have wJ : IntKind.wrap .i64 (((i : Nat) : Int) + IntKind.wrap .i64 (8 + ((n1 : Nat) : Int))) = ((i + (8 + n1) : Nat) : Int) := by
        rw [wrap_i64 (x := 8 + ((n1 : Nat) : Int)) (by omega) (by omega), wrap_i64 (by omega) (by omega)]; omega
      have wJ1 : IntKind.wrap .i64 (((i + (8 + n1) : Nat) : Int) + 1) = ((i + (8 + n1) + 1 : Nat) : Int) := by rw [wrap_i64 (by omega) (by omega)]; omega
      rw [wJ, wJ1]
      generalize hcs : [IV.int .i64 (((bs.getD i 0).toNat % 20 : Nat) + 1), IV.int .i64 (((bs.getD (i + 1) 0).toNat % 40 : Nat) - 4), IV.int .i64 ((bs.getD (i + 2) 0).toNat % 64 : Nat), IV.int .i64 (((bs.getD (i + 3) 0).toNat : Int) * 256 + (bs.getD (i + 4) 0).toNat - 256), IV.int .i64 (((bs.getD (i + 5) 0).toNat : Int) * 256 + (bs.getD (i + 6) 0).toNat - 256), IV.str [], IV.str []] = cs
      have hlen : cs.length = 7 := by rw [← hcs]; rfl
      have hlH : low H.length v := low_mono hl hB
      have kX : Keep H.length H (H ++ [IObj.row cs false]) := Keep.push H _ (Nat.le_refl _)
      have rX := g1 cs
      have lX : (H ++ [IObj.row cs false]).length = H.length + 1 := by simp
      generalize H ++ [IObj.row cs false] = X at *
      refine Wp.call (ht X v bs (i + 8) n1 (low_mono hl (by omega)) (hb.keep' hlH kX) (by omega) (by omega)) ?_
      rintro ⟨x, H2⟩ ⟨e1, k2⟩
      simp only at e1 k2 ⊢
      subst e1
      have k2B : Keep H.length X H2 := k2.mono (by omega)
      have kk2 := kX.trans k2B
      have r2 : H2[H.length]? = some (.row cs false) := k2.get (by omega) rX
      rw [lst1 r2 (by rfl) (by omega), ob_some]
      simp only
      have kk3 := kk2.trans (Keep.set H2 (IObj.row (cs.set 5 (.str (rdT bs (i + 8) n1))) false) (Nat.le_refl _))
      have r3 : (H2.set H.length (IObj.row (cs.set 5 (.str (rdT bs (i + 8) n1))) false))[H.length]? = some (IObj.row (cs.set 5 (.str (rdT bs (i + 8) n1))) false) := set_at r2
      generalize H2.set H.length (IObj.row (cs.set 5 (.str (rdT bs (i + 8) n1))) false) = H3 at *
      have l3 : H.length < H3.length := (List.getElem?_eq_some_iff.1 r3).1
      have b3 := hb.keep' hlH kk3
      simp only [at' _ b3, ob_some]
      rw [remk _ 64 (c := 64) rfl (by omega), ob_some]
      generalize hn2 : (bs.getD (i + (8 + n1)) 0).toNat % 64 = n2 at *
      have hn2' : n2 < 64 := by omega
      refine Wp.call (ht H3 v bs (i + (8 + n1) + 1) n2 (low_mono hl (by omega)) b3 (by omega) (by omega)) ?_
      rintro ⟨x, H4⟩ ⟨e4, k4⟩
      simp only at e4 k4 ⊢
      subst e4
      have kk4 := kk3.trans (k4.mono (show H.length ≤ H3.length by omega))
      have r4 := k4.get l3 r3
      rw [lst1 r4 (by rfl) (by simp; omega), ob_some]
      simp only
      have kk5 := kk4.trans (Keep.set H4 (IObj.row ((cs.set 5 (.str (rdT bs (i + 8) n1))).set 6 (.str (rdT bs (i + (8 + n1) + 1) n2))) false) (Nat.le_refl _))
      have r5 := set_at (o' := IObj.row ((cs.set 5 (.str (rdT bs (i + 8) n1))).set 6 (.str (rdT bs (i + (8 + n1) + 1) n2))) false) r4
      generalize H4.set H.length (IObj.row ((cs.set 5 (.str (rdT bs (i + 8) n1))).set 6 (.str (rdT bs (i + (8 + n1) + 1) n2))) false) = H5 at *
      have hfin : (cs.set 5 (.str (rdT bs (i + 8) n1))).set 6 (.str (rdT bs (i + (8 + n1) + 1) n2)) = (rdCl (bs.drop i)).cells := by rw [hcells, ← hcs]; rfl
      rw [hfin] at r5
      rw [lbin_add, ob_some, lbin_add, ob_some]
      have wE : IntKind.wrap .i64 (((i + (8 + n1) : Nat) : Int) + IntKind.wrap .i64 (1 + ((n2 : Nat) : Int))) = ((i + (8 + n1) + (1 + n2) : Nat) : Int) := by
        rw [wrap_i64 (x := 1 + ((n2 : Nat) : Int)) (by omega) (by omega), wrap_i64 (by omega) (by omega)]; omega
      rw [wE, cell7 r5, ob_some]
      have z2 : lbldS H5 7 1 [(.int .i64 0), (.int .i64 0), (.int .i64 0), (.int .i64 0), (.int .i64 0), (.str []), (.str [])] [(0, .agg (rdCl (bs.drop i)).cells)] = some (.slice H5.length 0 1 1 true 7, H5 ++ [.row (rdCl (bs.drop i)).cells false]) := rfl
      rw [z2, ob_some]
      simp only
      have kk6 := kk5.trans (Keep.push H5 [IObj.row (rdCl (bs.drop i)).cells false] (by have := kk5.2; omega))
      have hw5 : Buf B 7 (H5 ++ [IObj.row (rdCl (bs.drop i)).cells false]) w (flat7 acc) := by
        refine hw.keep kk6 (fun r n' m' ex e => ?_)
        rcases hw with ⟨e', _⟩ | ⟨r', n', ex', e', _, hr, _⟩
        · rw [e] at e'; cases e'
        · rw [e] at e'; cases e'; exact (List.getElem?_eq_some_iff.1 hr).1
      have hx6 : Buf 0 7 (H5 ++ [IObj.row (rdCl (bs.drop i)).cells false]) (.slice H5.length 0 1 1 true 7) (flat7 [rdCl (bs.drop i)]) := .inr ⟨_, 1, true, rfl, by omega, by simp [flat7], rfl⟩
      obtain ⟨w7, H7, a7, b7, k7⟩ := app_own (b := 72) hw5 (by have := kk6.2; omega) (by omega) hx6 (flat7_one _) (by simp only [flat7_length]; simp; omega)
      rw [← flat7_append] at b7
      rw [a7, ob_some]
      simp only
      have kk7 := (kk6.mono hB).trans k7
      have hi' : i + rdN (bs.drop i) ≤ 70000 := by rw [hN]; omega
      rw [← hN]
      exact ih (i + rdN (bs.drop i)) n (acc ++ [rdCl (bs.drop i)]) w7 H7 (by simp; omega) (by omega) hi' (by rw [← List.drop_drop] ; simpa using hout) (by have := kk7.2; omega) (hK.trans kk7) (hb.keep' hl kk7) b7
    · rw [decide_eq_false (by omega)]
      simp only [isB_ft, gq_false, ob_some, lpick_false, cnd_false]
      have he : bs.drop i = [] := List.drop_eq_nil_of_le (by omega)
      rw [he, dec_nil', List.append_nil] at hout
      subst hout
      exact hQ w H hK hw
theorem ref_dec {cal : FuncId → Bool} {φ : Oracle} {N : Nat} {fa ft : FuncId} (hN : 200 < N) (ha : RAtOk φ fa) (ht : RTextOk φ ft) {H : Heap} {v : IV} {bs : List UInt8} (hl : low H.length v) (hb : BS H v bs) (hbs : bs.length ≤ 65536) :
    Wp (veneerref08DecodeS cal φ N fa ft v H) fun r => CS r.2 r.1 (dec 200 bs) ∧ low r.2.length r.1 ∧ Kp H r.2 := by
  unfold veneerref08DecodeS veneerref08DecodeC5S veneerref08DecodeC4S veneerref08DecodeC3S veneerref08DecodeC2S veneerref08DecodeC1S
  have z : lbldS H 7 0 [(.int .i64 0), (.int .i64 0), (.int .i64 0), (.int .i64 0), (.int .i64 0), (.str []), (.str [])] [] = some (.slice H.length 0 0 0 true 7, H ++ [.row [] false]) := rfl
  rw [z, ob_some]
  have k1 : Keep H.length H (H ++ [.row [] false]) := Keep.push H _ (Nat.le_refl _)
  refine ref_dec_go ha ht hl hbs (H0 := H) (out := dec 200 bs) (fun v' H' hk hv => Wp.ret ⟨hv.calls, hv.low, hk⟩) 200 0 N [] _ _ rfl hN (by omega) (by simp) (by simp) k1 (hb.keep' hl k1) (.inr ⟨_, 0, true, rfl, Nat.le_refl _, by simp [flat7], rfl⟩)
def RDecOk (φ : Oracle) (f : FuncId) : Prop := ∀ (H : Heap) (v : IV) (bs : List UInt8), low H.length v → BS H v bs → bs.length ≤ 65536 → Wp (φ f [v] H) fun r => CS r.2 r.1 (dec 200 bs) ∧ low r.2.length r.1 ∧ Kp H r.2
/-- Ahead of any cut-off: no byte longer. -/
theorem decodes_l {cal : FuncId → Bool} {φ : Oracle} {N : Nat} {aw d rd m : FuncId} (ha : AwakeOk φ aw) (hd : DecOk φ d) (hr : RDecOk φ rd) (hm : SameOk φ m) {H : Heap} {v : IV} {bs : List UInt8} (hl : low H.length v) (hb : BS H v bs) :
    Wp (veneerlaw08CallDecodesS cal φ N aw d rd m v H) fun r => r.1 = .bool true := by
  unfold veneerlaw08CallDecodesS
  rw [ha, ob_some]
  simp only
  rw [iun_not, ob_some, Bool.not_true, cnd_false, hb.len, ob_some, lbin_gtr, ob_some]
  refine Wp.dec (fun _ => Wp.ret rfl) (fun hbig => ?_)
  have z : lbldS H 1 0 [(.int .u8 0)] [] = some (.slice H.length 0 0 0 true 1, H ++ [.row [] false]) := rfl
  rw [z, ob_some]
  simp only
  have k1 : Keep H.length H (H ++ [.row [] false]) := Keep.push H _ (Nat.le_refl _)
  obtain ⟨w2, H2, a2, b2, k2⟩ := app_bs (acc := []) (.inr ⟨_, 0, true, rfl, Nat.le_refl _, by simp [bytes], rfl⟩ : Buf H.length 1 (H ++ [.row [] false]) (.slice H.length 0 0 0 true 1) (bytes [])) (by simp) (hb.keep' hl k1) (by simp; omega)
  rw [a2, ob_some]
  simp only
  have kk := k1.trans k2
  rw [List.nil_append] at b2
  obtain ⟨p1, p2, p3⟩ := b2.bs
  obtain ⟨w5, X5, a5, b5, c5⟩ := dec_ex hd p2 p3 p1
  rw [a5, ob_some]
  simp only
  have kk5 := kk.trans (Keep.push (B := H.length) H2 X5 (by have := kk.2; omega))
  refine Wp.call (hr _ v bs (low_mono hl kk5.2) (hb.keep' hl kk5) (by omega)) ?_
  rintro ⟨w6, H6⟩ ⟨b6, c6, k6⟩
  simp only at b6 c6 k6 ⊢
  have b5' := b5.keep' c5 k6
  have hlen := dec_len 200 bs
  rw [hm _ _ _ _ _ b5' b6 (by omega), ob_some]
  have kk6 := kk5.trans (k6.mono kk5.2)
  have p1' : BS H6 w2 bs := (p1.app X5).keep' (low_mono p3 (by simp)) k6
  simp only [decide_true, isB_tt, gq_true, ob_some, p1'.b2s, (hb.keep' hl kk6).b2s, lbin_seq]
  rw [lpick_true]
  exact Wp.ret rfl
end Go.Shade
/- CALL, part 21: the document's Encode and Script; 'CallEncodes'. -/
namespace Go.Shade
set_option linter.unusedVariables false
set_option linter.unusedSimpArgs false
theorem may_key (c : Cl) : c.may = (!(((((decide (c.op < 1) || decide (20 < c.op)) || decide (c.fd < -4)) || decide (35 < c.fd)) || decide (c.fl < 0)) || decide (63 < c.fl)) && (((((decide (-256 ≤ c.n) && decide (c.n ≤ 65279)) && decide (-256 ≤ c.off)) && decide (c.off ≤ 65279)) && decide ((c.a.length : Int) ≤ 63)) && decide ((c.b.length : Int) ≤ 63))) := by
  rw [Bool.eq_iff_iff, Cl.may_iff]
  simp only [Bool.and_eq_true, Bool.not_eq_true', Bool.or_eq_false_iff, decide_eq_true_eq, decide_eq_false_iff_not]
  omega
theorem ref_may {cal : FuncId → Bool} {φ : Oracle} {N : Nat} (c : Cl) (H : Heap) : veneerref08MayS cal φ N (.agg c.cells) H = some (.bool c.may, H ++ [IObj.row c.cells false]) := by
  unfold veneerref08MayS
  rw [may_key]
  have hb : lbox H (.agg c.cells) = some (.ptr H.length 0, H ++ [IObj.row c.cells false]) := lbox_agg rfl
  simp only [hb, go_sem]
  cases h1 : decide (c.op < 1)
  case true => simp only [go_sem, Cl.cells, h1, Bool.true_or, Bool.not_true, Bool.false_and]
  cases h2 : decide (20 < c.op)
  case true => simp only [go_sem, Cl.cells, h1, h2, Bool.true_or, Bool.or_true, Bool.not_true, Bool.false_and]
  cases h3 : decide (c.fd < -4)
  case true => simp only [go_sem, Cl.cells, h1, h2, h3, Bool.true_or, Bool.or_true, Bool.not_true, Bool.false_and]
  cases h4 : decide (35 < c.fd)
  case true => simp only [go_sem, Cl.cells, h1, h2, h3, h4, Bool.true_or, Bool.or_true, Bool.not_true, Bool.false_and]
  cases h5 : decide (c.fl < 0)
  case true => simp only [go_sem, Cl.cells, h1, h2, h3, h4, h5, Bool.true_or, Bool.or_true, Bool.not_true, Bool.false_and]
  cases h6 : decide (63 < c.fl)
  case true => simp only [go_sem, Cl.cells, h1, h2, h3, h4, h5, h6, Bool.true_or, Bool.or_true, Bool.not_true, Bool.false_and]
  cases k1 : decide (-256 ≤ c.n)
  case false => simp only [go_sem, Cl.cells, h1, h2, h3, h4, h5, h6, k1, Bool.or_false, Bool.not_false, Bool.true_and, Bool.false_and]
  cases k2 : decide (c.n ≤ 65279)
  case false => simp only [go_sem, Cl.cells, h1, h2, h3, h4, h5, h6, k1, k2, Bool.or_false, Bool.not_false, Bool.true_and, Bool.false_and]
  cases k3 : decide (-256 ≤ c.off)
  case false => simp only [go_sem, Cl.cells, h1, h2, h3, h4, h5, h6, k1, k2, k3, Bool.or_false, Bool.not_false, Bool.true_and, Bool.false_and]
  cases k4 : decide (c.off ≤ 65279)
  case false => simp only [go_sem, Cl.cells, h1, h2, h3, h4, h5, h6, k1, k2, k3, k4, Bool.or_false, Bool.not_false, Bool.true_and, Bool.false_and]
  cases k5 : decide ((c.a.length : Int) ≤ 63)
  case false => simp only [go_sem, Cl.cells, h1, h2, h3, h4, h5, h6, k1, k2, k3, k4, k5, Bool.or_false, Bool.not_false, Bool.true_and, Bool.false_and]
  simp only [go_sem, Cl.cells, h1, h2, h3, h4, h5, h6, k1, k2, k3, k4, k5, Bool.or_false, Bool.not_false, Bool.true_and]
def RMayOk (φ : Oracle) (f : FuncId) : Prop := ∀ (c : Cl) (H : Heap), φ f [.agg c.cells] H = some (.bool c.may, H ++ [IObj.row c.cells false])
theorem ub_mod' (x : Int) : ub (x % 256) = ub x := by unfold ub; rw [Int.emod_emod]
theorem ref_two {cal : FuncId → Bool} {φ : Oracle} {N : Nat} {x : Int} (h1 : -256 ≤ x) (h2 : x ≤ 65279) (H : Heap) : veneerref08TwoS cal φ N (.int .i64 x) H = some (.slice H.length 0 2 2 true 1, H ++ [IObj.row (bytes [ub ((x + 256) / 256), ub (x + 256)]) false]) := by
  unfold veneerref08TwoS
  rw [lbin_add, ob_some, wrap_i64 (by omega) (by omega), lbin_quo (by decide), ob_some, Int.tdiv_eq_ediv_of_nonneg (by omega), wrap_i64 (by omega) (by omega), lcvt_int, ob_some, wrap_u8, ob_some, lbin_rem (by decide), ob_some, Int.tmod_eq_emod_of_nonneg (by omega), lcvt_int, ob_some, wrap_u8, ub_mod']
  rfl
def RTwoOk (φ : Oracle) (f : FuncId) : Prop := ∀ (x : Int) (H : Heap), -256 ≤ x → x ≤ 65279 → φ f [.int .i64 x] H = some (.slice H.length 0 2 2 true 1, H ++ [IObj.row (bytes [ub ((x + 256) / 256), ub (x + 256)]) false])
def REncP (c : Cl) (H : Heap) (r : Out) : Prop := Kp H r.2 ∧ ((c.may = true ∧ ∃ v', r.1 = .tuple [v', .int .i64 0] ∧ BS r.2 v' c.enc ∧ low r.2.length v') ∨ (c.may = false ∧ r.1 = .tuple [.nilSlice, .int .i64 22]))
def REncOk (φ : Oracle) (f : FuncId) : Prop := ∀ (c : Cl) (H : Heap), Wp (φ f [.agg c.cells] H) (REncP c H)
theorem Buf.push {B s : Nat} {H : Heap} {v : IV} {cs : List IV} (h : Buf B s H v cs) (X : Heap) : Buf B s (H ++ X) v cs :=
  h.keep (Keep.push (B := H.length) H X (Nat.le_refl _)) (fun r n m ex e => by
    rcases h with ⟨e', _⟩ | ⟨r', n', ex', e', _, hr, _⟩
    · rw [e] at e'; cases e'
    · rw [e] at e'; cases e'; exact (List.getElem?_eq_some_iff.1 hr).1)
theorem newBS (K : Heap) (bs : List UInt8) {n : Nat} (hn : n = bs.length) {ex : Bool} : BS (K ++ [IObj.row (bytes bs) false]) (.slice K.length 0 n n ex 1) bs := by
  subst hn; exact ownBS (by simp)
theorem ref_enc {cal : FuncId → Bool} {φ : Oracle} {N : Nat} {fm ft : FuncId} (hm : RMayOk φ fm) (ht : RTwoOk φ ft) (c : Cl) (H : Heap) : Wp (veneerref08EncodeS cal φ N fm ft (.agg c.cells) H) (REncP c H) := by
  unfold veneerref08EncodeS
  have hb : lbox H (.agg c.cells) = some (.ptr H.length 0, H ++ [IObj.row c.cells false]) := lbox_agg rfl
  rw [hb, ob_some]
  simp only
  have r1 : (H ++ [IObj.row c.cells false])[H.length]? = some (.row c.cells false) := by simp
  rw [cell7 r1, ob_some, hm, ob_some]
  simp only
  have kk : Keep (H.length + 1) (H ++ [IObj.row c.cells false]) (H ++ [IObj.row c.cells false] ++ [IObj.row c.cells false]) := Keep.push _ _ (by simp)
  have kh : Keep H.length H (H ++ [IObj.row c.cells false]) := Keep.push _ _ (Nat.le_refl _)
  have l1 : (H ++ [IObj.row c.cells false]).length = H.length + 1 := by simp
  generalize H ++ [IObj.row c.cells false] = K at *
  have kc : ∀ {K'}, Keep (H.length + 1) K K' → K'[H.length]? = some (.row c.cells false) := fun k => k.get (by omega) r1
  have hl : ∀ {K'}, Keep (H.length + 1) K K' → H.length + 1 ≤ K'.length := fun k => by have := k.2; omega
  rw [iun_not, ob_some]
  cases hmay : c.may with
  | false =>
    rw [Bool.not_false, cnd_true]
    exact Wp.ret ⟨kh.trans (kk.mono (by omega)), .inr ⟨hmay, rfl⟩⟩
  | true =>
    rw [Bool.not_true, cnd_false]
    generalize K ++ [IObj.row c.cells false] = K1 at *
    obtain ⟨⟨m1, m2⟩, ⟨m3, m4⟩, ⟨m5, m6⟩, ⟨m7, m8⟩, ⟨m9, m10⟩, m11, m12⟩ := c.may_iff.1 hmay
    have hcell : ∀ {K'}, Keep (H.length + 1) K K' → ∀ k, lload1 K' (.ptr H.length k) = c.cells[k]? := by
      intro K' h k; rw [lload1_ptr, kc h]; rfl
    have w3 : IntKind.wrap .i64 (c.op - 1) = c.op - 1 := wrap_i64 (by omega) (by omega)
    have w4 : IntKind.wrap .i64 (c.fd + 4) = c.fd + 4 := wrap_i64 (by omega) (by omega)
    simp only [loff_ptr, Nat.zero_add, ob_some, hcell kk, Cl.c0, Cl.c1, Cl.c2, Cl.c3, Cl.c4, Cl.c5, Cl.c6, lbin_sub, lbin_add, w3, w4, lcvt_int, wrap_u8]
    have z1 : lbldS K1 1 3 [.int .u8 0] [(0, .int .u8 ((ub (c.op - 1)).toNat : Int)), (1, .int .u8 ((ub (c.fd + 4)).toNat : Int)), (2, .int .u8 ((ub c.fl).toNat : Int))] = some (.slice K1.length 0 3 3 true 1, K1 ++ [.row (bytes [ub (c.op - 1), ub (c.fd + 4), ub c.fl]) false]) := rfl
    rw [z1, ob_some]
    simp only
    have k2 := kk.trans (Keep.push K1 [.row (bytes [ub (c.op - 1), ub (c.fd + 4), ub c.fl]) false] (hl kk))
    have b2 : Buf (H.length + 1) 1 (K1 ++ [.row (bytes [ub (c.op - 1), ub (c.fd + 4), ub c.fl]) false]) (.slice K1.length 0 3 3 true 1) (bytes [ub (c.op - 1), ub (c.fd + 4), ub c.fl]) := .inr ⟨_, 3, true, rfl, hl kk, by simp, rfl⟩
    generalize K1 ++ [.row (bytes [ub (c.op - 1), ub (c.fd + 4), ub c.fl]) false] = K2 at *
    simp only [hcell k2, Cl.c3, ob_some]
    rw [ht _ _ m7 m8, ob_some]
    simp only
    have k3 := k2.trans (Keep.push K2 [IObj.row (bytes [ub ((c.n + 256) / 256), ub (c.n + 256)]) false] (hl k2))
    obtain ⟨v3, K3, a3, b3, q3⟩ := app_bs (b2.push [IObj.row (bytes [ub ((c.n + 256) / 256), ub (c.n + 256)]) false]) (hl k3) (newBS K2 [ub ((c.n + 256) / 256), ub (c.n + 256)] (n := 2) rfl) (by simp)
    have k4 := k3.trans q3
    rw [a3, ob_some]
    simp only [hcell k4, Cl.c4, ob_some]
    rw [ht _ _ m9 m10, ob_some]
    simp only
    have k5 := k4.trans (Keep.push K3 [IObj.row (bytes [ub ((c.off + 256) / 256), ub (c.off + 256)]) false] (hl k4))
    obtain ⟨v4, K4, a4, b4, q4⟩ := app_bs (b3.push [IObj.row (bytes [ub ((c.off + 256) / 256), ub (c.off + 256)]) false]) (hl k5) (newBS K3 [ub ((c.off + 256) / 256), ub (c.off + 256)] (n := 2) rfl) (by simp)
    have k6 := k5.trans q4
    rw [a4, ob_some]
    simp only [hcell k6, Cl.c5, ob_some, llen_str, lcvt_int, wrap_u8]
    have z2 : ∀ (K : Heap) (x : UInt8), lbldS K 1 1 [.int .u8 0] [(0, .int .u8 (x.toNat : Int))] = some (.slice K.length 0 1 1 true 1, K ++ [.row (bytes [x]) false]) := fun K x => rfl
    rw [z2, ob_some]
    simp only
    have k7 := k6.trans (Keep.push K4 [IObj.row (bytes [ub (c.a.length : Nat)]) false] (hl k6))
    obtain ⟨v5, K5, a5, b5, q5⟩ := app_bs (b4.push [IObj.row (bytes [ub (c.a.length : Nat)]) false]) (hl k7) (newBS K4 [ub (c.a.length : Nat)] (n := 1) rfl) (by simp)
    have k8 := k7.trans q5
    rw [a5, ob_some]
    simp only [hcell k8, Cl.c5, ob_some]
    obtain ⟨v6, K6, a6, b6, q6⟩ := app_str (b := 1) (l := c.a) b5 (hl k8) (by simp [bytes_length]; omega)
    have k9 := k8.trans q6
    rw [a6, ob_some]
    simp only [hcell k9, Cl.c6, ob_some, llen_str, lcvt_int, wrap_u8]
    rw [z2, ob_some]
    simp only
    rw [← bytes_append] at b6
    have k10 := k9.trans (Keep.push K6 [IObj.row (bytes [ub (c.b.length : Nat)]) false] (hl k9))
    obtain ⟨v7, K7, a7, b7, q7⟩ := app_bs (b6.push [IObj.row (bytes [ub (c.b.length : Nat)]) false]) (hl k10) (newBS K6 [ub (c.b.length : Nat)] (n := 1) rfl) (by simp; omega)
    have k11 := k10.trans q7
    rw [a7, ob_some]
    simp only [hcell k11, Cl.c6, ob_some]
    obtain ⟨v8, K8, a8, b8, q8⟩ := app_str (b := 1) (l := c.b) b7 (hl k11) (by simp [bytes_length]; omega)
    have k12 := k11.trans q8
    rw [a8, ob_some]
    rw [← bytes_append] at b8
    refine Wp.ret ⟨kh.trans (k12.mono (by omega)), .inl ⟨hmay, v8, rfl, ?_, b8.bs.2.2⟩⟩
    have := b8.bs.1
    simpa [Cl.enc] using this
end Go.Shade
/- CALL, part 22: the document's Script; 'CallEncodes'. -/
namespace Go.Shade
set_option linter.unusedVariables false
set_option linter.unusedSimpArgs false
def RScrP (l : List Cl) (H : Heap) (r : Out) : Prop := Kp H r.2 ∧ ((okScr l = true ∧ ∃ v', r.1 = .tuple [v', .int .i64 0] ∧ BS r.2 v' (encs l) ∧ low r.2.length v') ∨ (okScr l = false ∧ r.1 = .tuple [.nilSlice, .int .i64 22]))
theorem encs_snoc (l : List Cl) (c : Cl) : encs (l ++ [c]) = encs l ++ c.enc := by simp [encs]
theorem take_snoc {l : List Cl} {i : Nat} {c : Cl} (h : l[i]? = some c) : l.take (i + 1) = l.take i ++ [c] := by
  have hlt := (List.getElem?_eq_some_iff.1 h).1
  have he := (List.getElem?_eq_some_iff.1 h).2
  rw [List.take_succ_eq_append_getElem hlt, he]
theorem ref_script_go {cal : FuncId → Bool} {φ : Oracle} {N : Nat} {fe : FuncId} (he : REncOk φ fe) {v : IV} {l : List Cl} {H0 : Heap} (hl : low H0.length v) (hc0 : CS H0 v l) (h200 : l.length ≤ 200) :
    ∀ (d i n : Nat) (w : IV) (H : Heap), i + d = l.length → d < n → Keep H0.length H0 H → (l.take i).all Cl.may = true → Buf H0.length 1 H w (bytes (encs (l.take i))) →
      Wp (veneerref08ScriptC0S cal φ N fe (fun v4 H => some ((.tuple [v4, (.int .i64 0)]), H)) n v w (.int .i64 (i : Nat)) H) (RScrP l H0) := by
  intro d
  induction d with
  | zero =>
    intro i n w H hi hn hK hm hw
    obtain ⟨n, rfl⟩ : ∃ j, n = j + 1 := ⟨n - 1, by omega⟩
    have hc := hc0.keep' hl hK
    rw [veneerref08ScriptC0S, hc.len, ob_some, lbin_lss, ob_some, decide_eq_false (by omega), cnd_false]
    rw [List.take_of_length_le (by omega)] at hm hw
    obtain ⟨b1, b2, b3⟩ := hw.bs
    exact Wp.ret ⟨hK, .inl ⟨by unfold okScr; rw [decide_eq_true h200, hm]; rfl, w, rfl, b1, b3⟩⟩
  | succ d ih =>
    intro i n w H hi hn hK hm hw
    obtain ⟨n, rfl⟩ : ∃ j, n = j + 1 := ⟨n - 1, by omega⟩
    have hc := hc0.keep' hl hK
    rw [veneerref08ScriptC0S, hc.len, ob_some, lbin_lss, ob_some, decide_eq_true (by omega), cnd_true]
    have e1 := List.getElem?_eq_getElem (l := l) (i := i) (by omega)
    obtain ⟨b1, o1, x1, y1⟩ := hc.at e1
    rw [x1, ob_some, y1, ob_some]
    generalize hcc : l[i] = c at *
    refine Wp.call (he c H) ?_
    rintro ⟨r, H2⟩ ⟨k2, h⟩
    have kk := hK.trans (k2.mono hK.2)
    rcases h with ⟨hmay, v', e, hb, hlo⟩ | ⟨hmay, e⟩
    · simp only at e hb hlo k2 ⊢
      subst e
      rw [iextract_tuple, iextract_tuple]
      simp only [List.getElem?_cons_zero, List.getElem?_cons_succ, ob_some, lbin_neq, decide_true, Bool.not_true, cnd_false]
      have hw' : Buf H0.length 1 H2 w (bytes (encs (l.take i))) := hw.keep k2 (fun r n m ex e => by
        rcases hw with ⟨e', _⟩ | ⟨r', n', ex', e', _, hr, _⟩
        · rw [e] at e'; cases e'
        · rw [e] at e'; cases e'; exact (List.getElem?_eq_some_iff.1 hr).1)
      have n1 := encs_len hm
      have n2 := enc_len hmay
      have n3 : (l.take i).length ≤ 200 := by simp; omega
      obtain ⟨w3, H3, a3, b3, k3⟩ := app_bs hw' kk.2 hb (by omega)
      rw [a3, ob_some]
      simp only
      rw [lbin_add, ob_some, wrap_i64 (by omega) (by omega), show ((i : Nat) : Int) + 1 = ((i + 1 : Nat) : Int) by omega]
      rw [← encs_snoc, ← take_snoc e1] at b3
      exact ih (i + 1) n w3 H3 (by omega) (by omega) (kk.trans k3) (by rw [take_snoc e1, List.all_append, hm]; simp [hmay]) b3
    · simp only at e k2 ⊢
      subst e
      rw [iextract_tuple, iextract_tuple]
      have h22 : decide ((22 : Int) = 0) = false := rfl
      simp only [List.getElem?_cons_zero, List.getElem?_cons_succ, ob_some, lbin_neq, h22, Bool.not_false, cnd_true]
      refine Wp.ret ⟨kk, .inr ⟨?_, rfl⟩⟩
      unfold okScr
      rw [Bool.and_eq_false_iff]
      right
      rw [List.all_eq_false]
      exact ⟨c, List.mem_of_getElem? e1, by simp [hmay]⟩
theorem ref_script {cal : FuncId → Bool} {φ : Oracle} {N : Nat} {fe : FuncId} (hN : 200 < N) (he : REncOk φ fe) {v : IV} {l : List Cl} {H : Heap} (hl : low H.length v) (hc : CS H v l) : Wp (veneerref08ScriptS cal φ N fe v H) (RScrP l H) := by
  unfold veneerref08ScriptS veneerref08ScriptC6S veneerref08ScriptC5S veneerref08ScriptC4S veneerref08ScriptC3S veneerref08ScriptC2S veneerref08ScriptC1S
  have z : lbldS H 1 0 [(.int .u8 0)] [] = some (.slice H.length 0 0 0 true 1, H ++ [.row [] false]) := rfl
  rw [z, ob_some]
  simp only
  have k1 : Keep H.length H (H ++ [.row [] false]) := Keep.push H _ (Nat.le_refl _)
  rw [(hc.keep' hl k1).len, ob_some, lbin_gtr, ob_some]
  refine Wp.dec (fun h => Wp.ret ⟨k1, .inr ⟨?_, rfl⟩⟩) (fun h => ?_)
  · unfold okScr; rw [decide_eq_false (by omega)]; rfl
  · exact ref_script_go he hl hc (by omega) l.length 0 N _ _ (by omega) (by omega) k1 rfl (.inr ⟨_, 0, true, rfl, Nat.le_refl _, by simp [bytes, encs], rfl⟩)
def RScrOk (φ : Oracle) (f : FuncId) : Prop := ∀ (H : Heap) (v : IV) (l : List Cl), low H.length v → CS H v l → Wp (φ f [v] H) (RScrP l H)
section
variable {cal : FuncId → Bool} {φ : Oracle} {N : Nat} {aw e re m rm s rs : FuncId} (ha : AwakeOk φ aw) (he : EncOk φ e) (hre : REncOk φ re) (hm : MayOk φ m) (hrm : RMayOk φ rm) (hs : ScriptOk φ s) (hrs : RScrOk φ rs)
include he hre hm hrm
theorem encodes_go {v : IV} {l : List Cl} {H0 : Heap} (hl : low H0.length v) (hc0 : CS H0 v l) (h300 : l.length ≤ 300) {gE0 : IV → Heap → Option Out} {Q : Out → Prop} (hQ : ∀ H, Keep H0.length H0 H → Wp (gE0 v H) Q) :
    ∀ (d i n : Nat) (H : Heap), i + d = l.length → d < n → Keep H0.length H0 H → Wp (veneerlaw08CallEncodesC0S cal φ N aw e re m rm s rs gE0 n v (.int .i64 (l.length : Nat)) (.int .i64 (i : Nat)) H) Q := by
  intro d
  induction d with
  | zero =>
    intro i n H hi hn hK
    obtain ⟨n, rfl⟩ : ∃ j, n = j + 1 := ⟨n - 1, by omega⟩
    rw [veneerlaw08CallEncodesC0S, lbin_lss, ob_some, decide_eq_false (by omega), cnd_false]
    exact hQ H hK
  | succ d ih =>
    intro i n H hi hn hK
    obtain ⟨n, rfl⟩ : ∃ j, n = j + 1 := ⟨n - 1, by omega⟩
    rw [veneerlaw08CallEncodesC0S, lbin_lss, ob_some, decide_eq_true (by omega), cnd_true]
    have hc := hc0.keep' hl hK
    have e1 := List.getElem?_eq_getElem (l := l) (i := i) (by omega)
    obtain ⟨b1, o1, x1, y1⟩ := hc.at e1
    generalize hcc : l[i] = c at *
    rw [x1, ob_some, y1, ob_some]
    have enc : ∃ v1 X x b, φ e [.agg c.cells] H = some (.tuple [v1, .int .i64 x], H ++ X) ∧ BS (H ++ X) v1 b ∧ low (H ++ X).length v1 ∧ x = (if c.may = true then 0 else 22) ∧ b = (if c.may = true then c.enc else []) := by
      cases hmay : c.may with
      | true => obtain ⟨v1, X, a, b, d⟩ := enc_ex he hmay H; exact ⟨v1, X, 0, c.enc, a, b, d, rfl, rfl⟩
      | false => exact ⟨.nilSlice, [], 22, [], by rw [enc_nx he hmay, List.append_nil], .inl ⟨rfl, rfl⟩, lowNil, rfl, rfl⟩
    obtain ⟨v1, X, x, b, a1, hb1, hl1, hx, hb⟩ := enc
    rw [a1, ob_some]
    simp only
    have k1 := hK.trans (Keep.push (B := H0.length) H X hK.2)
    obtain ⟨b2, o2, x2, y2⟩ := (hc0.keep' hl k1).at e1
    rw [x1] at x2; cases x2
    rw [iextract_tuple, iextract_tuple]
    simp only [List.getElem?_cons_zero, List.getElem?_cons_succ, ob_some, y2]
    refine Wp.call (hre c _) ?_
    rintro ⟨r, H2⟩ ⟨k2, h⟩
    have kk := k1.trans (k2.mono k1.2)
    have ref : ∃ v2, r = .tuple [v2, .int .i64 x] ∧ BS H2 v2 b := by
      rcases h with ⟨hmay, v', e, hb', hlo⟩ | ⟨hmay, e⟩
      · exact ⟨v', by simp only at e; rw [e, hx, if_pos hmay], by rw [hb, if_pos hmay]; exact hb'⟩
      · exact ⟨.nilSlice, by simp only at e; rw [e, hx, if_neg (by simp [hmay])], by rw [hb, if_neg (by simp [hmay])]; exact .inl ⟨rfl, rfl⟩⟩
    obtain ⟨v2, rfl, hb2⟩ := ref
    rw [iextract_tuple, iextract_tuple]
    obtain ⟨b3, o3, x3, y3⟩ := (hc0.keep' hl kk).at e1
    rw [x1] at x3; cases x3
    have hb1' := hb1.keep' hl1 k2
    simp only at hb1' y3
    simp only [List.getElem?_cons_zero, List.getElem?_cons_succ, ob_some, hb1'.b2s, hb2.b2s, lbin_sneq, decide_true, Bool.not_true, isB_ff, gq_true, ge_true, lbin_neq, lpick_false, x1, y3, hm c H2]
    have k3 := kk.trans (Keep.push (B := H0.length) H2 [IObj.row c.cells false] kk.2)
    obtain ⟨b4, o4, x4, y4⟩ := (hc0.keep' hl k3).at e1
    rw [x1] at x4; cases x4
    rw [hrm c H2, ob_some]
    rw [leq_bool, leqv_t, beq_self_eq_true, ob_some]
    simp only [ivo_refl, Bool.not_false, Bool.true_and, Bool.and_true, Bool.not_true, Bool.or_true, ckd_true, cnd_false]
    rw [lbin_add, ob_some, wrap_i64 (by omega) (by omega), show ((i : Nat) : Int) + 1 = ((i + 1 : Nat) : Int) by omega]
    exact ih (i + 1) n _ (by omega) (by omega) k3
include ha hs hrs
theorem encodes_l {v : IV} {l : List Cl} {H : Heap} (hN : 300 < N) (hl : low H.length v) (hc : CS H v l) : Wp (veneerlaw08CallEncodesS cal φ N aw e re m rm s rs v H) fun r => r.1 = .bool true := by
  unfold veneerlaw08CallEncodesS veneerlaw08CallEncodesC6S veneerlaw08CallEncodesC5S veneerlaw08CallEncodesC4S veneerlaw08CallEncodesC3S veneerlaw08CallEncodesC2S veneerlaw08CallEncodesC1S
  rw [ha, ob_some]
  simp only
  rw [iun_not, ob_some, Bool.not_true, cnd_false, hc.len, ob_some, lbin_gtr, ob_some]
  refine Wp.dec (fun _ => Wp.ret rfl) (fun hbig => ?_)
  rw [ob_some]
  refine encodes_go he hre hm hrm hl hc (by omega) (fun K hK => ?_) l.length 0 N H (by omega) (by omega) (Keep.refl _ _)
  have hcK := hc.keep' hl hK
  have hlK := low_mono hl hK.2
  have scr : ∃ v1 X x b, φ s [v] K = some (.tuple [v1, .int .i64 x], K ++ X) ∧ BS (K ++ X) v1 b ∧ low (K ++ X).length v1 ∧ x = (if okScr l = true then 0 else 22) ∧ b = (if okScr l = true then encs l else []) := by
    cases ho : okScr l with
    | true => obtain ⟨v1, X, a, b, d, _⟩ := scr_ex hs hlK hcK ho; exact ⟨v1, X, 0, encs l, a, b, d, rfl, rfl⟩
    | false => exact ⟨.nilSlice, [], 22, [], by rw [scr_no hs hlK hcK ho, List.append_nil], .inl ⟨rfl, rfl⟩, lowNil, rfl, rfl⟩
  obtain ⟨v1, X, x, b, a1, hb1, hl1, hx, hb⟩ := scr
  rw [a1, ob_some, iextract_tuple, iextract_tuple]
  simp only [List.getElem?_cons_zero, List.getElem?_cons_succ, ob_some]
  refine Wp.call (hrs _ v l (hlK.app X) (hcK.app X)) ?_
  rintro ⟨r, H2⟩ ⟨k2, h⟩
  have ref : ∃ v2, r = .tuple [v2, .int .i64 x] ∧ BS H2 v2 b := by
    rcases h with ⟨hmay, v', e, hb', hlo⟩ | ⟨hmay, e⟩
    · exact ⟨v', by simp only at e; rw [e, hx, if_pos hmay], by rw [hb, if_pos hmay]; exact hb'⟩
    · exact ⟨.nilSlice, by simp only at e; rw [e, hx, if_neg (by simp [hmay])], by rw [hb, if_neg (by simp [hmay])]; exact .inl ⟨rfl, rfl⟩⟩
  obtain ⟨v2, rfl, hb2⟩ := ref
  rw [iextract_tuple, iextract_tuple]
  have hb1' := hb1.keep' hl1 k2
  simp only at hb1'
  simp only [List.getElem?_cons_zero, List.getElem?_cons_succ, ob_some, hb1'.b2s, hb2.b2s, lbin_seq, decide_true, isB_tt, gq_true, lbin_eql, lpick_true]
  exact Wp.ret rfl
end
end Go.Shade
/- CALL, part 23: the document's functions of this seat's program. -/
namespace Go.Proofs.Ytdljmmdbpngchaa
open Go.Shade
set_option linter.unusedVariables false
theorem lo23 : LoF Try.prog 23 veneerref08At := ⟨⟨Try.f23, Try.func23, by kernel_rfl⟩, by kernel_rfl⟩
theorem lo24 : LoF Try.prog 24 (veneerref08Text 23) := ⟨⟨Try.f24, Try.func24, by kernel_rfl⟩, by kernel_rfl⟩
theorem lo25 : LoF Try.prog 25 veneerref08Two := ⟨⟨Try.f25, Try.func25, by kernel_rfl⟩, by kernel_rfl⟩
theorem lo17 : LoF Try.prog 17 veneerref08May := ⟨⟨Try.f17, Try.func17, by kernel_rfl⟩, by kernel_rfl⟩
theorem lo15 : LoF Try.prog 15 (veneerref08Encode 17 25) := ⟨⟨Try.f15, Try.func15, by kernel_rfl⟩, by kernel_rfl⟩
theorem lo13 : LoF Try.prog 13 (veneerref08Decode 23 24) := ⟨⟨Try.f13, Try.func13, by kernel_rfl⟩, by kernel_rfl⟩
theorem lo19 : LoF Try.prog 19 (veneerref08Script 15) := ⟨⟨Try.f19, Try.func19, by kernel_rfl⟩, by kernel_rfl⟩
theorem lo3 : LoF Try.prog 3 (veneerlaw08CallDecodes 10 11 13 12) := ⟨⟨Try.f3, Try.func3, by kernel_rfl⟩, by kernel_rfl⟩
theorem lo4 : LoF Try.prog 4 (veneerlaw08CallEncodes 10 14 15 16 17 18 19) := ⟨⟨Try.f4, Try.func4, by kernel_rfl⟩, by kernel_rfl⟩
theorem denLo {f : FuncId} {lf : LFun} (h0 : t10 f = none) (hl : LoF Try.prog f lf) (N : Nat) {args : List IV} {H : Heap} {x : IV × Heap} (hn : args.length ≤ lf.n) (hr : lrunK (callable Try.prog) (den Try.prog t10) N lf args H = some x) : den Try.prog t10 f args H = some x := by
  obtain ⟨⟨fn, g1, g2⟩, _⟩ := hl
  exact low_den (cal := callable Try.prog) (fun _ h => h) h0 g1 g2 hn (lrunK_le hr)
theorem denWp {f : FuncId} {lf : LFun} (h0 : t10 f = none) (hl : LoF Try.prog f lf) (N : Nat) {args : List IV} {H : Heap} {Q : Out → Prop} (hn : args.length ≤ lf.n) (hr : Wp (lrunK (callable Try.prog) (den Try.prog t10) N lf args H) Q) : Wp (den Try.prog t10 f args H) Q := by
  obtain ⟨x, h1, h2⟩ := hr; exact ⟨x, denLo h0 hl N hn h1, h2⟩
theorem okRAt : RAtOk (den Try.prog t10) 23 := fun H v bs i hb => denLo rfl lo23 0 (Nat.le_of_ble_eq_true rfl) (by rw [veneerref08AtEq]; exact ref_at hb i)
theorem okRText : RTextOk (den Try.prog t10) 24 := fun H v bs i m hl hb hi hm => denWp rfl lo24 65 (Nat.le_of_ble_eq_true rfl) (by rw [veneerref08TextEq]; exact ref_text (by omega) okRAt hl hb hi hm)
theorem okRTwo : RTwoOk (den Try.prog t10) 25 := fun x H h1 h2 => denLo rfl lo25 0 (Nat.le_of_ble_eq_true rfl) (by rw [veneerref08TwoEq]; exact ref_two h1 h2 H)
theorem okRMay : RMayOk (den Try.prog t10) 17 := fun c H => denLo rfl lo17 0 (Nat.le_of_ble_eq_true rfl) (by rw [veneerref08MayEq]; exact ref_may c H)
theorem okREnc : REncOk (den Try.prog t10) 15 := fun c H => denWp rfl lo15 0 (Nat.le_of_ble_eq_true rfl) (by rw [veneerref08EncodeEq]; exact ref_enc okRMay okRTwo c H)
theorem okRDec : RDecOk (den Try.prog t10) 13 := fun H v bs hl hb hn => denWp rfl lo13 201 (Nat.le_of_ble_eq_true rfl) (by rw [veneerref08DecodeEq]; exact ref_dec (by omega) okRAt okRText hl hb hn)
theorem okRScr : RScrOk (den Try.prog t10) 19 := fun H v l hl hc => denWp rfl lo19 201 (Nat.le_of_ble_eq_true rfl) (by rw [veneerref08ScriptEq]; exact ref_script (by omega) okREnc hl hc)
end Go.Proofs.Ytdljmmdbpngchaa
