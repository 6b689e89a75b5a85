/- CALL, part 5: decoding: the loop. -/
import Derived.Test.YtdljmmdbpngchaaCallDec
namespace Go.Shade
set_option linter.unusedVariables false
set_option linter.unusedSimpArgs false

def TwoOk (φ : Oracle) (f1 f2 : FuncId) : Prop := ∀ (H : Heap) (p q : Nat) (v : IV) (bs : List UInt8), q ≠ p → H[q]? = some (.row [OneF f1 p] false) → H[p]? = some (.row [v] false) → off H p v → low H.length v → BS H v bs →
  φ f2 [.ptr q 0] H = some (.int .i64 (((bs.getD 0 0).toNat : Int) * 256 + ((bs.getD 1 0).toNat : Int) - 256), H.set p (.row [tailN 2 v] false))
def TextOk (φ : Oracle) (f1 f3 : FuncId) : Prop := ∀ (H : Heap) (p q : Nat) (v : IV) (bs : List UInt8), q ≠ p → H[q]? = some (.row [OneF f1 p] false) → H[p]? = some (.row [v] false) → off H p v → low H.length v → BS H v bs →
  φ f3 [.ptr q 0] H = some (.str (rdText bs), H.set p (.row [tailN (TextN bs) v] false))
/-- One call's bytes: the call, and how many bytes it takes. -/
def rd1 (bs : List UInt8) : List UInt8 := bs.drop 7
def rd2 (bs : List UInt8) : List UInt8 := (rd1 bs).drop (TextN (rd1 bs))
def rdCl (bs : List UInt8) : Cl := { op := ((bs.getD 0 0).toNat : Int) % 20 + 1, fd := ((bs.getD 1 0).toNat : Int) % 40 - 4, fl := ((bs.getD 2 0).toNat : Int) % 64, n := ((bs.getD 3 0).toNat : Int) * 256 + ((bs.getD 4 0).toNat : Int) - 256, off := ((bs.getD 5 0).toNat : Int) * 256 + ((bs.getD 6 0).toNat : Int) - 256, a := rdText (rd1 bs), b := rdText (rd2 bs) }
def rdN (bs : List UInt8) : Nat := 7 + TextN (rd1 bs) + TextN (rd2 bs)
def dec : Nat → List UInt8 → List Cl
  | 0, _ => []
  | k + 1, bs => if bs = [] then [] else rdCl bs :: dec k (bs.drop (rdN bs))
def flat7 (l : List Cl) : List IV := (l.map Cl.cells).flatten
theorem flat7_length (l : List Cl) : (flat7 l).length = l.length * 7 := by
  induction l with
  | nil => rfl
  | cons c l ih => simp only [flat7, List.map_cons, List.flatten_cons, List.length_append] at ih ⊢; rw [ih]; simp [Cl.cells]; omega
theorem flat7_append (a b : List Cl) : flat7 (a ++ b) = flat7 a ++ flat7 b := by simp [flat7]
/-- The heap while one call is read. -/
def GH (H : Heap) (p : Nat) (v : IV) (cs : List IV) : Heap := H.set p (.row [v] false) ++ [.row cs false]
section
variable {H : Heap} {p q : Nat} {v v' : IV} {cs cs' : List IV} {bs : List UInt8}
theorem GH_p (hp : p < H.length) : (GH H p v cs)[p]? = some (.row [v] false) := by
  unfold GH
  rw [List.getElem?_append_left (by simpa using hp), List.getElem?_set, if_pos rfl, if_pos hp]
theorem GH_o {i : Nat} (hi : i < H.length) (hne : i ≠ p) : (GH H p v cs)[i]? = H[i]? := by
  unfold GH
  rw [List.getElem?_append_left (by simpa using hi), List.getElem?_set_ne (Ne.symm hne)]
theorem GH_b : (GH H p v cs)[H.length]? = some (.row cs false) := by
  unfold GH
  rw [List.getElem?_append_right (by simp)]; simp
theorem GH_len : (GH H p v cs).length = H.length + 1 := by simp [GH]
theorem GH_setp (hp : p < H.length) : (GH H p v cs).set p (.row [v'] false) = GH H p v' cs := by
  unfold GH
  rw [List.set_append_left _ _ (by simpa using hp), List.set_set]
theorem GH_setb : (GH H p v cs).set H.length (.row cs' false) = GH H p v cs' := by
  unfold GH
  rw [List.set_append_right _ _ (by simp)]; simp
theorem GH_bs (hp : p < H.length) (h : BS H v bs) (ho : off H p v) (hl : low H.length v) : BS (GH H p v' cs) v bs := by
  rcases h with ⟨rfl, rfl⟩ | ⟨b, o', n, lb, ex, sz, rfl, h1, h2, h3, h4⟩
  · exact .inl ⟨rfl, rfl⟩
  · refine .inr ⟨b, o', n, lb, ex, sz, rfl, h1, h2, h3, fun hn => ?_⟩
    obtain ⟨cells, ro, g1, g2⟩ := h4 hn
    exact ⟨cells, ro, by rw [GH_o (hl _ _ _ _ _ _ rfl) (ho _ _ _ _ _ _ rfl)]; exact g1, g2⟩
end
theorem low_mono {B C : Nat} {v : IV} (h : low B v) (hc : B ≤ C) : low C v := fun b o n lb ex sz e => Nat.lt_of_lt_of_le (h b o n lb ex sz e) hc
/-- What is known at the head of the loop. -/
structure DecSt (H : Heap) (f1 p q : Nat) (v : IV) (bs : List UInt8) : Prop where
  hpq : q ≠ p
  hq : H[q]? = some (.row [OneF f1 p] false)
  hp : H[p]? = some (.row [v] false)
  ho : off H p v
  hl : low H.length v
  hb : BS H v bs
theorem dec_step {cal : FuncId → Bool} {φ : Oracle} {f1 f2 f3 : FuncId} (hc1 : cal f1 = true) (hc2 : cal f2 = true) (hc3 : cal f3 = true) (h1 : OneOk φ f1) (h2 : TwoOk φ f1 f2) (h3 : TextOk φ f1 f3) {H : Heap} {p q : Nat} {v : IV} {bs : List UInt8} (hs : DecSt H f1 p q v bs) {R : Type} (k : IV → Heap → Option R) :
    (ob (lzbox H (.agg [(.int .i64 0), (.int .i64 0), (.int .i64 0), (.int .i64 0), (.int .i64 0), (.str []), (.str [])])) fun r8 =>
    ob (lload1 r8.2 (.ptr q 0)) fun t9 =>
    ob (lcallV cal φ r8.2 t9 []) fun r10 =>
    ob (lbin .rem r10.1 (.int .i64 20)) fun t11 =>
    ob (lbin .add t11 (.int .i64 1)) fun t12 =>
    ob (loff r8.1 0) fun t13 =>
    ob (lstV r10.2 1 t13 t12) fun r14 =>
    ob (lload1 r14.2 (.ptr q 0)) fun t15 =>
    ob (lcallV cal φ r14.2 t15 []) fun r16 =>
    ob (lbin .rem r16.1 (.int .i64 40)) fun t17 =>
    ob (lbin .add t17 (.int .i64 (-4))) fun t18 =>
    ob (loff r8.1 1) fun t19 =>
    ob (lstV r16.2 1 t19 t18) fun r20 =>
    ob (lload1 r20.2 (.ptr q 0)) fun t21 =>
    ob (lcallV cal φ r20.2 t21 []) fun r22 =>
    ob (lbin .rem r22.1 (.int .i64 64)) fun t23 =>
    ob (loff r8.1 2) fun t24 =>
    ob (lstV r22.2 1 t24 t23) fun r25 =>
    ob (lcallV cal φ r25.2 (.func (.func f2) [] [.ptr q 0]) []) fun r26 =>
    ob (loff r8.1 3) fun t27 =>
    ob (lstV r26.2 1 t27 r26.1) fun r28 =>
    ob (lcallV cal φ r28.2 (.func (.func f2) [] [.ptr q 0]) []) fun r29 =>
    ob (loff r8.1 4) fun t30 =>
    ob (lstV r29.2 1 t30 r29.1) fun r31 =>
    ob (lcallV cal φ r31.2 (.func (.func f3) [] [.ptr q 0]) []) fun r32 =>
    ob (loff r8.1 5) fun t33 =>
    ob (lstV r32.2 1 t33 r32.1) fun r34 =>
    ob (lcallV cal φ r34.2 (.func (.func f3) [] [.ptr q 0]) []) fun r35 =>
    ob (loff r8.1 6) fun t36 =>
    ob (lstV r35.2 1 t36 r35.1) fun r37 => k r8.1 r37.2) = k (.ptr H.length 0) (GH H p (tailN (rdN bs) v) (rdCl bs).cells) := by
  obtain ⟨hpq, hq, hp, ho, hl, hb⟩ := hs
  have hpl := (List.getElem?_eq_some_iff.1 hp).1
  have hql := (List.getElem?_eq_some_iff.1 hq).1
  have start : lzbox H (.agg [(.int .i64 0), (.int .i64 0), (.int .i64 0), (.int .i64 0), (.int .i64 0), (.str []), (.str [])]) = some (.ptr H.length 0, GH H p v [(.int .i64 0), (.int .i64 0), (.int .i64 0), (.int .i64 0), (.int .i64 0), (.str []), (.str [])]) := by
    unfold lzbox GH; rw [set_same hp]; rfl
  have ld : ∀ {v cs}, lload1 (GH H p v cs) (.ptr q 0) = some (OneF f1 p) := fun {v cs} => by rw [lload1_ptr, GH_o hql hpq, hq]; rfl
  have ok : ∀ {j cs}, BS (GH H p (tailN j v) cs) (tailN j v) (bs.drop j) := fun {j cs} => GH_bs hpl (hb.tail j) (off_tail (H := H) ho) (low_tail hl)
  have c1 : ∀ {j cs}, lcallV cal φ (GH H p (tailN j v) cs) (OneF f1 p) [] = some (.int .i64 ((bs.getD j 0).toNat : Int), GH H p (tailN (j + 1) v) cs) := fun {j cs} => by
    unfold OneF; rw [lcallV_func hc1]
    show φ f1 [.ptr p 0] _ = _
    rw [h1 _ p _ _ (GH_p hpl) ok, GH_setp hpl, tailN_tailN, getD_drop]
  have c2 : ∀ {j cs}, lcallV cal φ (GH H p (tailN j v) cs) (.func (.func f2) [] [.ptr q 0]) [] = some (.int .i64 (((bs.getD j 0).toNat : Int) * 256 + ((bs.getD (j + 1) 0).toNat : Int) - 256), GH H p (tailN (j + 2) v) cs) := fun {j cs} => by
    rw [lcallV_func hc2]
    show φ f2 [.ptr q 0] _ = _
    rw [h2 _ p q _ _ hpq (by rw [GH_o hql hpq]; exact hq) (GH_p hpl) (off_tail (H := H) ho) (low_mono (low_tail hl) (by rw [GH_len]; omega)) ok, GH_setp hpl, tailN_tailN, getD_drop]
    have : (bs.drop j).getD 1 0 = bs.getD (j + 1) 0 := by simp [List.getD_eq_getElem?_getD]
    rw [this]
  have c3 : ∀ {j cs}, lcallV cal φ (GH H p (tailN j v) cs) (.func (.func f3) [] [.ptr q 0]) [] = some (.str (rdText (bs.drop j)), GH H p (tailN (j + TextN (bs.drop j)) v) cs) := fun {j cs} => by
    rw [lcallV_func hc3]
    show φ f3 [.ptr q 0] _ = _
    rw [h3 _ p q _ _ hpq (by rw [GH_o hql hpq]; exact hq) (GH_p hpl) (off_tail (H := H) ho) (low_mono (low_tail hl) (by rw [GH_len]; omega)) ok, GH_setp hpl, tailN_tailN]
  have st : ∀ {v cs i x}, x.one = true → i < cs.length → lstV (GH H p v cs) 1 (.ptr H.length i) x = some (.tuple [], GH H p v (cs.set i x)) := fun {v cs i x} hx hi => by
    rw [lstV_ptr, GH_b, putO_one hx hi, ob_some, GH_setb]
  have m : ∀ (x : UInt8) (n : Int), 0 < n → (x.toNat : Int).tmod n = (x.toNat : Int) % n := fun x n hn => Int.tmod_eq_emod_of_nonneg (by omega)
  have e0 : v = tailN 0 v := (tailN_zero v).symm
  rw [start, ob_some]
  simp only
  rw [ld, ob_some]
  conv => lhs; rw [e0]
  rw [c1, ob_some]
  simp only
  rw [lbin_rem (by decide), ob_some, m _ _ (by decide), lbin_add, ob_some, wrap_i64 (by omega) (by omega), loff_ptr, ob_some, st rfl (by simp), ob_some]
  simp only
  rw [ld, ob_some, c1, ob_some]
  simp only
  rw [lbin_rem (by decide), ob_some, m _ _ (by decide), lbin_add, ob_some, wrap_i64 (by omega) (by omega), loff_ptr, ob_some, st rfl (by simp), ob_some]
  simp only
  rw [ld, ob_some, c1, ob_some]
  simp only
  rw [lbin_rem (by decide), ob_some, m _ _ (by decide), loff_ptr, ob_some, st rfl (by simp), ob_some]
  simp only
  rw [c2, ob_some, loff_ptr, ob_some, st rfl (by simp), ob_some]
  simp only
  rw [c2, ob_some, loff_ptr, ob_some, st rfl (by simp), ob_some]
  simp only
  rw [c3, ob_some, loff_ptr, ob_some, st rfl (by simp), ob_some]
  simp only
  rw [c3, ob_some, loff_ptr, ob_some, st rfl (by simp), ob_some]
  simp only
  congr 1
  have ed : bs.drop (0 + 1 + 1 + 1 + 2 + 2 + TextN (bs.drop (0 + 1 + 1 + 1 + 2 + 2))) = rd2 bs := by
    simp only [rd2, rd1, List.drop_drop]
  have ed1 : bs.drop (0 + 1 + 1 + 1 + 2 + 2) = rd1 bs := rfl
  rw [ed, ed1]
  have en : 0 + 1 + 1 + 1 + 2 + 2 + TextN (rd1 bs) + TextN (rd2 bs) = rdN bs := by unfold rdN; omega
  rw [en]
  rfl

theorem BS.len {H : Heap} {v : IV} {bs : List UInt8} (h : BS H v bs) : llen H .slice v = some (.int .i64 (bs.length : Nat)) := by
  rcases h with ⟨rfl, rfl⟩ | ⟨b, o', n, lb, ex, sz, rfl, h1, h2, h3, h4⟩
  · rfl
  · subst h3; rfl
theorem dec_loop {cal : FuncId → Bool} {φ : Oracle} {N : Nat} {f1 f2 f3 p q B : Nat} {gE0 : IV → Heap → Option (IV × Heap)} (hc1 : cal f1 = true) (hc2 : cal f2 = true) (hc3 : cal f3 = true) (h1 : OneOk φ f1) (h2 : TwoOk φ f1 f2) (h3 : TextOk φ f1 f3) (hpB : p < B) (hqB : q < B) :
    ∀ (k n : Nat) (H : Heap) (v v6 : IV) (bs : List UInt8) (acc : List Cl), k < n → acc.length + k = 200 → DecSt H f1 p q v bs → B ≤ H.length → low B v → Buf B 7 H v6 (flat7 acc) →
    ∃ v6' H', callDecodeC0S cal φ N f1 f2 f3 gE0 n (.ptr p 0) (.ptr q 0) (.func (.func f2) [] [.ptr q 0]) (.func (.func f3) [] [.ptr q 0]) v6 H = gE0 v6' H' ∧ Buf B 7 H' v6' (flat7 (acc ++ dec k bs)) ∧ (∀ i, i < B → i ≠ p → H'[i]? = H[i]?) ∧ H.length ≤ H'.length ∧ (dec k bs = [] → v6' = v6) := by
  intro k
  induction k with
  | zero =>
    intro n H v v6 bs acc hn hk hs hB hlow hv6
    obtain ⟨n, rfl⟩ : ∃ m, n = m + 1 := ⟨n - 1, by omega⟩
    have hl : lload1 H (.ptr p 0) = some v := by rw [lload1_ptr, hs.hp]; rfl
    refine ⟨v6, H, ?_, by simpa [dec] using hv6, fun _ _ _ => rfl, Nat.le_refl _, fun _ => rfl⟩
    rw [callDecodeC0S, hl, ob_some, hs.hb.len, ob_some, lbin_gtr, ob_some]
    obtain ⟨m, _, hm, hlen⟩ := hv6.len (by omega)
    rw [flat7_length] at hm
    have hm' : m = 200 := by omega
    subst hm'
    cases hd : decide ((0 : Int) < (bs.length : Nat))
    · simp only [isB_ft, gq_false, ob_some, lpick_false, cnd_false]
    · have : decide (((200 : Nat) : Int) < 200) = false := rfl
      simp only [isB_tt, gq_true, ob_some, hlen, lbin_lss, this, lpick_true, cnd_false]
  | succ k ih =>
    intro n H v v6 bs acc hn hk hs hB hlow hv6
    obtain ⟨n, rfl⟩ : ∃ m, n = m + 1 := ⟨n - 1, by omega⟩
    have hl : lload1 H (.ptr p 0) = some v := by rw [lload1_ptr, hs.hp]; rfl
    rw [callDecodeC0S, hl, ob_some, hs.hb.len, ob_some, lbin_gtr, ob_some]
    by_cases hbs : bs = []
    · subst hbs
      refine ⟨v6, H, ?_, by simpa [dec] using hv6, fun _ _ _ => rfl, Nat.le_refl _, fun _ => rfl⟩
      have hd : decide ((0 : Int) < (([] : List UInt8).length : Nat)) = false := rfl
      simp only [hd, isB_ft, gq_false, ob_some, lpick_false, cnd_false]
    · have hpos : 0 < bs.length := List.length_pos_iff.2 hbs
      have hd : decide ((0 : Int) < (bs.length : Nat)) = true := decide_eq_true (by omega)
      obtain ⟨m, _, hm, hlen⟩ := hv6.len (by omega)
      rw [flat7_length] at hm
      have hm' : m = acc.length := by omega
      subst hm'
      have hd2 : decide (((acc.length : Nat) : Int) < 200) = true := decide_eq_true (by omega)
      rw [hd]
      simp only [isB_tt, gq_true, ob_some, hlen, lbin_lss, hd2, lpick_true, cnd_true]
      have hpl := (List.getElem?_eq_some_iff.1 hs.hp).1
      have hql := (List.getElem?_eq_some_iff.1 hs.hq).1
      rw [dec_step hc1 hc2 hc3 h1 h2 h3 hs (fun px Hx => ob (lloadn Hx 7 px) fun t38 =>
        ob (lbldS Hx 7 1 [(.int .i64 0), (.int .i64 0), (.int .i64 0), (.int .i64 0), (.int .i64 0), (.str []), (.str [])] [(0, t38)]) fun r39 =>
        ob (lapp r39.2 7 72 v6 r39.1) fun r40 =>
        callDecodeC0S cal φ N f1 f2 f3 gE0 n (.ptr p 0) (.ptr q 0) (.func (.func f2) [] [.ptr q 0]) (.func (.func f3) [] [.ptr q 0]) r40.1 r40.2)]
      generalize hG : GH H p (tailN (rdN bs) v) (rdCl bs).cells = G
      have hGb : G[H.length]? = some (.row (rdCl bs).cells false) := by rw [← hG]; exact GH_b
      have hGlen : G.length = H.length + 1 := by rw [← hG]; exact GH_len
      have hGi : ∀ i, i < H.length → i ≠ p → G[i]? = H[i]? := fun i hi hne => by rw [← hG]; exact GH_o hi hne
      have hGp : G[p]? = some (.row [tailN (rdN bs) v] false) := by rw [← hG]; exact GH_p hpl
      have hln : lloadn G 7 (.ptr H.length 0) = some (.agg (rdCl bs).cells) := by rw [lloadn_ptr, hGb]; rfl
      have hbl : lbldS G 7 1 [(.int .i64 0), (.int .i64 0), (.int .i64 0), (.int .i64 0), (.int .i64 0), (.str []), (.str [])] [(0, .agg (rdCl bs).cells)] = some (.slice G.length 0 1 1 true 7, G ++ [.row (rdCl bs).cells false]) := rfl
      simp only [hln, ob_some, hbl]
      have hv6' : Buf B 7 (G ++ [.row (rdCl bs).cells false]) v6 (flat7 acc) := by
        rcases hv6 with h | ⟨r, m, ex, e, g1, g2, g3⟩
        · exact .inl h
        · refine .inr ⟨r, m, ex, e, g1, ?_, g3⟩
          have hr := (List.getElem?_eq_some_iff.1 g2).1
          rw [List.getElem?_append_left (by omega), hGi r hr (by omega)]; exact g2
      have hx : Buf 0 7 (G ++ [.row (rdCl bs).cells false]) (.slice G.length 0 1 1 true 7) (rdCl bs).cells := .inr ⟨_, 1, true, rfl, by omega, by simp, rfl⟩
      obtain ⟨v7, H7, a7, b7, k7⟩ := app_own (b := 72) hv6' (by simp; omega) (by omega) hx rfl (by rw [flat7_length]; simp [Cl.cells]; omega)
      rw [a7, ob_some]
      have hfl : flat7 acc ++ (rdCl bs).cells = flat7 (acc ++ [rdCl bs]) := by rw [flat7_append]; simp [flat7]
      rw [hfl] at b7
      have h7i : ∀ i, i < B → H7[i]? = G[i]? := fun i hi => by rw [k7.1 i hi, List.getElem?_append_left (by omega)]
      have h7len : G.length ≤ H7.length := by have := k7.2; simp at this; omega
      have hst : DecSt H7 f1 p q (tailN (rdN bs) v) (bs.drop (rdN bs)) := by
        refine ⟨hs.hpq, by rw [h7i q hqB, hGi q hql hs.hpq]; exact hs.hq, by rw [h7i p hpB]; exact hGp, off_tail (H := H) hs.ho, low_mono (low_tail hs.hl) (by omega), ?_⟩
        exact (GH_bs (v' := tailN (rdN bs) v) (cs := (rdCl bs).cells) hpl (hs.hb.tail _) (off_tail (H := H) hs.ho) (low_tail hs.hl)).keepB (low_tail hlow) (by rw [hG]; exact h7i)
      obtain ⟨v8, H8, a8, b8, i8, l8, _⟩ := ih n H7 (tailN (rdN bs) v) v7 (bs.drop (rdN bs)) (acc ++ [rdCl bs]) (by omega) (by simp; omega) hst (by omega) (low_tail hlow) b7
      refine ⟨v8, H8, a8, ?_, fun i hi hne => by rw [i8 i hi hne, h7i i hi, hGi i (by omega) hne], by omega, fun e => by simp [dec, hbs] at e⟩
      have : acc ++ dec (k + 1) bs = acc ++ [rdCl bs] ++ dec k (bs.drop (rdN bs)) := by simp [dec, hbs]
      rw [this]; exact b8
theorem dec_s {cal : FuncId → Bool} {φ : Oracle} {N : Nat} {f1 f2 f3 : FuncId} (hN : 200 < N) (hc1 : cal f1 = true) (hc2 : cal f2 = true) (hc3 : cal f3 = true) (h1 : OneOk φ f1) (h2 : TwoOk φ f1 f2) (h3 : TextOk φ f1 f3) {H : Heap} {v : IV} {bs : List UInt8} (hv : v.one = true) (hl : low H.length v) (hb : BS H v bs) :
    ∃ v' H', callDecodeS cal φ N f1 f2 f3 v H = some (v', H') ∧ Buf H.length 7 H' v' (flat7 (dec 200 bs)) ∧ (∀ i, i < H.length → H'[i]? = H[i]?) ∧ (dec 200 bs = [] → v' = .nilSlice) := by
  unfold callDecodeS callDecodeC7S callDecodeC6S callDecodeC5S callDecodeC4S callDecodeC3S callDecodeC2S callDecodeC1S
  rw [lbox_one hv, ob_some, ob_some, lzbox_eq, ob_some]
  simp only
  have hq : ((H ++ [IObj.row [v] false]) ++ [IObj.row (IV.nilFunc).cells false])[(H ++ [IObj.row [v] false]).length]? = some (IObj.row [.nilFunc] false) := by simp [IV.cells]
  rw [lstV_ptr, hq, putO_one rfl (by simp), ob_some, ob_some, ob_some, ob_some]
  simp only
  have hset : (H ++ [IObj.row [v] false] ++ [IObj.row (IV.nilFunc).cells false]).set (H ++ [IObj.row [v] false]).length (IObj.row ([IV.nilFunc].set 0 (.func (.func f1) [] [.ptr H.length 0])) false) = H ++ [IObj.row [v] false] ++ [IObj.row [OneF f1 H.length] false] := by
    rw [List.set_append_right _ _ (Nat.le_refl _), Nat.sub_self]; rfl
  rw [hset]
  generalize hK : H ++ [IObj.row [v] false] ++ [IObj.row [OneF f1 H.length] false] = K
  have hKlen : K.length = H.length + 2 := by rw [← hK]; simp
  have hKi : ∀ i, i < H.length → K[i]? = H[i]? := fun i hi => by rw [← hK, List.append_assoc, List.getElem?_append_left hi]
  have hKp : K[H.length]? = some (IObj.row [v] false) := by rw [← hK]; simp
  have hKq : K[H.length + 1]? = some (IObj.row [OneF f1 H.length] false) := by rw [← hK]; simp
  have hlen : (H ++ [IObj.row [v] false]).length = H.length + 1 := by simp
  rw [hlen]
  obtain ⟨v6, H6, a6, b6, i6, l6, n6⟩ := dec_loop (cal := cal) (φ := φ) (N := N) (p := H.length) (q := H.length + 1) (B := H.length + 2) (gE0 := fun v6 H => some (v6, H)) hc1 hc2 hc3 h1 h2 h3 (by omega) (by omega) 200 N K v .nilSlice bs [] (by omega) rfl
    ⟨by omega, hKq, hKp, fun b o n lb ex sz e => by have := hl b o n lb ex sz e; omega, low_mono hl (by omega), hb.keepB hl hKi⟩ (by omega) (low_mono hl (by omega)) (.inl ⟨rfl, rfl⟩)
  refine ⟨v6, H6, a6, ?_, fun i hi => by rw [i6 i (by omega) (by omega), hKi i hi], n6⟩
  rcases b6 with h | ⟨r, m, ex, e, g1, g2, g3⟩
  · exact .inl h
  · exact .inr ⟨r, m, ex, e, by omega, g2, g3⟩
end Go.Shade
