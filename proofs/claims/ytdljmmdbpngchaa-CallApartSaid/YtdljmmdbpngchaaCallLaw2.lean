/- CALL, part 15: the laws 'CallBack', 'CallJoins', 'CallAhead', 'CallApart'. -/
import Derived.Test.YtdljmmdbpngchaaCallPlain
namespace Go.Shade
set_option linter.unusedVariables false
set_option linter.unusedSimpArgs false
theorem BS.app {H : Heap} {v : IV} {bs : List UInt8} (h : BS H v bs) (X : Heap) : BS (H ++ X) v bs := h.keep (fun i o hi => by rw [List.getElem?_append_left (List.getElem?_eq_some_iff.1 hi).1]; exact hi)
theorem CS.app {H : Heap} {v : IV} {l : List Cl} (h : CS H v l) (X : Heap) : CS (H ++ X) v l := by
  rcases h with ⟨rfl, rfl⟩ | ⟨b, o', n, lb, ex, sz, rfl, h1, h2, h3, h4⟩
  · exact .inl ⟨rfl, rfl⟩
  · refine .inr ⟨b, o', n, lb, ex, sz, rfl, h1, h2, h3, fun i c hi => ?_⟩
    have hx := h4 i c hi
    have hb : b < H.length := by
      rcases Nat.lt_or_ge b H.length with h | h
      · exact h
      · rw [lloadn_ptr, List.getElem?_eq_none h] at hx; cases hx
    rw [lloadn_keep (List.getElem?_append_left hb)]; exact hx
theorem low.app {H : Heap} {v : IV} (h : low H.length v) (X : Heap) : low (H ++ X).length v := low_mono h (by simp)
theorem lowNil {B : Nat} : low B .nilSlice := fun _ _ _ _ _ _ e => by cases e
theorem dec_ex {φ : Oracle} {d : FuncId} (hd : DecOk φ d) {H : Heap} {v : IV} {bs : List UInt8} (hv : v.one = true) (hl : low H.length v) (hb : BS H v bs) :
    ∃ v' X, φ d [v] H = some (v', H ++ X) ∧ CS (H ++ X) v' (dec 200 bs) ∧ low (H ++ X).length v' := by
  by_cases h0 : dec 200 bs = []
  · exact ⟨.nilSlice, [], by rw [hd H v bs hv hl hb, if_pos h0, List.append_nil], by rw [h0]; exact .inl ⟨rfl, rfl⟩, lowNil⟩
  · refine ⟨_, _, by rw [hd H v bs hv hl hb, if_neg h0], ?_, lowAt (by simp)⟩
    exact Buf.calls (B := 0) (.inr ⟨_, _, false, rfl, by omega, by simp, by rw [flat7_length]⟩)
theorem scr_ex {φ : Oracle} {s : FuncId} (hs : ScriptOk φ s) {H : Heap} {v : IV} {l : List Cl} (hl : low H.length v) (hc : CS H v l) (ho : okScr l = true) :
    ∃ v' X, φ s [v] H = some (.tuple [v', .int .i64 0], H ++ X) ∧ BS (H ++ X) v' (encs l) ∧ low (H ++ X).length v' ∧ v'.one = true := by
  by_cases h0 : l = []
  · subst h0
    exact ⟨.nilSlice, [], by rw [hs H v [] hl hc, scrX, if_pos ho, if_pos rfl, List.append_nil], .inl ⟨rfl, rfl⟩, lowNil, rfl⟩
  · refine ⟨_, _, by rw [hs H v l hl hc, scrX, if_pos ho, if_neg h0], ?_, lowAt (by simp), rfl⟩
    exact ownBS (by simp)
theorem scr_no {φ : Oracle} {s : FuncId} (hs : ScriptOk φ s) {H : Heap} {v : IV} {l : List Cl} (hl : low H.length v) (hc : CS H v l) (ho : okScr l = false) : φ s [v] H = some (.tuple [.nilSlice, .int .i64 22], H) := by
  rw [hs H v l hl hc, scrX, ho]; rfl
theorem okScr_len {l : List Cl} (h : okScr l = true) : l.length ≤ 200 ∧ l.all Cl.may = true := by
  unfold okScr at h; simpa using h
theorem dec_back {l : List Cl} (h : okScr l = true) : dec 200 (encs l) = l := by
  obtain ⟨h1, h2⟩ := okScr_len h
  have := dec_encs l 200 [] h2 h1
  have e : ∀ k, dec k [] = [] := fun k => by cases k <;> rfl
  simpa [e] using this
theorem okScr_dec (bs : List UInt8) : okScr (dec 200 bs) = true := by
  unfold okScr; rw [decide_eq_true (dec_len 200 bs), dec_may]; rfl
theorem dself {α : Type} [DecidableEq α] (a : α) : decide (a = a) = true := decide_eq_true rfl
theorem back_l {cal : FuncId → Bool} {φ : Oracle} {N : Nat} {aw s d m : FuncId} (ha : AwakeOk φ aw) (hs : ScriptOk φ s) (hd : DecOk φ d) (hm : SameOk φ m) {H : Heap} {v0 v1 : IV} {l : List Cl} {bs : List UInt8} (hl0 : low H.length v0) (hc0 : CS H v0 l) (hv1 : v1.one = true) (hl1 : low H.length v1) (hb1 : BS H v1 bs) :
    ∃ H', veneerlaw08CallBackS cal φ N aw s d m v0 v1 H = some (.bool true, H') := by
  unfold veneerlaw08CallBackS
  rw [ha, ob_some]
  simp only
  rw [iun_not, ob_some, Bool.not_true, cnd_false, hc0.len, ob_some, lbin_gtr, ob_some]
  cases hbig : decide ((300 : Int) < (l.length : Nat))
  · simp only [isB_ff, gq_true, ob_some, hb1.len, lbin_gtr]
    rw [lpick_false, ob_some]
    cases hbig2 : decide ((65536 : Int) < (bs.length : Nat))
    · rw [cnd_false]
      have tail : ∀ (K : Heap), low K.length v1 → BS K v1 bs → ∃ H', (ob (φ d [v1] K) fun r19 =>
          ob (φ s [r19.1] r19.2) fun r20 =>
          ob (iextract r20.1 0) fun t21 =>
          ob (iextract r20.1 1) fun t22 =>
          ob (lbin .eql t22 (.int .i64 0)) fun t23 =>
          ob (gq (isB t23 true) (some t21)) fun t24 =>
          ob (ge (isB t23 true) r20.2 (φ d [t24] r20.2)) fun r25 =>
          ob (gq (isB t23 true) (some r19.1)) fun t26 =>
          ob (ge (isB t23 true) r25.2 (φ m [r25.1, t26] r25.2)) fun r27 =>
          ob (lpick t23 r27.1 (.bool false)) fun t28 =>
          some (t28, r27.2)) = some (.bool true, H') := by
        intro K kl kb
        obtain ⟨w1, X1, a1, b1, c1⟩ := dec_ex hd hv1 kl kb
        obtain ⟨w2, X2, a2, b2, c2, d2⟩ := scr_ex hs c1 b1 (okScr_dec bs)
        obtain ⟨w3, X3, a3, b3, c3⟩ := dec_ex hd d2 c2 b2
        rw [dec_back (okScr_dec bs)] at b3
        rw [a1, ob_some]
        simp only
        rw [a2, ob_some]
        simp only
        rw [iextract_tuple, iextract_tuple]
        simp only [List.getElem?_cons_zero, List.getElem?_cons_succ, ob_some, lbin_eql, decide_true, isB_tt, gq_true, ge_true, a3]
        have hlen := dec_len 200 bs
        rw [hm _ _ _ _ _ b3 ((b1.app X2).app X3) (by omega), ob_some]
        simp only [decide_true, lpick_true, ob_some]
        exact ⟨_, rfl⟩
      cases hok : okScr l with
      | true =>
        obtain ⟨w2, X2, a2, b2, c2, d2⟩ := scr_ex hs hl0 hc0 hok
        obtain ⟨w3, X3, a3, b3, c3⟩ := dec_ex hd d2 c2 b2
        rw [dec_back hok] at b3
        have hlen := (okScr_len hok).1
        rw [a2, ob_some]
        simp only
        rw [iextract_tuple, iextract_tuple]
        simp only [List.getElem?_cons_zero, List.getElem?_cons_succ, ob_some, lbin_eql, decide_true, isB_tt, gq_true, ge_true, a3]
        rw [hm _ _ _ _ _ b3 ((hc0.app X2).app X3) (by omega), ob_some]
        simp only [decide_true, iun_not, Bool.not_true, ob_some, lpick_true, cnd_false]
        exact tail _ ((hl1.app X2).app X3) ((hb1.app X2).app X3)
      | false =>
        rw [scr_no hs hl0 hc0 hok, ob_some]
        simp only
        rw [iextract_tuple, iextract_tuple]
        have h22 : decide ((22 : Int) = 0) = false := rfl
        simp only [List.getElem?_cons_zero, List.getElem?_cons_succ, ob_some, lbin_eql, h22, isB_ft, gq_false, ge_false, lpick_false, cnd_false]
        exact tail _ hl1 hb1
    · rw [cnd_true]; exact ⟨_, rfl⟩
  · simp only [isB_tf, gq_false, ob_some, lpick_true, cnd_true]
    exact ⟨_, rfl⟩
end Go.Shade
