/- The law MergeHides, part 6. -/
import Derived.Test.YtmkjmfegaalcoaaGreatM5
import Derived.Test.YtmkjmfegaalcoaaGreatM2
import Derived.Test.YtmkjmfegaalcoaaGreatM3
import Derived.KernelRfl
import Derived.Test.YtmkjmfegaalcoaaGreatM4
set_option linter.all false
namespace Go.Shade
variable {H : Heap} {l : Dr} {v : IV}
def RA (c : Nat) (own : Nat -> Nat) (H : Heap) (b s : Nat) (K : Heap) : Prop := ∃ own' R', RB c own' K b s R' /\ Frame (fun j => own j ≠ 0) H K /\ ∀ j, own' j ≠ 0 -> own j ≠ 0 ∨ H.length <= j
theorem RA.refl {c : Nat} {own : Nat -> Nat} {H : Heap} {b s : Nat} {R : List IV} (h : RB c own H b s R) : RA c own H b s H := ⟨own, R, h, Frame.refl _ _, fun _ h => .inl h⟩
theorem RA.mono {c c' : Nat} {own : Nat -> Nat} {H K : Heap} {b s : Nat} (h : RA c own H b s K) (hc : c <= c') : RA c' own H b s K := by
 obtain ⟨own1, R1, h1, h2, h3⟩ := h; exact ⟨own1, R1, h1.mono hc, h2, h3⟩
theorem TS.ix2 {P : Nat -> Prop} (h : TS 2 P H v (fl (prs l))) {j : Nat} {e : Nam × Int} (hj : l[j]? = some e) : ∃ r, P r /\ lix 2 v (.int .i64 (j : Nat)) = some (.ptr r (2 * j)) /\ lload1 H (.ptr r (2 * j)) = some (.str e.1) /\ lload1 H (.ptr r (2 * j + 1)) = some (.int .i64 e.2) /\ lloadn H 2 (.ptr r (2 * j)) = some (.agg [.str e.1, .int .i64 e.2]) := by
 have hlt := (ges hj).1
 rcases h with ⟨rfl, h2⟩ | ⟨r, n, ex, rfl, h2, h3, h4⟩
 ·have := congrArg List.length h2; rw [fl_length, prs_length] at this; simp at this; omega
 ·rw [fl_length, prs_length] at h4
  have hn : n = l.length := by omega
  subst hn
  have hg := prs_get hj
  have hl2 := ld2 h3 hg
  refine ⟨r, h2, by rw [lix_slice, if_pos (by omega)]; simp; omega, ?_, by rw [ld1 h3]; exact fl_get1 hg, hl2⟩
  rw [ld1 h3]
  have := fl_ld hg
  have h5 : (((fl (prs l)).drop (2 * j)).take 2)[0]? = some (IV.str e.1) := by rw [this]; rfl
  rw [List.getElem?_take, if_pos (by omega), List.getElem?_drop] at h5
  exact h5
theorem TS.len2 {P : Nat -> Prop} (h : TS 2 P H v (fl (prs l))) : llen H .slice v = some (.int .i64 (l.length : Nat)) := h.len (by omega) (by rw [fl_length, prs_length]; omega)
theorem app_ent {P : Nat -> Prop} {K : Heap} {v : IV} {acc : Dr} {e : Nam × Int} (h : TS 2 P K v (fl (prs acc))) (hb : acc.length <= 2000000) : Wp (lapp (K ++ [IObj.row [.str e.1, .int .i64 e.2] false]) 2 24 v (.slice K.length 0 1 1 true 2)) fun r => Frame P K r.2 /\ TS 2 (fun j => K.length <= j) r.2 r.1 (fl (prs (acc ++ [e]))) := by
 have k1 : Frame NoF K (K ++ [IObj.row [.str e.1, .int .i64 e.2] false]) := Frame.push _ _ _
 have r1 : (K ++ [IObj.row [.str e.1, .int .i64 e.2] false])[K.length]? = some (.row [.str e.1, .int .i64 e.2] false) := newRow
 have l1 : (K ++ [IObj.row [.str e.1, .int .i64 e.2] false]).length = K.length + 1 := by simp
 refine ((h.frame k1 fun _ _ h => h).app (b := 24) (new := [.str e.1, .int .i64 e.2]) (by omega) rfl (by simp [lxcells, lsl, irow, r1]) rfl rfl (by rw [fl_length, prs_length]; omega)).mono ?_
 rintro ⟨w, K2⟩ ⟨g1, g2⟩
 refine ⟨k1.no.tr g1, ?_⟩
 have : fl (prs acc) ++ [IV.str e.1, .int .i64 e.2] = fl (prs (acc ++ [e])) := by rw [prs_append, fl_append]; rfl
 rw [← this]
 exact g2.mono fun j hj => by have := hj.1; omega
theorem RB.newList {c c' : Nat} {own : Nat -> Nat} {H K : Heap} {b s i : Nat} {R : List IV} {v : IV} {l : Dr} (h : RB c own H b s R) (hc : c <= c') (hi : i <= 200) (hK : Frame (fun j => H.length <= j) H K) (hv : TS 2 (fun j => H.length <= j) K v (fl (prs l))) (hl : l.length <= c') (he : ∀ e ∈ l, EntR e) :
  Wp (lstV K 1 (.ptr b (1 + i * 9 + 7)) v) fun r => RA c' own H b s r.2 := by
 have hK' : ∀ {F : Nat -> Prop}, Frame F H K := ⟨hK.1, fun j hj _ => hK.2 j hj (by omega)⟩
 have hrow : K[b]? = some (.row R false) := (hK' (F := NoF)).get (fun h => h) h.row
 have hP : ∀ j, (H.length <= j /\ j < K.length) -> own j = 3 * i + (7 - 4) ∨ H.length <= j := fun j hj => .inr hj.1
 have hP0 : ∀ j, (H.length <= j /\ j < K.length) -> own j = 3 * i + (7 - 4) ∨ own j = 0 := fun j hj => .inr (h.new0 hj.1)
 have hvl : TS 2 (fun j => H.length <= j /\ j < K.length) K v (fl (prs l)) := by
  rcases hv with hv | ⟨r, n, ex, h1, h2, h3, h4⟩
  ·exact .inl hv
  ·exact .inr ⟨r, n, ex, h1, ⟨h2, (ges h3).1⟩, h3, h4⟩
 have := h.upd hc hi (by omega) (by omega) hK' hP (fun j hj => hj.2) (RCell.list.2 ⟨l, hvl.mono fun j hj => (ownSet_same (own := own) (by omega) j).1 hj, hl, he⟩)
 rw [show 1 + i * 9 + 7 = 1 + 9 * i + 7 by omega, st1 hrow hv.one (by rw [h.len]; omega)]
 refine ⟨_, rfl, _, _, this, ?_, fun j hj => ownSet_ok hP j hj (by omega)⟩
 exact hK'.tr (Frame.set _ _ (by rw [h.ob]; decide))
section
variable {cal : FuncId -> Bool} {φ : Oracle} {N : Nat}
def RGet4Ok (φ : Oracle) (f : FuncId) : Prop := ∀ (c : Nat) (own : Nat -> Nat) (H : Heap) (b s : Nat) (R : List IV) (i : Nat) (nm : Nam), RB c own H b s R -> c <= 1000000 -> i <= 200 -> ∃ v e : Int, φ f [.ptr b (1 + i * 9 + 7), .str nm] H = some (.tuple [.int .i64 v, .int .i64 e], H) /\ (e = 0 -> 1 <= v /\ v <= 200)
theorem rget4_go {own : Nat -> Nat} {b : Nat} {i : Nat} {nm : Nam} (hp : lload1 H (.ptr b (1 + i * 9 + 7)) = some v) (hv : TS 2 (fun j => own j = 3 * i + 3) H v (fl (prs l))) (hl : l.length <= 1000000) (he : ∀ e ∈ l, EntR e) :
  ∀ (m j n : Nat), j + m = l.length -> m < n -> ∃ v e : Int, R4GetC0S cal φ N (fun H => some ((.tuple [(.int .i64 0), (.int .i64 2)]), H)) n (.ptr b (1 + i * 9 + 7)) (.str nm) (.int .i64 (j : Nat)) H = some (.tuple [.int .i64 v, .int .i64 e], H) /\ (e = 0 -> 1 <= v /\ v <= 200) := by
 intro m
 induction m with
 | zero =>
  intro j n hj hn
  obtain ⟨n, rfl⟩ : ∃ j, n = j + 1 := ⟨n - 1, by omega⟩
  rw [R4GetC0S]
  simp only [lchk_ptr, loff_ptr, ob_some, Nat.add_zero, hp, hv.len2, lbin_lss]
  rw [decide_eq_false (by omega), cnd_false]
  exact ⟨0, 2, rfl, fun e => by cases e⟩
 | succ m ih =>
  intro j n hj hn
  obtain ⟨n, rfl⟩ : ∃ j, n = j + 1 := ⟨n - 1, by omega⟩
  have hlt : j < l.length := by omega
  obtain ⟨r, _, a1, a2, a3, a4⟩ := hv.ix2 (List.getElem?_eq_getElem hlt)
  rw [R4GetC0S]
  simp only [lchk_ptr, loff_ptr, ob_some, Nat.add_zero, hp, hv.len2, lbin_lss]
  rw [decide_eq_true (by omega), cnd_true]
  simp only [a1, ob_some, loff_ptr, Nat.add_zero, a2, lbin_seq, a3]
  cases decide (l[j].1 = nm) with
  | true =>
   rw [cnd_true]
   exact ⟨_, 0, rfl, fun _ => ⟨(he _ (List.getElem_mem hlt)).1, (he _ (List.getElem_mem hlt)).2.1⟩⟩
  | false =>
   rw [cnd_false, lbin_add, ob_some, wrap_i64 (by omega) (by omega), show ((j : Nat) : Int) + 1 = ((j + 1 : Nat) : Int) by omega]
   exact ih (j + 1) n (by omega) (by omega)
theorem rget4_s (hN : 1000001 < N) {c : Nat} {own : Nat -> Nat} {b s : Nat} {R : List IV} {i : Nat} {nm : Nam} (h : RB c own H b s R) (hc : c <= 1000000) (hi : i <= 200) : ∃ v e : Int, R4GetS cal φ N (.ptr b (1 + i * 9 + 7)) (.str nm) H = some (.tuple [.int .i64 v, .int .i64 e], H) /\ (e = 0 -> 1 <= v /\ v <= 200) := by
 unfold R4GetS R4GetC4S R4GetC3S R4GetC2S R4GetC1S
 obtain ⟨v, a1, _, a2⟩ := h.ptr hi (show 7 < 9 by omega)
 obtain ⟨l, b1, b2, b3⟩ := RCell.list.1 a2
 exact rget4_go a1 b1 (by omega) b3 l.length 0 N (by omega) (by omega)
def RLess1Ok (φ : Oracle) (f : FuncId) : Prop := ∀ (H : Heap) (a b : Nam), a.length <= 1000000000 -> b.length <= 1000000000 -> ∃ t : Bool, φ f [.str a, .str b] H = some (.bool t, H)
theorem rless1_go {a b : Nam} (ha : a.length <= 1000000000) (hb : b.length <= 1000000000) : ∀ (m i n : Nat), i + m = a.length -> m < n -> ∃ t : Bool, vr01LessC0S cal φ N (fun v0 v1 H => ob (llen H .str v0) fun t1 =>
  ob (llen H .str v1) fun t2 =>
  ob (lbin .lss t1 t2) fun t3 =>
  some (t3, H)) n (.str a) (.str b) (.int .i64 (i : Nat)) H = some (.bool t, H) := by
 intro m
 induction m with
 | zero =>
  intro i n hi hn
  obtain ⟨n, rfl⟩ : ∃ j, n = j + 1 := ⟨n - 1, by omega⟩
  rw [vr01LessC0S, llen_str, ob_some, lbin_lss, ob_some, decide_eq_false (by omega)]
  simp only [isB_ft, gq_false, ob_some, lpick_false, cnd_false, llen_str, lbin_lss]
  exact ⟨_, rfl⟩
 | succ m ih =>
  intro i n hi hn
  obtain ⟨n, rfl⟩ : ∃ j, n = j + 1 := ⟨n - 1, by omega⟩
  rw [vr01LessC0S, llen_str, ob_some, lbin_lss, ob_some, decide_eq_true (by omega)]
  simp only [isB_tt, gq_true, ob_some, llen_str, lbin_lss, lpick_true]
  by_cases hib : (i : Int) < (b.length : Nat)
  ·rw [decide_eq_true hib, cnd_true]
   have ea : lixs (.str a) (.int .i64 (i : Nat)) = some (.int .u8 (a[i]'(by omega)).toNat) := by rw [lixs_str, if_pos (by omega), Int.toNat_natCast, List.getElem?_eq_getElem (show i < a.length by omega)]; rfl
   have eb : lixs (.str b) (.int .i64 (i : Nat)) = some (.int .u8 (b[i]'(by omega)).toNat) := by rw [lixs_str, if_pos (by omega), Int.toNat_natCast, List.getElem?_eq_getElem (show i < b.length by omega)]; rfl
   simp only [ea, eb, ob_some, lbin_neq, lbin_lss]
   cases decide ((((a[i]'(by omega)).toNat : Nat) : Int) = (((b[i]'(by omega)).toNat : Nat) : Int)) with
   | false => rw [Bool.not_false, cnd_true]; exact ⟨_, rfl⟩
   | true =>
    rw [Bool.not_true, cnd_false, lbin_add, ob_some, wrap_i64 (by omega) (by omega), show ((i : Nat) : Int) + 1 = ((i + 1 : Nat) : Int) by omega]
    exact ih (i + 1) n (by omega) (by omega)
  ·rw [decide_eq_false hib, cnd_false]
   exact ⟨_, rfl⟩
theorem rless1_s {a b : Nam} (ha : a.length <= 1000000000) (hb : b.length <= 1000000000) : ∃ t : Bool, vr01LessS cal φ (a.length + 1) (.str a) (.str b) H = some (.bool t, H) := by
 unfold vr01LessS vr01LessC4S vr01LessC3S vr01LessC2S vr01LessC1S
 exact rless1_go ha hb a.length 0 (a.length + 1) (by omega) (by omega)
end
end Go.Shade
namespace Go.Shade
variable {H : Heap} {b i : Nat} {nm : Nam} {own : Nat -> Nat}
section
variable {cal : FuncId -> Bool} {φ : Oracle} {N : Nat}
def RSet4Ok (φ : Oracle) (f : FuncId) : Prop := ∀ (c : Nat) (own : Nat -> Nat) (H : Heap) (b s : Nat) (R : List IV) (i : Nat) (nm : Nam) (w : Int), RB c own H b s R -> c < 1000000 -> i <= 200 -> 1 <= w -> w <= 200 -> Wp (φ f [.ptr b (1 + i * 9 + 7), .str nm, .int .i64 w] H) fun r => (∃ e : Int, r.1 = .int .i64 e) /\ RA (c + 1) own H b s r.2
theorem bld1e {K : Heap} {e : Nam × Int} : lbldS K 2 1 [(.str []), (.int .i64 0)] [(0, .agg [.str e.1, .int .i64 e.2])] = some (.slice K.length 0 1 1 true 2, K ++ [.row [.str e.1, .int .i64 e.2] false]) := rfl
theorem rset4_go {fn fle : FuncId} (hl : RLess1Ok φ fle) {w : Int} {v : IV} {l : Dr} (hp : lload1 H (.ptr b (1 + i * 9 + 7)) = some v) (hv : TS 2 (fun j => own j = 3 * i + 3) H v (fl (prs l))) (hlt : ∀ j, own j = 3 * i + 3 -> j < H.length) (hb : b < H.length) (hle : l.length <= 1000000) (he : ∀ e ∈ l, EntR e) (hnm : nm.length <= 60) (hw : 1 <= w /\ w <= 200) {gE0 : IV -> IV -> IV -> IV -> IV -> Heap -> Option (IV × Heap)} {Q : Out -> Prop}
  (hk : ∀ (K : Heap) (bv : IV) (done : Bool) (acc : Dr), Frame (fun j => H.length <= j) H K -> TS 2 (fun j => H.length <= j) K bv (fl (prs acc)) -> (∀ e ∈ acc, EntR e) -> acc.length <= l.length + (if done = true then 1 else 0) -> Wp (gE0 (.ptr b (1 + i * 9 + 7)) (.str nm) (.int .i64 w) bv (.bool done) K) Q) :
  ∀ (m j n : Nat) (K : Heap) (bv : IV) (done : Bool) (acc : Dr), j + m = l.length -> m < n -> Frame (fun j => H.length <= j) H K -> TS 2 (fun j => H.length <= j) K bv (fl (prs acc)) -> (∀ e ∈ acc, EntR e) -> acc.length <= j + (if done = true then 1 else 0) ->
   Wp (R4SetC0S cal φ N fn fle gE0 n (.ptr b (1 + i * 9 + 7)) (.str nm) (.int .i64 w) bv (.bool done) (.int .i64 (j : Nat)) K) Q := by
 intro m
 induction m with
 | zero =>
  intro j n K bv done acc hj hn hF hT hA hL
  obtain ⟨n, rfl⟩ : ∃ j, n = j + 1 := ⟨n - 1, by omega⟩
  have hv' := hv.frame hF fun j hj h => by have := hlt j hj; omega
  have hp' : lload1 K (.ptr b (1 + i * 9 + 7)) = some v := by
   rw [lload1_ptr] at hp ⊢; rw [hF.2 b hb (by omega)]; exact hp
  rw [R4SetC0S]
  simp only [lchk_ptr, loff_ptr, ob_some, Nat.add_zero, hp', hv'.len2, lbin_lss]
  rw [decide_eq_false (by omega), cnd_false]
  exact hk K bv done acc hF hT hA (by omega)
 | succ m ih =>
  intro j n K bv done acc hj hn hF hT hA hL
  obtain ⟨n, rfl⟩ : ∃ j, n = j + 1 := ⟨n - 1, by omega⟩
  have hlt' : j < l.length := by omega
  have old : ∀ (K : Heap), Frame (fun j => H.length <= j) H K -> lload1 K (.ptr b (1 + i * 9 + 7)) = some v /\ TS 2 (fun j => own j = 3 * i + 3) K v (fl (prs l)) := fun K hF => ⟨by rw [lload1_ptr] at hp ⊢; rw [hF.2 b hb (by omega)]; exact hp, hv.frame hF fun j hj h => by have := hlt j hj; omega⟩
  obtain ⟨hp', hv'⟩ := old K hF
  obtain ⟨r, _, a1, a2, a3, a4⟩ := hv'.ix2 (List.getElem?_eq_getElem hlt')
  have hej := he _ (List.getElem_mem hlt')
  rw [R4SetC0S]
  simp only [lchk_ptr, loff_ptr, ob_some, Nat.add_zero, hp', hv'.len2, lbin_lss]
  rw [decide_eq_true (by omega), cnd_true]
  simp only [jn_eq]
  have tail : ∀ (K2 : Heap) (bv2 : IV) (done2 : Bool) (acc2 : Dr), Frame (fun j => H.length <= j) H K2 -> TS 2 (fun j => H.length <= j) K2 bv2 (fl (prs acc2)) -> (∀ e ∈ acc2, EntR e) -> acc2.length <= j + (if done2 = true then 1 else 0) ->
    Wp (ob (lload1 K2 (.ptr b (1 + i * 9 + 7))) fun t74 =>
     ob (lix 2 t74 (.int .i64 (j : Nat))) fun t75 =>
     ob (loff t75 0) fun t76 =>
     ob (lload1 K2 t76) fun t77 =>
     ob (lbin .neq t77 (.str nm)) fun t78 =>
     cnd t78
     (ob (lload1 K2 (.ptr b (1 + i * 9 + 7))) fun t81 =>
     ob (lix 2 t81 (.int .i64 (j : Nat))) fun t82 =>
     ob (lloadn K2 2 t82) fun t83 =>
     ob (lbldS K2 2 1 [(.str []), (.int .i64 0)] [(0, t83)]) fun r84 =>
     ob (lapp r84.2 2 24 bv2 r84.1) fun r85 =>
     ob (lbin .add (.int .i64 (j : Nat)) (.int .i64 1)) fun t47 =>
     R4SetC0S cal φ N fn fle gE0 n (.ptr b (1 + i * 9 + 7)) (.str nm) (.int .i64 w) r85.1 (.bool done2) t47 r85.2)
     (ob (lbin .add (.int .i64 (j : Nat)) (.int .i64 1)) fun t47 =>
     R4SetC0S cal φ N fn fle gE0 n (.ptr b (1 + i * 9 + 7)) (.str nm) (.int .i64 w) bv2 (.bool done2) t47 K2)) Q := by
   intro K2 bv2 done2 acc2 q1 q2 q3 q4
   obtain ⟨hp2, hv2⟩ := old K2 q1
   obtain ⟨r2, _, c1, c2, c3, c4⟩ := hv2.ix2 (List.getElem?_eq_getElem hlt')
   have enx : lbin .add (.int .i64 (j : Nat)) (.int .i64 1) = some (.int .i64 ((j + 1 : Nat) : Int)) := by rw [lbin_add, wrap_i64 (by omega) (by omega)]; rfl
   simp only [hp2, ob_some, c1, loff_ptr, Nat.add_zero, c2, lbin_sneq, enx]
   refine Wp.ndec (fun _ => ?_) (fun _ => ?_)
   ·rw [c4, ob_some, bld1e, ob_some]
    refine Wp.call (app_ent q2 (by split at q4 <;> omega)) ?_
    rintro ⟨bv3, K3⟩ ⟨u1, u2⟩
    simp only at u1 u2 ⊢
    refine ih (j + 1) n K3 bv3 done2 (acc2 ++ [l[j]]) (by omega) (by omega) (q1.tr u1) (u2.mono fun j' hj' => Nat.le_trans q1.1 hj') (fun e hem => ?_) (by simp; omega)
    rcases List.mem_append.1 hem with h | h
    ·exact q3 e h
    ·rw [List.mem_singleton] at h; subst h; exact hej
   ·exact ih (j + 1) n K2 bv2 done2 acc2 (by omega) (by omega) q1 q2 q3 (by omega)
  cases done with
  | true =>
   simp only [iun_not, ob_some, Bool.not_true, isB_ft, gq_false, ge_false, lpick_false, cnd_false]
   exact tail K bv true acc hF hT hA hL
  | false =>
   obtain ⟨t, ht⟩ := hl K l[j].1 nm (by have := hej.2.2; omega) (by omega)
   simp only [iun_not, ob_some, Bool.not_false, isB_tt, gq_true, ge_true, lchk_ptr, hp', a1, loff_ptr, Nat.add_zero, a2, ht, lpick_true]
   cases t with
   | true =>
    rw [Bool.not_true, cnd_false]
    have := tail K bv false acc hF hT hA hL
    simp only [hp', ob_some, a1, loff_ptr, Nat.add_zero, a2] at this
    exact this
   | false =>
    rw [Bool.not_false, cnd_true]
    have e2 : lbld [(.str []), (.int .i64 0)] [(0, 1, .str nm), (1, 1, .int .i64 w)] = some (.agg [.str nm, .int .i64 w]) := rfl
    rw [e2, ob_some, show lbldS K 2 1 [(.str []), (.int .i64 0)] [(0, .agg [.str nm, .int .i64 w])] = some (.slice K.length 0 1 1 true 2, K ++ [.row [.str nm, .int .i64 w] false]) from rfl, ob_some]
    have hL' : acc.length <= j := by simpa using hL
    refine Wp.call (app_ent (e := (nm, w)) hT (by omega)) ?_
    rintro ⟨bv3, K3⟩ ⟨u1, u2⟩
    simp only at u1 u2 ⊢
    refine tail K3 bv3 true (acc ++ [(nm, w)]) (hF.tr u1) (u2.mono fun j' hj' => Nat.le_trans hF.1 hj') (fun e hem => ?_) (by simp; omega)
    rcases List.mem_append.1 hem with h | h
    ·exact hA e h
    ·rw [List.mem_singleton] at h; subst h; exact ⟨hw.1, hw.2, hnm⟩
theorem rset4_s (hN : 1000001 < N) {fn fle : FuncId} (hn : RErrOk φ fn) (hl : RLess1Ok φ fle) {c : Nat} {s : Nat} {R : List IV} {w : Int} (h : RB c own H b s R) (hc : c < 1000000) (hi : i <= 200) (hw1 : 1 <= w) (hw2 : w <= 200) :
  Wp (R4SetS cal φ N fn fle (.ptr b (1 + i * 9 + 7)) (.str nm) (.int .i64 w) H) fun r => (∃ e : Int, r.1 = .int .i64 e) /\ RA (c + 1) own H b s r.2 := by
 have bad : ∀ e : Int, Wp (some ((IV.int .i64 e), H)) fun r => (∃ e : Int, r.1 = .int .i64 e) /\ RA (c + 1) own H b s r.2 := fun e => Wp.ret ⟨⟨e, rfl⟩, (RA.refl h).mono (by omega)⟩
 unfold R4SetS R4SetC9S R4SetC8S R4SetC7S
 obtain ⟨e, he, hlen⟩ := hn H nm
 rw [he, ob_some]
 simp only
 rw [lbin_neq, ob_some]
 refine Wp.ndec (fun _ => bad e) (fun h0 => ?_)
 unfold R4SetC6S
 rw [lbin_seq, ob_some]
 have rest : Wp (R4SetC5S cal φ N fn fle (.ptr b (1 + i * 9 + 7)) (.str nm) (.int .i64 w) H) fun r => (∃ e : Int, r.1 = .int .i64 e) /\ RA (c + 1) own H b s r.2 := by
  unfold R4SetC5S
  have e1 : lbldS H 2 0 [(.str []), (.int .i64 0)] [] = some (.slice H.length 0 0 0 true 2, H ++ [.row [] false]) := rfl
  rw [e1, ob_some]
  simp only
  obtain ⟨v, a1, _, a2⟩ := h.ptr hi (show 7 < 9 by omega)
  obtain ⟨l, b1, b2, b3⟩ := RCell.list.1 a2
  have hbl := (ges h.row).1
  unfold R4SetC4S R4SetC3S R4SetC2S R4SetC1S
  have k1 : Frame (fun j => H.length <= j) H (H ++ [IObj.row [] false]) := Frame.push _ _ _
  refine rset4_go hl a1 b1 (fun j hj => h.lt j (by omega)) hbl (by omega) b3 (hlen h0) ⟨hw1, hw2⟩ ?_ l.length 0 N _ _ false [] (by omega) (by omega) k1 (.inr ⟨H.length, 0, true, rfl, Nat.le_refl _, newRow, rfl⟩) (fun e h => by cases h) (by simp)
  intro K bv done acc q1 q2 q3 q4
  simp only [jn_eq]
  have fin : ∀ (K : Heap) (bv : IV) (acc : Dr), Frame (fun j => H.length <= j) H K -> TS 2 (fun j => H.length <= j) K bv (fl (prs acc)) -> (∀ e ∈ acc, EntR e) -> acc.length <= l.length + 1 -> Wp (ob (lchk (.ptr b (1 + i * 9 + 7))) fun t11 =>
    ob (loff t11 0) fun t12 =>
    ob (lstV K 1 t12 bv) fun r13 =>
    some ((IV.int .i64 0), r13.2)) fun r => (∃ e : Int, r.1 = .int .i64 e) /\ RA (c + 1) own H b s r.2 := by
   intro K bv acc q1 q2 q3 q4
   rw [lchk_ptr, ob_some, loff_ptr, ob_some, Nat.add_zero]
   refine Wp.call (h.newList (c' := c + 1) (by omega) hi q1 q2 (by omega) q3) ?_
   rintro ⟨x, K2⟩ hRA
   exact Wp.ret ⟨⟨0, rfl⟩, hRA⟩
  cases done with
  | true =>
   simp only [iun_not, ob_some, Bool.not_true, cnd_false]
   exact fin K bv acc q1 q2 q3 q4
  | false =>
   simp only [iun_not, ob_some, Bool.not_false, cnd_true]
   have e2 : lbld [(.str []), (.int .i64 0)] [(0, 1, .str nm), (1, 1, .int .i64 w)] = some (.agg [.str nm, .int .i64 w]) := rfl
   rw [e2, ob_some, show lbldS K 2 1 [(.str []), (.int .i64 0)] [(0, .agg [.str nm, .int .i64 w])] = some (.slice K.length 0 1 1 true 2, K ++ [.row [.str nm, .int .i64 w] false]) from rfl, ob_some]
   have q4' : acc.length <= l.length := by simpa using q4
   refine Wp.call (app_ent (e := (nm, w)) q2 (by omega)) ?_
   rintro ⟨bv3, K3⟩ ⟨u1, u2⟩
   simp only at u1 u2 ⊢
   refine fin K3 bv3 (acc ++ [(nm, w)]) (q1.tr u1) (u2.mono fun j' hj' => Nat.le_trans q1.1 hj') (fun e hem => ?_) (by simp; omega)
   rcases List.mem_append.1 hem with h' | h'
   ·exact q3 e h'
   ·rw [List.mem_singleton] at h'; subst h'; exact ⟨hw1, hw2, hlen h0⟩
 cases decide (nm = [46]) with
 | true => simp only [isB_tf, gq_false, ob_some, lpick_true, cnd_true]; exact bad 22
 | false =>
  simp only [isB_ff, gq_true, ob_some, lbin_seq, lpick_false]
  cases decide (nm = [46, 46]) with
  | true => simp only [isB_tf, gq_false, ob_some, lpick_true, cnd_true]; exact bad 22
  | false =>
   simp only [isB_ff, gq_true, ob_some, lbin_lss, lpick_false]
   rw [decide_eq_false (by omega), cnd_false]
   exact rest
def RDel4Ok (φ : Oracle) (f : FuncId) : Prop := ∀ (c : Nat) (own : Nat -> Nat) (H : Heap) (b s : Nat) (R : List IV) (i : Nat) (nm : Nam), RB c own H b s R -> c <= 1000000 -> i <= 200 -> Wp (φ f [.ptr b (1 + i * 9 + 7), .str nm] H) fun r => RA c own H b s r.2
theorem rdel4_go {fg : FuncId} {v x6 x7 : IV} {l : Dr} (hp : lload1 H (.ptr b (1 + i * 9 + 7)) = some v) (hv : TS 2 (fun j => own j = 3 * i + 3) H v (fl (prs l))) (hlt : ∀ j, own j = 3 * i + 3 -> j < H.length) (hb : b < H.length) (hle : l.length <= 1000000) (he : ∀ e ∈ l, EntR e) {gE0 : IV -> IV -> IV -> IV -> Heap -> Option (IV × Heap)} {Q : Out -> Prop}
  (hk : ∀ (K : Heap) (bv : IV) (acc : Dr), Frame (fun j => H.length <= j) H K -> TS 2 (fun j => H.length <= j) K bv (fl (prs acc)) -> (∀ e ∈ acc, EntR e) -> acc.length <= l.length -> Wp (gE0 (.ptr b (1 + i * 9 + 7)) x6 x7 bv K) Q) :
  ∀ (m j n : Nat) (K : Heap) (bv : IV) (acc : Dr), j + m = l.length -> m < n -> Frame (fun j => H.length <= j) H K -> TS 2 (fun j => H.length <= j) K bv (fl (prs acc)) -> (∀ e ∈ acc, EntR e) -> acc.length <= j ->
   Wp (R4DelC0S cal φ N fg gE0 n (.ptr b (1 + i * 9 + 7)) (.str nm) x6 x7 bv (.int .i64 (j : Nat)) K) Q := by
 intro m
 induction m with
 | zero =>
  intro j n K bv acc hj hn hF hT hA hL
  obtain ⟨n, rfl⟩ : ∃ j, n = j + 1 := ⟨n - 1, by omega⟩
  have hv' := hv.frame hF fun j hj h => by have := hlt j hj; omega
  have hp' : lload1 K (.ptr b (1 + i * 9 + 7)) = some v := by
   rw [lload1_ptr] at hp ⊢; rw [hF.2 b hb (by omega)]; exact hp
  rw [R4DelC0S]
  simp only [lchk_ptr, loff_ptr, ob_some, Nat.add_zero, hp', hv'.len2, lbin_lss]
  rw [decide_eq_false (by omega), cnd_false]
  exact hk K bv acc hF hT hA (by omega)
 | succ m ih =>
  intro j n K bv acc hj hn hF hT hA hL
  obtain ⟨n, rfl⟩ : ∃ j, n = j + 1 := ⟨n - 1, by omega⟩
  have hlt' : j < l.length := by omega
  have hv' := hv.frame hF fun j hj h => by have := hlt j hj; omega
  have hp' : lload1 K (.ptr b (1 + i * 9 + 7)) = some v := by
   rw [lload1_ptr] at hp ⊢; rw [hF.2 b hb (by omega)]; exact hp
  obtain ⟨r, _, a1, a2, a3, a4⟩ := hv'.ix2 (List.getElem?_eq_getElem hlt')
  have hej := he _ (List.getElem_mem hlt')
  have enx : lbin .add (.int .i64 (j : Nat)) (.int .i64 1) = some (.int .i64 ((j + 1 : Nat) : Int)) := by rw [lbin_add, wrap_i64 (by omega) (by omega)]; rfl
  rw [R4DelC0S]
  simp only [lchk_ptr, loff_ptr, ob_some, Nat.add_zero, hp', hv'.len2, lbin_lss]
  rw [decide_eq_true (by omega), cnd_true]
  simp only [jn_eq, a1, ob_some, loff_ptr, Nat.add_zero, a2, lbin_sneq, enx]
  refine Wp.ndec (fun _ => ?_) (fun _ => ?_)
  ·rw [a4, ob_some, bld1e, ob_some]
   refine Wp.call (app_ent hT (by omega)) ?_
   rintro ⟨bv3, K3⟩ ⟨u1, u2⟩
   simp only at u1 u2 ⊢
   refine ih (j + 1) n K3 bv3 (acc ++ [l[j]]) (by omega) (by omega) (hF.tr u1) (u2.mono fun j' hj' => Nat.le_trans hF.1 hj') (fun e hem => ?_) (by simp; omega)
   rcases List.mem_append.1 hem with h | h
   ·exact hA e h
   ·rw [List.mem_singleton] at h; subst h; exact hej
  ·exact ih (j + 1) n K bv acc (by omega) (by omega) hF hT hA (by omega)
theorem rdel4_s (hN : 1000001 < N) {fg : FuncId} (hg : RGet4Ok φ fg) {c : Nat} {s : Nat} {R : List IV} (h : RB c own H b s R) (hc : c <= 1000000) (hi : i <= 200) :
  Wp (R4DelS cal φ N fg (.ptr b (1 + i * 9 + 7)) (.str nm) H) fun r => RA c own H b s r.2 := by
 unfold R4DelS R4DelC6S R4DelC5S
 obtain ⟨x, e, he, _⟩ := hg c own H b s R i nm h hc hi
 rw [he, ob_some, iextract_tuple, iextract_tuple]
 simp only [List.getElem?_cons_zero, List.getElem?_cons_succ, ob_some]
 unfold R4DelC4S
 have e1 : lbldS H 2 0 [(.str []), (.int .i64 0)] [] = some (.slice H.length 0 0 0 true 2, H ++ [.row [] false]) := rfl
 rw [e1, ob_some]
 simp only
 obtain ⟨v, a1, _, a2⟩ := h.ptr hi (show 7 < 9 by omega)
 obtain ⟨l, b1, b2, b3⟩ := RCell.list.1 a2
 have hbl := (ges h.row).1
 unfold R4DelC3S R4DelC2S R4DelC1S
 have k1 : Frame (fun j => H.length <= j) H (H ++ [IObj.row [] false]) := Frame.push _ _ _
 refine rdel4_go a1 b1 (fun j hj => h.lt j (by omega)) hbl (by omega) b3 ?_ l.length 0 N _ _ [] (by omega) (by omega) k1 (.inr ⟨H.length, 0, true, rfl, Nat.le_refl _, newRow, rfl⟩) (fun e h => by cases h) (by simp)
 intro K bv acc q1 q2 q3 q4
 simp only
 rw [lchk_ptr, ob_some, loff_ptr, ob_some, Nat.add_zero]
 refine Wp.call (h.newList (c' := c) (Nat.le_refl _) hi q1 q2 (by omega) q3) ?_
 rintro ⟨y, K2⟩ hRA
 exact Wp.ret hRA
end
end Go.Shade
namespace Go.Shade
variable {H : Heap} {R : List IV} {b c s : Nat} {fs : FuncId} {i : Int} {nm : Nam} {own : Nat -> Nat}
section
variable {cal : FuncId -> Bool} {φ : Oracle} {N : Nat}
def RGetOk (φ : Oracle) (f : FuncId) : Prop := ∀ (c : Nat) (own : Nat -> Nat) (H : Heap) (b s : Nat) (R : List IV) (i : Int) (nm : Nam), RB c own H b s R -> c <= 1000000 -> ∃ v e : Int, φ f [.ptr b 0, .int .i64 i, .str nm] H = some (.tuple [.int .i64 v, .int .i64 e], H) /\ (e = 0 -> (1 <= v /\ v <= 200) /\ 1 <= i /\ i <= 200)
theorem rget_s {fd fg : FuncId} (hd : RDirOk φ fd) (hg : RGet4Ok φ fg) (h : RB c own H b s R) (hc : c <= 1000000) : ∃ v e : Int, R5GetS cal φ N fd fg (.ptr b 0) (.int .i64 i) (.str nm) H = some (.tuple [.int .i64 v, .int .i64 e], H) /\ (e = 0 -> (1 <= v /\ v <= 200) /\ 1 <= i /\ i <= 200) := by
 unfold R5GetS
 obtain ⟨e, he, hi⟩ := hd c own H b s R i false h
 rw [he, ob_some]
 simp only
 rw [lbin_neq, ob_some]
 by_cases h0 : e = 0
 ·rw [decide_eq_true h0, Bool.not_true, cnd_false]
  obtain ⟨i1, i2⟩ := hi h0
  obtain ⟨n, rfl⟩ : ∃ n : Nat, i = (n : Nat) := ⟨i.toNat, by omega⟩
  obtain ⟨v, e', he', hv⟩ := hg c own H b s R n nm h hc (by omega)
  simp only [lchk_ptr, loff_ptr, ob_some, Nat.zero_add, rixa (show n <= 200 by omega), he', iextract_tuple, List.getElem?_cons_zero, List.getElem?_cons_succ]
  exact ⟨v, e', rfl, fun h => ⟨hv h, i1, i2⟩⟩
 ·rw [decide_eq_false h0, Bool.not_false, cnd_true]
  exact ⟨0, e, rfl, fun h => absurd h h0⟩
def RVacOk (φ : Oracle) (f : FuncId) : Prop := ∀ (c : Nat) (own : Nat -> Nat) (H : Heap) (b s : Nat) (R : List IV) (i : Int) (nm : Nam), RB c own H b s R -> c <= 1000000 -> ∃ e : Int, φ f [.ptr b 0, .int .i64 i, .str nm] H = some (.int .i64 e, H) /\ (e = 0 -> 1 <= i /\ i <= 200)
theorem rvac_s {fd fg : FuncId} (hd : RDirOk φ fd) (hs : RErrOk φ fs) (hg : RGet4Ok φ fg) (h : RB c own H b s R) (hc : c <= 1000000) : ∃ e : Int, R5VacantS cal φ N fd fs fg (.ptr b 0) (.int .i64 i) (.str nm) H = some (.int .i64 e, H) /\ (e = 0 -> 1 <= i /\ i <= 200) := by
 unfold R5VacantS
 obtain ⟨e, he, hi⟩ := hd c own H b s R i true h
 rw [he, ob_some]
 simp only
 rw [lbin_neq, ob_some]
 by_cases h0 : e = 0
 ·rw [decide_eq_true h0, Bool.not_true, cnd_false]
  obtain ⟨i1, i2⟩ := hi h0
  obtain ⟨n, rfl⟩ : ∃ n : Nat, i = (n : Nat) := ⟨i.toNat, by omega⟩
  obtain ⟨e2, he2, _⟩ := hs H nm
  rw [he2, ob_some]
  simp only
  rw [lbin_neq, ob_some]
  by_cases h2 : e2 = 0
  ·rw [decide_eq_true h2, Bool.not_true, cnd_false]
   obtain ⟨v, e', he', hv⟩ := hg c own H b s R n nm h hc (by omega)
   simp only [lchk_ptr, loff_ptr, ob_some, Nat.zero_add, rixa (show n <= 200 by omega), he', iextract_tuple, List.getElem?_cons_zero, List.getElem?_cons_succ, lbin_eql]
   cases decide (e' = 0) with
   | true => rw [cnd_true]; exact ⟨17, rfl, fun e => by cases e⟩
   | false => rw [cnd_false]; exact ⟨0, rfl, fun _ => ⟨i1, i2⟩⟩
  ·rw [decide_eq_false h2, Bool.not_false, cnd_true]
   exact ⟨e2, rfl, fun h => absurd h h2⟩
 ·rw [decide_eq_false h0, Bool.not_false, cnd_true]
  exact ⟨e, rfl, fun h => absurd h h0⟩
def RMarkOk (φ : Oracle) (f : FuncId) : Prop := ∀ (c : Nat) (own : Nat -> Nat) (H : Heap) (b s : Nat) (R : List IV) (i v : Int), RB c own H b s R -> Wp (φ f [.ptr b 0, .int .i64 i, .int .i64 v] H) fun r => RA c own H b s r.2
theorem RB.ints (h : RB c own H b s R) {i k : Nat} {v : Int} (hi : i <= 200) (hk : k < 4) : lstV H 1 (.ptr b (1 + i * 9 + k)) (.int .i64 v) = some (.tuple [], H.set b (.row (R.set (1 + 9 * i + k) (.int .i64 v)) false)) /\ RB c own (H.set b (.row (R.set (1 + 9 * i + k) (.int .i64 v)) false)) b s (R.set (1 + 9 * i + k) (.int .i64 v)) /\ Frame (fun j => own j ≠ 0) H (H.set b (.row (R.set (1 + 9 * i + k) (.int .i64 v)) false)) := by
 refine ⟨?_, h.set hi (by omega) (RCell.scal hk v), Frame.set _ _ (by rw [h.ob]; decide)⟩
 rw [show 1 + i * 9 + k = 1 + 9 * i + k by omega, st1 h.row (by simp only [one_int]) (by rw [h.len]; omega)]
theorem rmark_s {fi : FuncId} (hi : RIsOk φ fi) {v : Int} (h : RB c own H b s R) : Wp (R5MarkS cal φ N fi (.ptr b 0) (.int .i64 i) (.int .i64 v) H) fun r => RA c own H b s r.2 := by
 unfold R5MarkS
 obtain ⟨t, e, ht⟩ := hi c own H b s R i h
 rw [e, ob_some]
 cases t with
 | false => simp only [iun_not, ob_some, Bool.not_false, cnd_true]; exact Wp.ret (RA.refl h)
 | true =>
  obtain ⟨a1, a2⟩ := ht rfl
  obtain ⟨n, rfl⟩ : ∃ n : Nat, i = (n : Nat) := ⟨i.toNat, by omega⟩
  obtain ⟨q1, q2, q3⟩ := h.ints (i := n) (k := 3) (v := v) (by omega) (by omega)
  simp only [iun_not, ob_some, Bool.not_true, cnd_false, lchk_ptr, loff_ptr, Nat.zero_add, rixa (show n <= 200 by omega), q1]
  exact Wp.ret ⟨own, _, q2, q3, fun _ h => .inl h⟩
def RMakeOk (φ : Oracle) (f : FuncId) : Prop := ∀ (c : Nat) (own : Nat -> Nat) (H : Heap) (b s : Nat) (R : List IV) (i : Int) (nm : Nam) (k : Int) (t : Nam), RB c own H b s R -> c < 1000000 -> Wp (φ f [.ptr b 0, .int .i64 i, .str nm, .int .i64 k, .str t] H) fun r => RA (c + 1) own H b s r.2
theorem rmake_go {fv : FuncId} {v1 v2 v3 v4 : IV} (h : RB c own H b s R) {gE0 : IV -> IV -> IV -> IV -> IV -> IV -> Heap -> Option (IV × Heap)} {Q : Out -> Prop} (hk : ∀ n : Nat, 1 <= n -> n <= 201 -> Wp (gE0 (.ptr b 0) v1 v2 v3 v4 (.int .i64 (n : Nat)) H) Q) :
  ∀ (m j n : Nat), j + m = 201 -> 1 <= j -> m < n -> Wp (R5MakeC0S cal φ N fv fs gE0 n (.ptr b 0) v1 v2 v3 v4 (.int .i64 (j : Nat)) H) Q := by
 intro m
 induction m with
 | zero =>
  intro j n hj h1 hn
  obtain ⟨n, rfl⟩ : ∃ j, n = j + 1 := ⟨n - 1, by omega⟩
  rw [R5MakeC0S, lbin_leq, ob_some, decide_eq_false (by omega)]
  simp only [isB_ft, gq_false, ob_some, lpick_false, cnd_false]
  exact hk j h1 (by omega)
 | succ m ih =>
  intro j n hj h1 hn
  obtain ⟨n, rfl⟩ : ∃ j, n = j + 1 := ⟨n - 1, by omega⟩
  obtain ⟨z, e, _⟩ := h.int (i := j) (k := 0) (by omega) (by omega)
  have e' : lload1 H (.ptr b (1 + j * 9)) = some (.int .i64 z) := e
  rw [R5MakeC0S, lbin_leq, ob_some, decide_eq_true (by omega)]
  simp only [isB_tt, gq_true, ob_some, lchk_ptr, loff_ptr, Nat.zero_add, Nat.add_zero, rixa (show j <= 200 by omega), e', lbin_neq, lpick_true]
  refine Wp.ndec (fun _ => ?_) (fun _ => hk j h1 (by omega))
  rw [lbin_add, ob_some, wrap_i64 (by omega) (by omega), show ((j : Nat) : Int) + 1 = ((j + 1 : Nat) : Int) by omega]
  exact ih (j + 1) n (by omega) (by omega) (by omega)
theorem RB.node {c : Nat} {own : Nat -> Nat} {H : Heap} {b s : Nat} {R : List IV} (h : RB c own H b s R) {i : Nat} (hi : i <= 200) {k p : Int} {l : Int} {t : Nam} (hp : 0 <= p /\ p <= 200) :
  ∃ H' R', lstV H 9 (.ptr b (1 + i * 9)) (.agg [.int .i64 k, .int .i64 l, .int .i64 0, .int .i64 0, .int .i64 p, .nilSlice, .nilSlice, .nilSlice, .str t]) = some (.tuple [], H') /\ RB c own H' b s R' /\ Frame (fun j => own j ≠ 0) H H' := by
 let cs : List IV := [.int .i64 k, .int .i64 l, .int .i64 0, .int .i64 0, .int .i64 p, .nilSlice, .nilSlice, .nilSlice, .str t]
 have hst : lstV H 9 (.ptr b (1 + i * 9)) (.agg cs) = some (.tuple [], H.set b (.row (putAt R (1 + i * 9) cs) false)) := by
  rw [lstV_ptr, h.row]
  unfold putO
  simp only [IV.cells, isTuple]
  rw [if_pos ⟨trivial, rfl, by rw [h.len]; show 1 + i * 9 + 9 <= 1810; omega, rfl⟩]; rfl
 have hle : 1 + i * 9 + cs.length <= R.length := by rw [h.len]; show 1 + i * 9 + 9 <= 1810; omega
 refine ⟨_, putAt R (1 + i * 9) cs, hst, h.put (by rw [putAt_length hle]; exact h.len) (by rw [putAt_get hle, if_neg (by omega)]) fun i' k' hi' hk' => ?_, Frame.set _ _ (by rw [h.ob]; decide)⟩
 rw [putAt_get hle]
 by_cases e : i' = i
 ·subst e
  right
  have hcl : cs.length = 9 := rfl
  rw [hcl, if_pos (show 1 + i' * 9 <= 1 + 9 * i' + k' /\ 1 + 9 * i' + k' < 1 + i' * 9 + 9 by omega), show 1 + 9 * i' + k' - (1 + i' * 9) = k' by omega]
  match k', hk' with
  | 0, _ => exact ⟨_, rfl, RCell.scal (by omega) _⟩
  | 1, _ => exact ⟨_, rfl, RCell.scal (by omega) _⟩
  | 2, _ => exact ⟨_, rfl, RCell.scal (by omega) _⟩
  | 3, _ => exact ⟨_, rfl, RCell.scal (by omega) _⟩
  | 4, _ => exact ⟨_, rfl, RCell.par hp⟩
  | 5, _ => exact ⟨_, rfl, RCell.nil (by omega) (by omega)⟩
  | 6, _ => exact ⟨_, rfl, RCell.nil (by omega) (by omega)⟩
  | 7, _ => exact ⟨_, rfl, RCell.nil (by omega) (by omega)⟩
  | 8, _ => exact ⟨_, rfl, RCell.targ t⟩
 ·left
  have hcl : cs.length = 9 := rfl
  rw [hcl, if_neg (show ¬ (1 + i * 9 <= 1 + 9 * i' + k' /\ 1 + 9 * i' + k' < 1 + i * 9 + 9) by omega)]
theorem rmake_s (hN : 202 < N) {fv : FuncId} (hv : RVacOk φ fv) (hs : RSet4Ok φ fs) {k : Int} {t : Nam} (h : RB c own H b s R) (hc : c < 1000000) :
  Wp (R5MakeS cal φ N fv fs (.ptr b 0) (.int .i64 i) (.str nm) (.int .i64 k) (.str t) H) fun r => RA (c + 1) own H b s r.2 := by
 have bad : ∀ v : IV, Wp (some (v, H)) fun r => RA (c + 1) own H b s r.2 := fun v => Wp.ret ((RA.refl h).mono (by omega))
 unfold R5MakeS R5MakeC7S R5MakeC6S R5MakeC5S
 obtain ⟨e, he, hi⟩ := hv c own H b s R i nm h (by omega)
 rw [he, ob_some]
 simp only
 rw [lbin_neq, ob_some]
 refine Wp.ndec (fun _ => bad _) (fun h0 => ?_)
 obtain ⟨i1, i2⟩ := hi h0
 obtain ⟨d, rfl⟩ : ∃ n : Nat, i = (n : Nat) := ⟨i.toNat, by omega⟩
 have rest : Wp (R5MakeC3S cal φ N fv fs (.ptr b 0) (.int .i64 (d : Nat)) (.str nm) (.int .i64 k) (.str t) H) fun r => RA (c + 1) own H b s r.2 := by
  unfold R5MakeC3S R5MakeC2S R5MakeC1S
  refine rmake_go h ?_ 200 1 N (by omega) (by omega) (by omega)
  intro n n1 n201
  simp only
  rw [lbin_gtr, ob_some]
  refine Wp.dec (fun _ => bad _) (fun hn => ?_)
  have e1 : lbld [(.int .i64 0), (.int .i64 0), (.int .i64 0), (.int .i64 0), (.int .i64 0), .nilSlice, .nilSlice, .nilSlice, (.str [])] [(0, 1, .int .i64 k), (1, 1, (.int .i64 1)), (8, 1, .str t)] = some (.agg [.int .i64 k, .int .i64 1, .int .i64 0, .int .i64 0, .int .i64 0, .nilSlice, .nilSlice, .nilSlice, .str t]) := rfl
  rw [e1, ob_some, lzbox_eq, ob_some]
  simp only [cells_agg]
  rw [stn (n := 9) newRow rfl rfl rfl, ob_some, setRow]
  simp only [jn_eq]
  have k1 : Frame NoF H (H ++ [IObj.row [.int .i64 k, .int .i64 1, .int .i64 0, .int .i64 0, .int .i64 0, .nilSlice, .nilSlice, .nilSlice, .str t] false]) := Frame.push _ _ _
  have r1 : (H ++ [IObj.row [.int .i64 k, .int .i64 1, .int .i64 0, .int .i64 0, .int .i64 0, .nilSlice, .nilSlice, .nilSlice, .str t] false])[H.length]? = some (.row [.int .i64 k, .int .i64 1, .int .i64 0, .int .i64 0, .int .i64 0, .nilSlice, .nilSlice, .nilSlice, .str t] false) := newRow
  generalize H ++ [IObj.row [.int .i64 k, .int .i64 1, .int .i64 0, .int .i64 0, .int .i64 0, .nilSlice, .nilSlice, .nilSlice, .str t] false] = K at *
  have fin : ∀ (K : Heap) (p : Int), Frame NoF H K -> K[H.length]? = some (.row [.int .i64 k, .int .i64 1, .int .i64 0, .int .i64 0, .int .i64 p, .nilSlice, .nilSlice, .nilSlice, .str t] false) -> 0 <= p /\ p <= 200 -> Wp (ob (lloadn K 9 (.ptr H.length 0)) fun t10 =>
    ob (lchk (.ptr b 0)) fun t11 =>
    ob (loff t11 1) fun t12 =>
    ob (lixa 201 9 t12 (.int .i64 (n : Nat))) fun t13 =>
    ob (lstV K 9 t13 t10) fun r14 =>
    ob (lchk (.ptr b 0)) fun t15 =>
    ob (loff t15 1) fun t16 =>
    ob (lixa 201 9 t16 (.int .i64 (d : Nat))) fun t17 =>
    ob (loff t17 7) fun t18 =>
    ob (φ fs [t18, .str nm, .int .i64 (n : Nat)] r14.2) fun r19 =>
    some ((IV.tuple [.int .i64 (n : Nat), (.int .i64 0)]), r19.2)) fun r => RA (c + 1) own H b s r.2 := by
   intro K p q1 q2 q3
   obtain ⟨H', R', u1, u2, u3⟩ := (h.kp q1).node (i := n) (by omega) (k := k) (l := 1) (p := p) (t := t) q3
   rw [ldn (n := 9) q2 rfl]
   simp only [ob_some, lchk_ptr, loff_ptr, Nat.zero_add, rixa (show n <= 200 by omega), rixa (show d <= 200 by omega), u1]
   refine Wp.call (hs c own H' b s R' d nm (n : Nat) u2 hc (by omega) (by omega) (by omega)) ?_
   rintro ⟨w, K2⟩ ⟨_, hRA⟩
   have hA : RA c own H b s H' := ⟨own, R', u2, q1.no.tr u3, fun _ h => .inl h⟩
   obtain ⟨own2, R2, g1, g2, g3⟩ := hRA
   exact Wp.ret ⟨own2, R2, g1, (q1.no.tr u3).tr g2, fun j hj => (g3 j hj).imp (fun h => h) fun h => by have := (q1.no.tr u3 : Frame (fun j => own j ≠ 0) H H').1; omega⟩
  rw [lbin_eql, ob_some]
  refine Wp.dec (fun hk => ?_) (fun _ => fin K 0 k1 r1 (by omega))
  rw [loff_ptr, ob_some, Nat.zero_add, st1 r1 (by simp only [one_int]) (by simp), ob_some]
  exact fin _ (d : Nat) (k1.setNew _ (Nat.le_refl _)) (by rw [setAt r1]; rfl) (by omega)
 unfold R5MakeC4S
 have hb : ∀ x : Bool, Wp (cnd (.bool x) (some ((IV.tuple [(.int .i64 0), (.int .i64 22)]), H)) (R5MakeC3S cal φ N fv fs (.ptr b 0) (.int .i64 (d : Nat)) (.str nm) (.int .i64 k) (.str t) H)) fun r => RA (c + 1) own H b s r.2 := by
  intro x
  cases x with
  | true => rw [cnd_true]; exact bad _
  | false => rw [cnd_false]; exact rest
 rw [lbin_lss, ob_some]
 have hut : isB (.tuple []) true = false := rfl
 have huf : isB (.tuple []) false = false := rfl
 have tail : ∀ x : Bool, Wp (ob (gq (isB (.bool x) false) (some (.int .i64 k))) fun t12 =>
  ob (gq (isB (.bool x) false) (lbin .eql t12 (.int .i64 3))) fun t13 =>
  ob (gq (isB (.bool x) false) (some t13)) fun t14 =>
  ob (gq (isB t14 true) (some (.str t))) fun t15 =>
  ob (gq (isB t14 true) (lbin .eql t15 (.str []))) fun t16 =>
  ob (gq (isB t14 true) (some t16)) fun t17 =>
  ob (gq (isB t17 false) (some (.str t))) fun t18 =>
  ob (gq (isB t17 false) (llen H .str t18)) fun t19 =>
  ob (gq (isB t17 false) (lbin .gtr t19 (.int .i64 400))) fun t20 =>
  ob (gq (isB t14 true) (lpick t17 (.bool true) t20)) fun t21 =>
  ob (gq (isB (.bool x) false) (lpick t14 t21 (.bool false))) fun t22 =>
  ob (lpick (.bool x) (.bool true) t22) fun t23 =>
  cnd t23
  (some ((IV.tuple [(.int .i64 0), (.int .i64 22)]), H))
  (R5MakeC3S cal φ N fv fs (.ptr b 0) (.int .i64 (d : Nat)) (.str nm) (.int .i64 k) (.str t) H)) fun r => RA (c + 1) own H b s r.2 := by
  intro x
  cases x with
  | true =>
   simp only [isB_tf, gq_false, ob_some, hut, huf, lpick_true]
   exact hb true
  | false =>
   simp only [isB_ff, gq_true, ob_some, lbin_eql]
   cases decide (k = 3) with
   | false =>
    simp only [isB_ft, gq_false, ob_some, hut, huf, lpick_false]
    exact hb false
   | true =>
    simp only [isB_tt, gq_true, ob_some, lbin_seq]
    cases decide (t = []) with
    | true =>
     simp only [isB_tf, gq_false, ob_some, lpick_true, lpick_false]
     exact hb true
    | false =>
     simp only [isB_ff, gq_true, ob_some, llen_str, lbin_gtr, lpick_true, lpick_false]
     exact hb _
 cases decide (k < 1) with
 | true =>
  simp only [isB_tf, gq_false, ob_some, lpick_true, hut, huf]
  have := tail true
  simp only [isB_tf, gq_false, ob_some, lpick_true, hut, huf] at this
  exact this
 | false =>
  simp only [isB_ff, gq_true, ob_some, lbin_gtr, lpick_false]
  cases decide (4 < k) with
  | true =>
   simp only [isB_tf, gq_false, ob_some, lpick_true, hut, huf]
   have := tail true
   simp only [isB_tf, gq_false, ob_some, lpick_true, hut, huf] at this
   exact this
  | false =>
   simp only [isB_ff, gq_true, ob_some, lbin_neq, lpick_false]
   cases decide (k = 3) with
   | true =>
    simp only [Bool.not_true, isB_ft, gq_false, ob_some, lpick_false]
    exact tail false
   | false =>
    simp only [Bool.not_false, isB_tt, gq_true, ob_some, lbin_sneq, lpick_true]
    exact tail _
end
end Go.Shade
namespace Go.Shade
variable {R : List IV} {b c s : Nat} {own : Nat -> Nat}
section
variable {c c' : Nat} {own : Nat -> Nat} {H H' K : Heap} {b s i k : Nat} {R : List IV}
theorem RB.newCell (h : RB c own H b s R) (hc : c <= c') (hi : i <= 200) (hk5 : 5 <= k) (hk7 : k <= 7) {v : IV} (hv1 : v.one = true) (hK : Frame (fun j => H.length <= j) H K) (hv : ∀ own' : Nat -> Nat, (∀ j, H.length <= j -> j < K.length -> own' j = 3 * i + (k - 4)) -> RCell c' own' K i k v) :
  Wp (lstV K 1 (.ptr b (1 + i * 9 + k)) v) fun r => RA c' own H b s r.2 := by
 have hK' : ∀ {F : Nat -> Prop}, Frame F H K := ⟨hK.1, fun j hj _ => hK.2 j hj (by omega)⟩
 have hrow : K[b]? = some (.row R false) := (hK' (F := NoF)).get (fun h => h) h.row
 have hP : ∀ j, (H.length <= j /\ j < K.length) -> own j = 3 * i + (k - 4) ∨ H.length <= j := fun j hj => .inr hj.1
 have := h.upd hc hi hk5 hk7 hK' hP (fun j hj => hj.2) (hv _ fun j h1 h2 => (ownSet_same (own := own) (by omega) j).1 ⟨h1, h2⟩)
 rw [show 1 + i * 9 + k = 1 + 9 * i + k by omega, st1 hrow hv1 (by rw [h.len]; omega)]
 refine ⟨_, rfl, _, _, this, ?_, fun j hj => ownSet_ok hP j hj (by omega)⟩
 exact hK'.tr (Frame.set _ _ (by rw [h.ob]; decide))
theorem RB.inpl (h : RB c own H b s R) (hi : i <= 200) (hk5 : 5 <= k) (hk7 : k <= 7) (hF : Frame (fun j => own j = 3 * i + (k - 4)) H H') (hv : ∀ v, R[1 + 9 * i + k]? = some v -> RCell c own H' i k v) : RB c own H' b s R := by
 obtain ⟨x, y, hs⟩ := h.sto
 have hbo := h.ob
 have hso := h.os
 refine ⟨h.ob, hF.get (by omega) h.row, h.len, h.r0, h.os, ⟨x, y, hF.get (by omega) hs⟩, fun i' k' hi' hk' => ?_, fun j hj => Nat.lt_of_lt_of_le (h.lt j hj) hF.1⟩
 obtain ⟨w, a, d⟩ := h.cel i' k' hi' hk'
 by_cases e : 1 + 9 * i + k = 1 + 9 * i' + k'
 ·have e1 : i' = i := by omega
  have e2 : k' = k := by omega
  subst e1 e2
  exact ⟨w, a, hv w a⟩
 ·exact ⟨w, a, d.frame (t := 3 * i + (k - 4)) (Nat.le_refl c) hF (fun j _ _ h => h) (fun u _ _ j => Iff.rfl) (by omega) hi'⟩
theorem RB.stoSet (h : RB c own H b s R) (x y : Int) : RB c own (H.set s (.row [.int .i64 x, .int .i64 y] false)) b s R := by
 obtain ⟨x', y', hs⟩ := h.sto
 have hF : Frame (fun j => j = s) H (H.set s (.row [.int .i64 x, .int .i64 y] false)) := Frame.set _ _ rfl
 have hbo := h.ob
 have hso := h.os
 refine ⟨h.ob, hF.get (fun e => by subst e; omega) h.row, h.len, h.r0, h.os, ⟨x, y, setAt hs⟩, fun i k hi hk => ?_, fun j hj => by rw [List.length_set]; exact h.lt j hj⟩
 obtain ⟨w, a, d⟩ := h.cel i k hi hk
 exact ⟨w, a, d.frame (t := 0) (Nat.le_refl c) hF (fun j _ h7 _ e => by subst e; omega) (fun u _ _ j => Iff.rfl) (.inl rfl) hi⟩
end
section
variable {cal : FuncId -> Bool} {φ : Oracle} {N : Nat}
def RLinkOk (φ : Oracle) (f : FuncId) : Prop := ∀ (c : Nat) (own : Nat -> Nat) (H : Heap) (b s : Nat) (R : List IV) (i : Int) (nm : Nam) (t : Int), RB c own H b s R -> c < 1000000 -> Wp (φ f [.ptr b 0, .int .i64 i, .str nm, .int .i64 t] H) fun r => RA (c + 1) own H b s r.2
theorem rlink_s {fv fi fs : FuncId} (hv : RVacOk φ fv) (hi : RIsOk φ fi) (hs : RSet4Ok φ fs) {H : Heap} {i : Int} {nm : Nam} {t : Int} (h : RB c own H b s R) (hc : c < 1000000) :
  Wp (R5LinkS cal φ N fv fi fs (.ptr b 0) (.int .i64 i) (.str nm) (.int .i64 t) H) fun r => RA (c + 1) own H b s r.2 := by
 have bad : ∀ v : IV, Wp (some (v, H)) fun r => RA (c + 1) own H b s r.2 := fun v => Wp.ret ((RA.refl h).mono (by omega))
 unfold R5LinkS
 obtain ⟨e, he, hi'⟩ := hv c own H b s R i nm h (by omega)
 rw [he, ob_some]
 simp only
 rw [lbin_neq, ob_some]
 refine Wp.ndec (fun _ => bad _) (fun h0 => ?_)
 obtain ⟨i1, i2⟩ := hi' h0
 obtain ⟨d, rfl⟩ : ∃ n : Nat, i = (n : Nat) := ⟨i.toNat, by omega⟩
 obtain ⟨x, ex, hx⟩ := hi c own H b s R t h
 rw [ex, ob_some]
 cases x with
 | false =>
  simp only [iun_not, ob_some, Bool.not_false, isB_tf, gq_false, lpick_true, cnd_true]
  exact bad _
 | true =>
  obtain ⟨t1, t2⟩ := hx rfl
  obtain ⟨n, rfl⟩ : ∃ n : Nat, t = (n : Nat) := ⟨t.toNat, by omega⟩
  obtain ⟨z1, e1, _⟩ := h.int (i := n) (k := 1) (by omega) (by omega)
  obtain ⟨z0, e0, _⟩ := h.int (i := n) (k := 0) (by omega) (by omega)
  have e0' : lload1 H (.ptr b (1 + n * 9)) = some (.int .i64 z0) := e0
  simp only [iun_not, ob_some, Bool.not_true, isB_ff, gq_true, lchk_ptr, loff_ptr, Nat.zero_add, Nat.add_zero, rixa (show n <= 200 by omega), rixa (show d <= 200 by omega), e1, e0', lbin_eql, lpick_false, lbin_geq, lbin_add]
  refine Wp.dec (fun _ => bad _) (fun _ => ?_)
  refine Wp.dec (fun _ => bad _) (fun _ => ?_)
  refine Wp.dec (fun _ => bad _) (fun _ => ?_)
  obtain ⟨q1, q2, q3⟩ := h.ints (i := n) (k := 1) (v := IntKind.wrap .i64 (z1 + 1)) (by omega) (by omega)
  rw [q1, ob_some]
  simp only
  refine Wp.call (hs c own _ b s _ d nm (n : Nat) q2 hc (by omega) (by omega) (by omega)) ?_
  rintro ⟨w, K2⟩ ⟨_, own2, R2, g1, g2, g3⟩
  exact Wp.ret ⟨own2, R2, g1, q3.tr g2, fun j hj => (g3 j hj).imp (fun h => h) fun h => by rw [List.length_set] at h; exact h⟩
def RCutOk (φ : Oracle) (f : FuncId) : Prop := ∀ (c : Nat) (own : Nat -> Nat) (H : Heap) (b s : Nat) (R : List IV) (i : Nat), RB c own H b s R -> i <= 200 -> Wp (φ f [.ptr s 0, .ptr b (1 + i * 9 + 5), .int .i64 0] H) fun r => RA c own H b s r.2
theorem rcut_go {H0 : Heap} {i : Nat} {w7 : IV} (hi : i <= 200) (hw : ∀ H, llen H .slice w7 = some (.int .i64 0)) :
  ∀ (m j n : Nat) (H : Heap) (bs : List Bool) (v : IV), j + m = bs.length -> m < n -> RB c own H b s R -> Frame (fun j => own j ≠ 0) H0 H -> R[1 + 9 * i + 6]? = some v -> TS 1 (fun j => own j = 3 * i + 2) H v (bs.map .bool) -> bs.length <= 4096 ->
   Wp (R3sCutC3S cal φ N (fun H => some ((.int .i64 0), H)) n (.ptr s 0) (.ptr b (1 + i * 9 + 5)) w7 (.int .i64 (j : Nat)) H) fun r => RB c own r.2 b s R /\ Frame (fun j => own j ≠ 0) H0 r.2 := by
 intro m
 induction m with
 | zero =>
  intro j n H bs v hj hn h hF hv hT hb
  obtain ⟨n, rfl⟩ : ∃ j, n = j + 1 := ⟨n - 1, by omega⟩
  have e6 : lload1 H (.ptr b (1 + i * 9 + 5 + 1)) = some v := by rw [ld1 h.row, show 1 + i * 9 + 5 + 1 = 1 + 9 * i + 6 by omega]; exact hv
  have hl := hT.len (n := bs.length) (by omega) (by simp)
  rw [R3sCutC3S]
  simp only [lchk_ptr, loff_ptr, ob_some, e6, hl, lbin_lss]
  rw [decide_eq_false (by omega), cnd_false]
  exact Wp.ret ⟨h, hF⟩
 | succ m ih =>
  intro j n H bs v hj hn h hF hv hT hb
  obtain ⟨n, rfl⟩ : ∃ j, n = j + 1 := ⟨n - 1, by omega⟩
  have e6 : lload1 H (.ptr b (1 + i * 9 + 5 + 1)) = some v := by rw [ld1 h.row, show 1 + i * 9 + 5 + 1 = 1 + 9 * i + 6 by omega]; exact hv
  have hl := hT.len (n := bs.length) (by omega) (by simp)
  have hlt : j < bs.length := by omega
  have hT' := hT
  rcases hT with ⟨_, he⟩ | ⟨r, n', ex, rfl, t1, t2, t3⟩
  ·have he' : bs = [] := List.map_eq_nil_iff.1 he
   subst he'; simp at hlt
  ·have hn' : n' = bs.length := by have h' := t3; rw [List.length_map] at h'; omega
   have ex1 : lix 1 (.slice r 0 n' n' ex 1) (.int .i64 (j : Nat)) = some (.ptr r j) := by rw [lix_slice, if_pos (by omega)]; simp
   have ex2 : lload1 H (.ptr r j) = some (.bool bs[j]) := by rw [ld1 t2]; simp [hlt]
   have enx : lbin .add (.int .i64 (j : Nat)) (.int .i64 1) = some (.int .i64 ((j + 1 : Nat) : Int)) := by rw [lbin_add, wrap_i64 (by omega) (by omega)]; rfl
   rw [R3sCutC3S]
   simp only [lchk_ptr, loff_ptr, ob_some, e6, hl, lbin_lss]
   rw [decide_eq_true (by omega), cnd_true]
   simp only [jn_eq, ex1, ob_some, ex2, hw, enx]
   have stay := ih (j + 1) n H bs _ (by omega) (by omega) h hF hv hT' hb
   cases hbj : bs[j] with
   | false =>
    simp only [isB_ft, gq_false, ob_some, lpick_false, cnd_false]
    exact stay
   | true =>
    have em : lbin .mul (.int .i64 (j : Nat)) (.int .i64 16) = some (.int .i64 ((j * 16 : Nat) : Int)) := by rw [lbin_mul, wrap_i64 (by omega) (by omega)]; rfl
    simp only [isB_tt, gq_true, ob_some, em, hw, lbin_geq, lpick_true, Nat.zero_add]
    refine Wp.dec (fun _ => ?_) (fun _ => stay)
    rw [st1 t2 (by simp only [one_bool]) (by simpa using hlt), ob_some]
    simp only
    have hset : (bs.map IV.bool).set j (.bool false) = (bs.set j false).map .bool := by rw [List.map_set]
    rw [hset]
    have kF : Frame (fun x => own x = 3 * i + (6 - 4)) H (H.set r (.row ((bs.set j false).map .bool) false)) := Frame.set _ _ t1
    have hT2 : TS 1 (fun j => own j = 3 * i + 2) (H.set r (.row ((bs.set j false).map .bool) false)) (.slice r 0 n' n' ex 1) ((bs.set j false).map .bool) := .inr ⟨r, n', ex, rfl, t1, setAt t2, by simp; omega⟩
    have h2 := h.inpl hi (k := 6) (by omega) (by omega) kF (fun v' hv' => by
     rw [hv] at hv'; cases hv'
     exact RCell.there.2 ⟨bs.set j false, hT2, by simpa using hb⟩)
    obtain ⟨x, y, hs⟩ := h2.sto
    have es : lload1 (H.set r (.row ((bs.set j false).map .bool) false)) (.ptr s 1) = some (.int .i64 y) := ld1 hs
    rw [es, ob_some, lbin_sub, ob_some, st1 hs (by simp only [one_int]) (by simp), ob_some]
    have h3 := h2.stoSet x (IntKind.wrap .i64 (y - 1))
    have hso := h.os
    have kS : Frame (fun x => x = s) (H.set r (.row ((bs.set j false).map .bool) false)) ((H.set r (.row ((bs.set j false).map .bool) false)).set s (.row [.int .i64 x, .int .i64 (IntKind.wrap .i64 (y - 1))] false)) := Frame.set _ _ rfl
    have hT3 := hT2.frame kS fun j hj e => by subst e; omega
    exact ih (j + 1) n _ (bs.set j false) _ (by simp; omega) (by omega) h3 ((hF.tr (kF.mono fun j hj => by omega)).tr (kS.mono fun j hj => by subst hj; omega)) hv hT3 (by simpa using hb)
theorem rcut_s (hN : 4097 < N) {H : Heap} {i : Nat} (h : RB c own H b s R) (hi : i <= 200) : Wp (R3sCutS cal φ N (.ptr s 0) (.ptr b (1 + i * 9 + 5)) (.int .i64 0) H) fun r => RA c own H b s r.2 := by
 unfold R3sCutS R3sCutC12S R3sCutC11S R3sCutC10S R3sCutC9S
 have e1 : lbin .lss (.int .i64 0) (.int .i64 0) = some (.bool false) := rfl
 have e2 : lbin .gtr (.int .i64 0) (.int .i64 65536) = some (.bool false) := rfl
 have e3 : lmkS H 1 1 [(.int .u8 0)] (.int .i64 0) (.int .i64 0) = some (.slice H.length 0 0 0 true 1, H ++ [.row [] false]) := rfl
 rw [e1, ob_some, cnd_false, e2, ob_some, cnd_false, e3, ob_some]
 unfold R3sCutC8S R3sCutC2S R3sCutC1S
 obtain ⟨N, rfl⟩ : ∃ j, N = j + 1 := ⟨N - 1, by omega⟩
 have hw' : ∀ K : Heap, llen K .slice (.slice H.length 0 0 0 true 1) = some (.int .i64 0) := fun _ => rfl
 simp only
 rw [R3sCutC0S, hw', ob_some, e1, ob_some]
 simp only [isB_ft, gq_false, ob_some, lpick_false, cnd_false]
 unfold R3sCutC7S
 rw [lchk_ptr, ob_some, loff_ptr, ob_some, Nat.add_zero]
 have k1 : Frame (fun j => H.length <= j) H (H ++ [IObj.row [] false]) := Frame.push _ _ _
 refine Wp.call (h.newCell (c' := c) (k := 5) (v := .slice H.length 0 0 0 true 1) (Nat.le_refl _) hi (by omega) (by omega) rfl k1 (fun own' ho => RCell.body.2 ⟨[], .inr ⟨H.length, 0, true, rfl, ho _ (Nat.le_refl _) (by simp), newRow, rfl⟩, rfl, by simp⟩)) ?_
 rintro ⟨x, K⟩ ⟨own1, R1, g1, g2, g3⟩
 simp only at g1 g2 ⊢
 unfold R3sCutC6S R3sCutC5S R3sCutC4S
 obtain ⟨v, a1, a3, a2⟩ := g1.ptr hi (show 6 < 9 by omega)
 obtain ⟨bs, b1, b2⟩ := RCell.there.1 a2
 refine (rcut_go hi hw' bs.length 0 (N + 1) K bs v (by omega) (by omega) g1 (Frame.refl _ _) a3 b1 b2).mono ?_
 rintro ⟨y, K2⟩ ⟨u1, u2⟩
 exact ⟨own1, R1, u1, g2.trans u2 fun j hj hw => by rcases g3 j hw with h | h; exact h; omega, g3⟩
end
end Go.Shade
namespace Go.Shade
variable {H : Heap} {R : List IV} {b c s : Nat} {own : Nat -> Nat}
theorem RA.of {c' : Nat} {own' : Nat -> Nat} {K K2 : Heap} (hF : Frame (fun j => own j ≠ 0) H K) (hu : ∀ j, own' j ≠ 0 -> own j ≠ 0 ∨ H.length <= j) (k : RA c' own' K b s K2) : RA c' own H b s K2 := by
 obtain ⟨own2, R2, k1, k2, k3⟩ := k
 exact ⟨own2, R2, k1, hF.trans k2 fun j hj hw => by rcases hu j hw with h | h; exact h; omega, fun j hj => by
  rcases k3 j hj with h | h
  ·exact hu j h
  ·exact .inr (Nat.le_trans hF.1 h)⟩
section
variable {cal : FuncId -> Bool} {φ : Oracle} {N : Nat}
def RGoneOk (φ : Oracle) (f : FuncId) : Prop := ∀ (c : Nat) (own : Nat -> Nat) (H : Heap) (b s : Nat) (R : List IV) (n : Nat) (x y : Int), RB c own H b s R -> n <= 200 -> Wp (φ f [.ptr b 0, .int .i64 (n : Nat), .int .i64 x, .int .i64 y] H) fun r => RA c own H b s r.2
theorem rgone_s {fc : FuncId} (hc : RCutOk φ fc) {n : Nat} {x y : Int} (h : RB c own H b s R) (hn : n <= 200) : Wp (R5LessS cal φ N fc (.ptr b 0) (.int .i64 (n : Nat)) (.int .i64 x) (.int .i64 y) H) fun r => RA c own H b s r.2 := by
 unfold R5LessS
 obtain ⟨z1, e1, _⟩ := h.int (i := n) (k := 1) hn (by omega)
 simp only [lchk_ptr, loff_ptr, ob_some, Nat.zero_add, rixa hn, e1, lbin_sub]
 obtain ⟨q1, q2, q3⟩ := h.ints (i := n) (k := 1) (v := IntKind.wrap .i64 (z1 - x)) hn (by omega)
 rw [q1, ob_some]
 simp only
 generalize H.set b (.row (R.set (1 + 9 * n + 1) (.int .i64 (IntKind.wrap .i64 (z1 - x)))) false) = K at *
 generalize R.set (1 + 9 * n + 1) (.int .i64 (IntKind.wrap .i64 (z1 - x))) = R1 at *
 obtain ⟨z2, e2, _⟩ := q2.int (i := n) (k := 2) hn (by omega)
 rw [e2, ob_some, lbin_sub, ob_some]
 obtain ⟨p1, p2, p3⟩ := q2.ints (i := n) (k := 2) (v := IntKind.wrap .i64 (z2 - y)) hn (by omega)
 rw [p1, ob_some]
 simp only
 have kF := q3.tr p3
 generalize K.set b (.row (R1.set (1 + 9 * n + 2) (.int .i64 (IntKind.wrap .i64 (z2 - y)))) false) = K2 at *
 generalize R1.set (1 + 9 * n + 2) (.int .i64 (IntKind.wrap .i64 (z2 - y))) = R2 at *
 obtain ⟨z3, e3, _⟩ := p2.int (i := n) (k := 1) hn (by omega)
 obtain ⟨z4, e4, _⟩ := p2.int (i := n) (k := 2) hn (by omega)
 have stay : Wp (some ((IV.tuple []), K2)) fun r => RA c own H b s r.2 := Wp.ret ⟨own, R2, p2, kF, fun _ h => .inl h⟩
 rw [e3, ob_some, lbin_eql, ob_some]
 have hgo : Wp (ob (lload1 K2 (.ptr b 0)) fun t40 =>
  ob (φ fc [t40, .ptr b (1 + n * 9 + 5), (.int .i64 0)] K2) fun r45 =>
  ob (lbld [(.int .i64 0), (.int .i64 0), (.int .i64 0), (.int .i64 0), (.int .i64 0), .nilSlice, .nilSlice, .nilSlice, (.str [])] []) fun t46 =>
  ob (lstV r45.2 9 (.ptr b (1 + n * 9)) t46) fun r50 =>
  some ((IV.tuple []), r50.2)) fun r => RA c own H b s r.2 := by
  have e0 : lload1 K2 (.ptr b 0) = some (.ptr s 0) := by rw [ld1 p2.row]; exact p2.r0
  rw [e0, ob_some]
  refine Wp.call (hc c own K2 b s R2 n p2 hn) ?_
  rintro ⟨w, K3⟩ ⟨own3, R3, g1, g2, g3⟩
  simp only at g1 g2 ⊢
  have e5 : lbld [(.int .i64 0), (.int .i64 0), (.int .i64 0), (.int .i64 0), (.int .i64 0), .nilSlice, .nilSlice, .nilSlice, (.str [])] [] = some (.agg [.int .i64 0, .int .i64 0, .int .i64 0, .int .i64 0, .int .i64 0, .nilSlice, .nilSlice, .nilSlice, .str []]) := rfl
  obtain ⟨H', R', u1, u2, u3⟩ := g1.node (i := n) hn (k := 0) (l := 0) (p := 0) (t := []) (by omega)
  rw [e5, ob_some, u1, ob_some]
  refine Wp.ret (RA.of kF (fun j h => .inl h) (RA.of g2 g3 ⟨own3, R', u2, u3, fun _ h => .inl h⟩))
 by_cases hz : z3 = 0
 ·rw [decide_eq_true hz]
  simp only [isB_tt, gq_true, ob_some, lchk_ptr, loff_ptr, Nat.zero_add, rixa hn, e4, lbin_eql, lpick_true]
  exact Wp.dec (fun _ => hgo) (fun _ => stay)
 ·rw [decide_eq_false hz]
  simp only [isB_ft, gq_false, ob_some, lpick_false, cnd_false]
  exact stay
def RUnlOk (φ : Oracle) (f : FuncId) : Prop := ∀ (c : Nat) (own : Nat -> Nat) (H : Heap) (b s : Nat) (R : List IV) (i : Int) (nm : Nam), RB c own H b s R -> c < 1000000 -> Wp (φ f [.ptr b 0, .int .i64 i, .str nm] H) fun r => RA c own H b s r.2
theorem runl_s {fd fg fe fl : FuncId} (hd : RDirOk φ fd) (hg : RGetOk φ fg) (hde : RDel4Ok φ fe) (hl : RGoneOk φ fl) {i : Int} {nm : Nam} (h : RB c own H b s R) (hc : c < 1000000) : Wp (R5UnlinkS cal φ N fd fg fe fl (.ptr b 0) (.int .i64 i) (.str nm) H) fun r => RA c own H b s r.2 := by
 have bad : ∀ v : IV, Wp (some (v, H)) fun r => RA c own H b s r.2 := fun v => Wp.ret (RA.refl h)
 unfold R5UnlinkS
 obtain ⟨e, he, hi⟩ := hd c own H b s R i true h
 rw [he, ob_some]
 simp only
 rw [lbin_neq, ob_some]
 refine Wp.ndec (fun _ => bad _) (fun h0 => ?_)
 obtain ⟨i1, i2⟩ := hi h0
 obtain ⟨d, rfl⟩ : ∃ n : Nat, i = (n : Nat) := ⟨i.toNat, by omega⟩
 obtain ⟨v, e2, he2, hv⟩ := hg c own H b s R (d : Nat) nm h (by omega)
 simp only [he2, ob_some, iextract_tuple, List.getElem?_cons_zero, List.getElem?_cons_succ, lbin_neq]
 refine Wp.ndec (fun _ => bad _) (fun h2 => ?_)
 obtain ⟨⟨v1, v2⟩, _⟩ := hv h2
 obtain ⟨n, rfl⟩ : ∃ n : Nat, v = (n : Nat) := ⟨v.toNat, by omega⟩
 obtain ⟨z0, e0, _⟩ := h.int (i := n) (k := 0) (by omega) (by omega)
 have e0' : lload1 H (.ptr b (1 + n * 9)) = some (.int .i64 z0) := e0
 simp only [lchk_ptr, loff_ptr, ob_some, Nat.zero_add, Nat.add_zero, rixa (show n <= 200 by omega), rixa (show d <= 200 by omega), e0', lbin_eql]
 refine Wp.dec (fun _ => bad _) (fun _ => ?_)
 refine Wp.call (hde c own H b s R d nm h (by omega) (by omega)) ?_
 rintro ⟨w, K⟩ ⟨own1, R1, g1, g2, g3⟩
 simp only at g1 g2 ⊢
 refine Wp.call (hl c own1 K b s R1 n 1 0 g1 (by omega)) ?_
 rintro ⟨w, K2⟩ hRA
 exact Wp.ret (RA.of g2 g3 hRA)
def RBelOk (φ : Oracle) (f : FuncId) : Prop := ∀ (c : Nat) (own : Nat -> Nat) (H : Heap) (b s : Nat) (R : List IV) (i : Nat) (t : Int), RB c own H b s R -> i <= 200 -> ∃ x : Bool, φ f [.ptr b 0, .int .i64 (i : Nat), .int .i64 t] H = some (.bool x, H)
theorem rbel_go {t : Int} (h : RB c own H b s R) : ∀ (m j n i : Nat), j + m = 300 -> m < n -> i <= 200 -> ∃ x : Bool, R5BelowC0S cal φ N (fun H => some ((.bool false), H)) n (.ptr b 0) (.int .i64 (i : Nat)) (.int .i64 t) (.int .i64 (j : Nat)) H = some (.bool x, H) := by
 intro m
 induction m with
 | zero =>
  intro j n i hj hn hi
  obtain ⟨n, rfl⟩ : ∃ j, n = j + 1 := ⟨n - 1, by omega⟩
  rw [R5BelowC0S, lbin_lss, ob_some, decide_eq_false (by omega), cnd_false]
  exact ⟨false, rfl⟩
 | succ m ih =>
  intro j n i hj hn hi
  obtain ⟨n, rfl⟩ : ∃ j, n = j + 1 := ⟨n - 1, by omega⟩
  rw [R5BelowC0S, lbin_lss, ob_some, decide_eq_true (by omega), cnd_true, lbin_eql, ob_some]
  cases decide ((i : Int) = t) with
  | true => rw [cnd_true]; exact ⟨true, rfl⟩
  | false =>
   obtain ⟨z, e, hz⟩ := h.int (i := i) (k := 4) hi (by omega)
   obtain ⟨z1, z2⟩ := hz rfl
   obtain ⟨p, rfl⟩ : ∃ n : Nat, z = (n : Nat) := ⟨z.toNat, by omega⟩
   rw [cnd_false]
   simp only [lchk_ptr, loff_ptr, ob_some, Nat.zero_add, rixa hi, e, lbin_add]
   rw [wrap_i64 (by omega) (by omega), show ((j : Nat) : Int) + 1 = ((j + 1 : Nat) : Int) by omega]
   exact ih (j + 1) n p (by omega) (by omega) (by omega)
theorem rbel_s (hN : 301 < N) {i : Nat} {t : Int} (h : RB c own H b s R) (hi : i <= 200) : ∃ x : Bool, R5BelowS cal φ N (.ptr b 0) (.int .i64 (i : Nat)) (.int .i64 t) H = some (.bool x, H) := by
 unfold R5BelowS R5BelowC4S R5BelowC3S R5BelowC2S R5BelowC1S
 exact rbel_go h 300 0 N i (by omega) (by omega) hi
def RRenOk (φ : Oracle) (f : FuncId) : Prop := ∀ (c : Nat) (own : Nat -> Nat) (H : Heap) (b s : Nat) (R : List IV) (i : Int) (nm : Nam) (to : Int) (s2 : Nam), RB c own H b s R -> c < 1000000 -> Wp (φ f [.ptr b 0, .int .i64 i, .str nm, .int .i64 to, .str s2] H) fun r => RA (c + 1) own H b s r.2
theorem rren_s {fd fg fs fb fe fl fse : FuncId} (hd : RDirOk φ fd) (hg : RGetOk φ fg) (hs : RErrOk φ fs) (hb : RBelOk φ fb) (hde : RDel4Ok φ fe) (hl : RGoneOk φ fl) (hse : RSet4Ok φ fse) {i : Int} {nm : Nam} {to : Int} {s2 : Nam} (h : RB c own H b s R) (hc : c < 1000000) :
  Wp (R5RenameS cal φ N fd fg fs fb fe fl fse (.ptr b 0) (.int .i64 i) (.str nm) (.int .i64 to) (.str s2) H) fun r => RA (c + 1) own H b s r.2 := by
 have bad : ∀ v : IV, Wp (some (v, H)) fun r => RA (c + 1) own H b s r.2 := fun v => Wp.ret ((RA.refl h).mono (by omega))
 unfold R5RenameS
 obtain ⟨e, he, hi⟩ := hd c own H b s R i true h
 rw [he, ob_some]
 simp only
 rw [lbin_neq, ob_some]
 refine Wp.ndec (fun _ => bad _) (fun h0 => ?_)
 obtain ⟨i1, i2⟩ := hi h0
 obtain ⟨d, rfl⟩ : ∃ n : Nat, i = (n : Nat) := ⟨i.toNat, by omega⟩
 obtain ⟨v, e2, he2, hv⟩ := hg c own H b s R (d : Nat) nm h (by omega)
 simp only [he2, ob_some, iextract_tuple, List.getElem?_cons_zero, List.getElem?_cons_succ, lbin_neq]
 refine Wp.ndec (fun _ => bad _) (fun h2 => ?_)
 obtain ⟨⟨v1, v2⟩, _⟩ := hv h2
 obtain ⟨n, rfl⟩ : ∃ n : Nat, v = (n : Nat) := ⟨v.toNat, by omega⟩
 obtain ⟨e3, he3, hi3⟩ := hd c own H b s R to true h
 rw [he3, ob_some, jn_eq]
 simp only
 obtain ⟨z0, e0, _⟩ := h.int (i := n) (k := 0) (by omega) (by omega)
 have e0' : lload1 H (.ptr b (1 + n * 9)) = some (.int .i64 z0) := e0
 have go : ∀ x : Int, (x = 0 -> 1 <= to /\ to <= 200) -> Wp (ob (lbin .neq (.int .i64 x) (.int .i64 0)) fun t15 =>
  cnd t15
  (some ((.int .i64 x), H))
  (ob (lchk (.ptr b 0)) fun t16 =>
  ob (loff t16 1) fun t17 =>
  ob (lixa 201 9 t17 (.int .i64 (n : Nat))) fun t18 =>
  ob (loff t18 0) fun t19 =>
  ob (lload1 H t19) fun t20 =>
  ob (lbin .eql t20 (.int .i64 2)) fun t21 =>
  ob (gq (isB t21 true) (some (.ptr b 0))) fun t22 =>
  ob (gq (isB t21 true) (some (.int .i64 to))) fun t23 =>
  ob (gq (isB t21 true) (some (.int .i64 (n : Nat)))) fun t24 =>
  ob (ge (isB t21 true) H (φ fb [t22, t23, t24] H)) fun r25 =>
  ob (lpick t21 r25.1 (.bool false)) fun t26 =>
  cnd t26
  (some ((.int .i64 22), r25.2))
  (ob (φ fg [(.ptr b 0), (.int .i64 to), (.str s2)] r25.2) fun r27 =>
  ob (iextract r27.1 0) fun t28 =>
  ob (iextract r27.1 1) fun t29 =>
  jn (fun (H79 : Heap) =>
  ob (lchk (.ptr b 0)) fun t80 =>
  ob (loff t80 1) fun t81 =>
  ob (lixa 201 9 t81 (.int .i64 (d : Nat))) fun t82 =>
  ob (loff t82 7) fun t83 =>
  ob (φ fe [t83, (.str nm)] H79) fun r84 =>
  ob (lchk (.ptr b 0)) fun t85 =>
  ob (loff t85 1) fun t86 =>
  ob (lixa 201 9 t86 (.int .i64 to)) fun t87 =>
  ob (loff t87 7) fun t88 =>
  ob (φ fse [t88, (.str s2), (.int .i64 (n : Nat))] r84.2) fun r89 =>
  jn (fun (H99 : Heap) =>
  some ((IV.int .i64 0), H99)) fun J90 =>
  cnd t21
  (ob (lchk (.ptr b 0)) fun t100 =>
  ob (loff t100 1) fun t101 =>
  ob (lixa 201 9 t101 (.int .i64 (n : Nat))) fun t102 =>
  ob (loff t102 4) fun t103 =>
  ob (lstV r89.2 1 t103 (.int .i64 to)) fun r104 =>
  J90 r104.2)
  (J90 r89.2)) fun J30 =>
  ob (lbin .eql t29 (.int .i64 0)) fun t105 =>
  cnd t105
  (ob (lchk (.ptr b 0)) fun t106 =>
  ob (loff t106 1) fun t107 =>
  ob (lixa 201 9 t107 t28) fun t108 =>
  ob (loff t108 0) fun t109 =>
  ob (lload1 r27.2 t109) fun t110 =>
  ob (lbin .eql t110 (.int .i64 2)) fun t111 =>
  ob (lbin .eql t28 (.int .i64 (n : Nat))) fun t112 =>
  cnd t112
  (some ((.int .i64 0), r27.2))
  (ob (gq (isB t111 true) (some t21)) fun t113 =>
  ob (gq (isB t111 true) (iun .not t113)) fun t114 =>
  ob (lpick t111 t114 (.bool false)) fun t115 =>
  cnd t115
  (some ((.int .i64 21), r27.2))
  (ob (iun .not t111) fun t116 =>
  ob (gq (isB t116 true) (some t21)) fun t117 =>
  ob (lpick t116 t117 (.bool false)) fun t118 =>
  cnd t118
  (some ((.int .i64 20), r27.2))
  (ob (gq (isB t111 true) (some (.ptr b 0))) fun t119 =>
  ob (gq (isB t111 true) (some t28)) fun t120 =>
  ob (gq (isB t111 true) (lchk t119)) fun t121 =>
  ob (gq (isB t111 true) (loff t121 1)) fun t122 =>
  ob (gq (isB t111 true) (lixa 201 9 t122 t120)) fun t123 =>
  ob (gq (isB t111 true) (loff t123 7)) fun t124 =>
  ob (gq (isB t111 true) (loff t124 0)) fun t125 =>
  ob (gq (isB t111 true) (lload1 r27.2 t125)) fun t126 =>
  ob (gq (isB t111 true) (llen r27.2 .slice t126)) fun t127 =>
  ob (gq (isB t111 true) (lbin .gtr t127 (.int .i64 0))) fun t128 =>
  ob (lpick t111 t128 (.bool false)) fun t129 =>
  cnd t129
  (some ((.int .i64 39), r27.2))
  (ob (lchk (.ptr b 0)) fun t130 =>
  ob (loff t130 1) fun t131 =>
  ob (lixa 201 9 t131 (.int .i64 to)) fun t132 =>
  ob (loff t132 7) fun t133 =>
  ob (φ fe [t133, (.str s2)] r27.2) fun r134 =>
  ob (φ fl [(.ptr b 0), t28, (.int .i64 1), (.int .i64 0)] r134.2) fun r135 =>
  J30 r135.2)))))
  (J30 r27.2)))) fun r => RA (c + 1) own H b s r.2 := by
  intro x hx
  rw [lbin_neq, ob_some]
  refine Wp.ndec (fun _ => bad _) (fun hx0 => ?_)
  obtain ⟨t1, t2⟩ := hx hx0
  obtain ⟨m, rfl⟩ : ∃ n : Nat, to = (n : Nat) := ⟨to.toNat, by omega⟩
  simp only [lchk_ptr, loff_ptr, ob_some, Nat.zero_add, Nat.add_zero, rixa (show n <= 200 by omega), rixa (show d <= 200 by omega), rixa (show m <= 200 by omega), e0', lbin_eql]
  have hD : ∀ isd : Bool, Wp (ob (φ fg [(.ptr b 0), (.int .i64 (m : Nat)), (.str s2)] H) fun r27 =>
  ob (iextract r27.1 0) fun t28 =>
  ob (iextract r27.1 1) fun t29 =>
  jn (fun (H79 : Heap) =>
  ob (φ fe [.ptr b (1 + d * 9 + 7), (.str nm)] H79) fun r84 =>
  ob (φ fse [.ptr b (1 + m * 9 + 7), (.str s2), (.int .i64 (n : Nat))] r84.2) fun r89 =>
  jn (fun (H99 : Heap) =>
  some ((IV.int .i64 0), H99)) fun J90 =>
  cnd (.bool isd)
  (ob (lstV r89.2 1 (.ptr b (1 + n * 9 + 4)) (.int .i64 (m : Nat))) fun r104 =>
  J90 r104.2)
  (J90 r89.2)) fun J30 =>
  ob (lbin .eql t29 (.int .i64 0)) fun t105 =>
  cnd t105
  (ob (lixa 201 9 (.ptr b 1) t28) fun t108 =>
  ob (loff t108 0) fun t109 =>
  ob (lload1 r27.2 t109) fun t110 =>
  ob (lbin .eql t110 (.int .i64 2)) fun t111 =>
  ob (lbin .eql t28 (.int .i64 (n : Nat))) fun t112 =>
  cnd t112
  (some ((.int .i64 0), r27.2))
  (ob (gq (isB t111 true) (some (.bool isd))) fun t113 =>
  ob (gq (isB t111 true) (iun .not t113)) fun t114 =>
  ob (lpick t111 t114 (.bool false)) fun t115 =>
  cnd t115
  (some ((.int .i64 21), r27.2))
  (ob (iun .not t111) fun t116 =>
  ob (gq (isB t116 true) (some (.bool isd))) fun t117 =>
  ob (lpick t116 t117 (.bool false)) fun t118 =>
  cnd t118
  (some ((.int .i64 20), r27.2))
  (ob (gq (isB t111 true) (some (.ptr b 0))) fun t119 =>
  ob (gq (isB t111 true) (some t28)) fun t120 =>
  ob (gq (isB t111 true) (lchk t119)) fun t121 =>
  ob (gq (isB t111 true) (loff t121 1)) fun t122 =>
  ob (gq (isB t111 true) (lixa 201 9 t122 t120)) fun t123 =>
  ob (gq (isB t111 true) (loff t123 7)) fun t124 =>
  ob (gq (isB t111 true) (loff t124 0)) fun t125 =>
  ob (gq (isB t111 true) (lload1 r27.2 t125)) fun t126 =>
  ob (gq (isB t111 true) (llen r27.2 .slice t126)) fun t127 =>
  ob (gq (isB t111 true) (lbin .gtr t127 (.int .i64 0))) fun t128 =>
  ob (lpick t111 t128 (.bool false)) fun t129 =>
  cnd t129
  (some ((.int .i64 39), r27.2))
  (ob (φ fe [.ptr b (1 + m * 9 + 7), (.str s2)] r27.2) fun r134 =>
  ob (φ fl [(.ptr b 0), t28, (.int .i64 1), (.int .i64 0)] r134.2) fun r135 =>
  J30 r135.2)))))
  (J30 r27.2)) fun r => RA (c + 1) own H b s r.2 := by
   intro isd
   obtain ⟨v3, e4, he4, hv3⟩ := hg c own H b s R (m : Nat) s2 h (by omega)
   rw [he4, ob_some]
   simp only [iextract_tuple, List.getElem?_cons_zero, List.getElem?_cons_succ, ob_some, jn_eq, lbin_eql]
   have fin : ∀ (own1 : Nat -> Nat) (K : Heap) (R1 : List IV), RB c own1 K b s R1 -> Frame (fun j => own j ≠ 0) H K -> (∀ j, own1 j ≠ 0 -> own j ≠ 0 ∨ H.length <= j) -> Wp (ob (φ fe [.ptr b (1 + d * 9 + 7), (.str nm)] K) fun r84 =>
     ob (φ fse [.ptr b (1 + m * 9 + 7), (.str s2), (.int .i64 (n : Nat))] r84.2) fun r89 =>
     cnd (.bool isd)
     (ob (lstV r89.2 1 (.ptr b (1 + n * 9 + 4)) (.int .i64 (m : Nat))) fun r104 =>
     some ((IV.int .i64 0), r104.2))
     (some ((IV.int .i64 0), r89.2))) fun r => RA (c + 1) own H b s r.2 := by
    intro own1 K R1 k1 k2 k3
    refine Wp.call (hde c own1 K b s R1 d nm k1 (by omega) (by omega)) ?_
    rintro ⟨w, K2⟩ ⟨own2, R2, g1, g2, g3⟩
    simp only at g1 g2 ⊢
    refine Wp.call (hse c own2 K2 b s R2 m s2 (n : Nat) g1 hc (by omega) (by omega) (by omega)) ?_
    rintro ⟨w, K3⟩ ⟨_, own3, R3, u1, u2, u3⟩
    simp only at u1 u2 ⊢
    have lead : ∀ K4, RA (c + 1) own3 K3 b s K4 -> RA (c + 1) own H b s K4 := fun K4 k => RA.of k2 k3 (RA.of g2 g3 (RA.of u2 u3 k))
    cases isd with
    | false => rw [cnd_false]; exact Wp.ret (lead K3 (RA.refl u1))
    | true =>
     rw [cnd_true, show 1 + n * 9 + 4 = 1 + 9 * n + 4 by omega, st1 u1.row (by simp only [one_int]) (by rw [u1.len]; omega), ob_some]
     exact Wp.ret (lead _ ⟨own3, _, u1.set (by omega) (by omega) (RCell.par (by omega)), Frame.set _ _ (by rw [u1.ob]; decide), fun _ h => .inl h⟩)
   by_cases hz : e4 = 0
   ·rw [decide_eq_true hz, cnd_true]
    obtain ⟨⟨w1, w2⟩, _⟩ := hv3 hz
    obtain ⟨o, rfl⟩ : ∃ n : Nat, v3 = (n : Nat) := ⟨v3.toNat, by omega⟩
    obtain ⟨zo, eo, _⟩ := h.int (i := o) (k := 0) (by omega) (by omega)
    have eo' : lload1 H (.ptr b (1 + o * 9)) = some (.int .i64 zo) := eo
    simp only [rixa (show o <= 200 by omega), ob_some, loff_ptr, Nat.add_zero, eo', lbin_eql]
    refine Wp.dec (fun _ => bad _) (fun _ => ?_)
    have del : Wp (ob (φ fe [.ptr b (1 + m * 9 + 7), (.str s2)] H) fun r134 =>
      ob (φ fl [(.ptr b 0), (.int .i64 (o : Nat)), (.int .i64 1), (.int .i64 0)] r134.2) fun r135 =>
      ob (φ fe [.ptr b (1 + d * 9 + 7), (.str nm)] r135.2) fun r84 =>
      ob (φ fse [.ptr b (1 + m * 9 + 7), (.str s2), (.int .i64 (n : Nat))] r84.2) fun r89 =>
      cnd (.bool isd)
      (ob (lstV r89.2 1 (.ptr b (1 + n * 9 + 4)) (.int .i64 (m : Nat))) fun r104 =>
      some ((IV.int .i64 0), r104.2))
      (some ((IV.int .i64 0), r89.2))) fun r => RA (c + 1) own H b s r.2 := by
     refine Wp.call (hde c own H b s R m s2 h (by omega) (by omega)) ?_
     rintro ⟨w, K2⟩ ⟨own2, R2, g1, g2, g3⟩
     simp only at g1 g2 ⊢
     refine Wp.call (hl c own2 K2 b s R2 o 1 0 g1 (by omega)) ?_
     rintro ⟨w, K3⟩ hRA
     obtain ⟨own3, R3, u1, u2, u3⟩ := RA.of g2 g3 hRA
     exact fin own3 K3 R3 u1 u2 u3
    cases decide (zo = 2) with
    | true =>
     simp only [isB_tt, gq_true, ob_some, iun_not, lpick_true]
     cases isd with
     | false => rw [Bool.not_false, cnd_true]; exact bad _
     | true =>
      obtain ⟨vl, a1, _, a2⟩ := h.ptr (i := o) (by omega) (show 7 < 9 by omega)
      obtain ⟨l, b1, b2, b3⟩ := RCell.list.1 a2
      simp only [Bool.not_true, cnd_false, isB_ft, gq_false, lpick_false, ob_some, lchk_ptr, loff_ptr, Nat.zero_add, Nat.add_zero, rixa (show o <= 200 by omega), a1, b1.len2, lbin_gtr]
      exact Wp.dec (fun _ => bad _) (fun _ => del)
    | false =>
     simp only [isB_ft, gq_false, ob_some, iun_not, lpick_false, cnd_false, Bool.not_false, isB_tt, gq_true, lpick_true]
     cases isd with
     | true => rw [cnd_true]; exact bad _
     | false => rw [cnd_false]; exact del
   ·rw [decide_eq_false hz, cnd_false]
    exact fin own H R h (Frame.refl _ _) (fun _ h => .inl h)
  cases decide (z0 = 2) with
  | false =>
   simp only [isB_ft, gq_false, ge_false, ob_some, lpick_false, cnd_false]
   exact hD false
  | true =>
   obtain ⟨x, ex⟩ := hb c own H b s R m (n : Nat) h (by omega)
   simp only [isB_tt, gq_true, ge_true, ob_some, ex, lpick_true]
   cases x with
   | true => rw [cnd_true]; exact bad _
   | false => rw [cnd_false]; exact hD true
 rw [lbin_eql, ob_some]
 by_cases hz : e3 = 0
 ·rw [decide_eq_true hz, cnd_true]
  obtain ⟨e5, he5, _⟩ := hs H s2
  rw [he5, ob_some]
  exact go e5 fun _ => hi3 hz
 ·rw [decide_eq_false hz, cnd_false]
  exact go e3 hi3
end
end Go.Shade
namespace Go.Shade
variable {H K : Heap} {R R1 cs : List IV} {b c i j s : Nat} {own own1 : Nat -> Nat} {v : IV}
structure RL (c : Nat) (own : Nat -> Nat) (H : Heap) (b s : Nat) (own1 : Nat -> Nat) (K : Heap) (R1 : List IV) : Prop where
 rb : RB c own1 K b s R1
 fr : Frame (fun j => own j ≠ 0) H K
 fh : ∀ j, own1 j ≠ 0 -> own j ≠ 0 ∨ H.length <= j
theorem RL.ra (h : RL c own H b s own1 K R1) : RA c own H b s K := ⟨own1, R1, h.rb, h.fr, h.fh⟩
theorem RL.refl {c : Nat} {own : Nat -> Nat} {H : Heap} {b s : Nat} {R : List IV} (h : RB c own H b s R) : RL c own H b s own H R := ⟨h, Frame.refl _ _, fun _ h => .inl h⟩
theorem RL.of (h : RL c own H b s own1 K R1) {own2 : Nat -> Nat} {K2 : Heap} {R2 : List IV} (k : RL c own1 K b s own2 K2 R2) : RL c own H b s own2 K2 R2 :=
 ⟨k.rb, h.fr.trans k.fr fun j hj hw => by rcases h.fh j hw with h | h; exact h; omega, fun j hj => by
  rcases k.fh j hj with g | g
  ·exact h.fh j g
  ·exact .inr (Nat.le_trans h.fr.1 g)⟩
theorem RL.ex (h : RL c own H b s own1 K R1) {K2 : Heap} (k : RA c own1 K b s K2) : ∃ own2 R2, RL c own H b s own2 K2 R2 := by
 obtain ⟨own2, R2, k1, k2, k3⟩ := k
 exact ⟨own2, R2, h.of ⟨k1, k2, k3⟩⟩
theorem RL.sl {s' n : Nat} (h : RL c own H b s own1 K R1) (hs : Sl s' H v n cs) (ha : At (fun j => own j = 0) v) : Sl s' K v n cs := hs.frame h.fr (ha.mono fun j hj hn => hn hj)
section
variable {cal : FuncId -> Bool} {φ : Oracle} {N : Nat}
theorem rb_grow {c : Nat} {own : Nat -> Nat} {H : Heap} {b s i k : Nat} {R : List IV} (h : RB c own H b s R) (hi : i <= 200) (hk : k = 5 ∨ k = 6) {v x : IV} {cs : List IV} (hT : TS 1 (fun j => own j = 3 * i + (k - 4)) H v cs) (hx : x.one = true) (hl : cs.length <= 70000)
  (hcell : ∀ (own' : Nat -> Nat) (K : Heap) (w : IV), TS 1 (fun j => own' j = 3 * i + (k - 4)) K w (cs ++ [x]) -> RCell c own' K i k w) {G : Heap -> Option (IV × Heap)} {Q : Out -> Prop}
  (hG : ∀ own' K R' w, RL c own H b s own' K R' -> R'[1 + 9 * i + k]? = some w -> TS 1 (fun j => own' j = 3 * i + (k - 4)) K w (cs ++ [x]) -> Wp (G K) Q) :
  Wp (ob (lapp (H ++ [IObj.row [x] false]) 1 1 v (.slice H.length 0 1 1 true 1)) fun r10 => ob (lstV r10.2 1 (.ptr b (1 + i * 9 + k)) r10.1) fun r13 => G r13.2) Q := by
 have k1 : Frame NoF H (H ++ [IObj.row [x] false]) := Frame.push _ _ _
 have r1 : (H ++ [IObj.row [x] false])[H.length]? = some (.row [x] false) := newRow
 have l1 : (H ++ [IObj.row [x] false]).length = H.length + 1 := by simp
 have h1 := h.kp k1
 have hT1 := hT.frame k1 fun _ _ h => h
 generalize H ++ [IObj.row [x] false] = H1 at *
 refine Wp.call (hT1.app (b := 1) (new := [x]) (by omega) rfl (by simp [lxcells, lsl, irow, r1]) rfl (by simp [hx]) (by omega)) ?_
 rintro ⟨w, K⟩ ⟨g1, g2⟩
 simp only at g1 g2 ⊢
 have hrow : K[b]? = some (.row R false) := g1.get (by have := h.ob; omega) h1.row
 have hP : ∀ j, (H1.length <= j /\ j < K.length) -> own j = 3 * i + (k - 4) ∨ H1.length <= j := fun j hj => .inr hj.1
 have hP0 : ∀ j, (H1.length <= j /\ j < K.length) -> own j = 3 * i + (k - 4) ∨ own j = 0 := fun j hj => .inr (h1.new0 hj.1)
 have hT2 : TS 1 (fun j => ownSet own (3 * i + (k - 4)) (fun j => H1.length <= j /\ j < K.length) j = 3 * i + (k - 4)) K w (cs ++ [x]) := g2.mono fun j hj => (ownSet_same (own := own) (by omega) j).1 hj
 have hone := g2.one
 have u := h1.upd (c' := c) (i := i) (k := k) (v := w) (Nat.le_refl _) hi (by omega) (by omega) g1 hP (fun j hj => hj.2) (hcell _ K w hT2)
 have hb' : b < K.length := (ges hrow).1
 rw [show 1 + i * 9 + k = 1 + 9 * i + k by omega, st1 hrow hone (by rw [h.len]; omega), ob_some]
 have kF : Frame (fun j => j = b) K (K.set b (.row (R.set (1 + 9 * i + k) w) false)) := Frame.set _ _ rfl
 refine hG _ _ _ w ⟨u, ?_, fun j hj => ?_⟩ (List.getElem?_set_self (by rw [h.len]; omega)) (hT2.frame kF fun j hj e => ?_)
 ·exact k1.no.tr ((g1.mono fun j hj => by omega).tr (kF.mono fun j hj => by subst hj; have := h.ob; omega))
 ·rcases ownSet_ok hP j hj (by omega) with h' | h'
  ·exact .inl h'
  ·exact .inr (by omega)
 ·subst e
  have := (ownSet_ne hP0 (u := 701) (by omega) (by decide) j).1 h.ob
  omega
def RFileOk (φ : Oracle) (f : FuncId) : Prop := ∀ (c : Nat) (own : Nat -> Nat) (H : Heap) (b s : Nat) (R : List IV) (i : Int), RB c own H b s R -> ∃ e : Int, φ f [.ptr b 0, .int .i64 i] H = some (.int .i64 e, H) /\ (e = 0 -> 1 <= i /\ i <= 200)
theorem rfile_s {fk : FuncId} (hk : RKindOk φ fk) {i : Int} (h : RB c own H b s R) : ∃ e : Int, R5FileS cal φ N fk (.ptr b 0) (.int .i64 i) H = some (.int .i64 e, H) /\ (e = 0 -> 1 <= i /\ i <= 200) := by
 unfold R5FileS
 obtain ⟨k, e, hr⟩ := hk c own H b s R i h
 rw [e, ob_some]
 simp only
 rw [lbin_eql, ob_some]
 cases decide (k = 0) with
 | true => rw [cnd_true]; exact ⟨2, rfl, fun e => by cases e⟩
 | false =>
  rw [cnd_false, lbin_eql, ob_some]
  cases decide (k = 2) with
  | true => rw [cnd_true]; exact ⟨21, rfl, fun e => by cases e⟩
  | false =>
   rw [cnd_false, lbin_eql, ob_some]
   by_cases h1 : k = 1
   ·rw [decide_eq_true h1, cnd_true]; exact ⟨0, rfl, fun _ => hr (by omega)⟩
   ·rw [decide_eq_false h1, cnd_false]; exact ⟨22, rfl, fun e => by cases e⟩
def RThereOk (φ : Oracle) (f : FuncId) : Prop := ∀ (c : Nat) (own : Nat -> Nat) (H : Heap) (b s : Nat) (R : List IV) (i j : Nat), RB c own H b s R -> i <= 200 -> ∃ t : Bool, φ f [.ptr b (1 + i * 9 + 5), .int .i64 (j : Nat)] H = some (.bool t, H)
theorem TS.ix1 {P : Nat -> Prop} (h : TS 1 P H v cs) (hj : j < cs.length) : ∃ r, P r /\ lix 1 v (.int .i64 (j : Nat)) = some (.ptr r j) /\ H[r]? = some (.row cs false) /\ lload1 H (.ptr r j) = some cs[j] := by
 rcases h with ⟨rfl, h2⟩ | ⟨r, n, ex, rfl, h2, h3, h4⟩
 ·subst h2; simp at hj
 ·exact ⟨r, h2, by rw [lix_slice, if_pos (by omega)]; simp, h3, by rw [ld1 h3]; simp [hj]⟩
theorem TS.put {P : Nat -> Prop} {r : Nat} {x : IV} (h : TS 1 P H v cs) (hj : j < cs.length) (hr : lix 1 v (.int .i64 (j : Nat)) = some (.ptr r j)) : TS 1 P (H.set r (.row (cs.set j x) false)) v (cs.set j x) := by
 rcases h with ⟨rfl, h2⟩ | ⟨r', n, ex, rfl, h2, h3, h4⟩
 ·subst h2; simp at hj
 ·rw [lix_slice, if_pos (by omega)] at hr
  have : r' = r := by injection hr with hr; injection hr
  subst this
  exact .inr ⟨r', n, ex, rfl, h2, setAt h3, by rw [List.length_set]; exact h4⟩
theorem there_s (h : RB c own H b s R) (hi : i <= 200) : ∃ t : Bool, R3bThereS cal φ N (.ptr b (1 + i * 9 + 5)) (.int .i64 (j : Nat)) H = some (.bool t, H) := by
 unfold R3bThereS
 obtain ⟨v, a1, a3, a2⟩ := h.ptr hi (show 6 < 9 by omega)
 obtain ⟨bs, b1, b2⟩ := RCell.there.1 a2
 have a1' : lload1 H (.ptr b (1 + i * 9 + 5 + 1)) = some v := a1
 simp only [lchk_ptr, loff_ptr, ob_some, a1', b1.len (n := bs.length) (by omega) (by simp), lbin_lss]
 by_cases hj : j < bs.length
 ·obtain ⟨r, c1, c2, c3, c4⟩ := b1.ix1 (j := j) (by simpa using hj)
  rw [decide_eq_true (by omega)]
  simp only [isB_tt, gq_true, ob_some, lchk_ptr, loff_ptr, a1', c2, c4, lpick_true]
  rw [List.getElem_map]
  exact ⟨_, rfl⟩
 ·rw [decide_eq_false (by omega)]
  simp only [isB_ft, gq_false, ob_some, lpick_false]
  exact ⟨_, rfl⟩
def RLayOk (φ : Oracle) (f : FuncId) : Prop := ∀ (c : Nat) (own : Nat -> Nat) (H : Heap) (b s : Nat) (R : List IV) (i j : Nat), RB c own H b s R -> i <= 200 -> j < 4096 -> Wp (φ f [.ptr b (1 + i * 9 + 5), .int .i64 (j : Nat)] H) fun r => RA c own H b s r.2
theorem lay_go (hi : i <= 200) (hj : j < 4096) {gE : IV -> IV -> Heap -> Option (IV × Heap)} {Q : Out -> Prop}
  (hk : ∀ (own1 : Nat -> Nat) (K : Heap) (R1 : List IV) (v : IV) (bs : List Bool), RL c own H b s own1 K R1 -> R1[1 + 9 * i + 6]? = some v -> TS 1 (fun j => own1 j = 3 * i + 2) K v (bs.map .bool) -> bs.length <= 4096 -> j < bs.length -> Wp (gE (.ptr b (1 + i * 9 + 5)) (.int .i64 (j : Nat)) K) Q) :
  ∀ (m n : Nat) (own1 : Nat -> Nat) (K : Heap) (R1 : List IV) (v : IV) (bs : List Bool), j + 1 - bs.length <= m -> m < n -> RL c own H b s own1 K R1 -> R1[1 + 9 * i + 6]? = some v -> TS 1 (fun j => own1 j = 3 * i + 2) K v (bs.map .bool) -> bs.length <= 4096 ->
   Wp (R3bLayC0S cal φ N gE n (.ptr b (1 + i * 9 + 5)) (.int .i64 (j : Nat)) K) Q := by
 intro m
 induction m with
 | zero =>
  intro n own1 K R1 v bs hm hn hL hv hT hb
  obtain ⟨n, rfl⟩ : ∃ j, n = j + 1 := ⟨n - 1, by omega⟩
  have e6 : lload1 K (.ptr b (1 + i * 9 + 5 + 1)) = some v := by rw [ld1 hL.rb.row, show 1 + i * 9 + 5 + 1 = 1 + 9 * i + 6 by omega]; exact hv
  rw [R3bLayC0S]
  simp only [lchk_ptr, loff_ptr, ob_some, e6, hT.len (n := bs.length) (by omega) (by simp), lbin_leq]
  rw [decide_eq_false (by omega), cnd_false]
  exact hk own1 K R1 v bs hL hv hT hb (by omega)
 | succ m ih =>
  intro n own1 K R1 v bs hm hn hL hv hT hb
  obtain ⟨n, rfl⟩ : ∃ j, n = j + 1 := ⟨n - 1, by omega⟩
  have e6 : lload1 K (.ptr b (1 + i * 9 + 5 + 1)) = some v := by rw [ld1 hL.rb.row, show 1 + i * 9 + 5 + 1 = 1 + 9 * i + 6 by omega]; exact hv
  rw [R3bLayC0S]
  simp only [lchk_ptr, loff_ptr, ob_some, e6, hT.len (n := bs.length) (by omega) (by simp), lbin_leq]
  refine Wp.dec (fun hle => ?_) (fun hle => hk own1 K R1 v bs hL hv hT hb (by omega))
  rw [show lbldS K 1 1 [(.bool false)] [(0, .bool false)] = some (.slice K.length 0 1 1 true 1, K ++ [.row [.bool false] false]) from rfl, ob_some]
  have hmap : bs.map IV.bool ++ [.bool false] = (bs ++ [false]).map .bool := by simp
  refine rb_grow hL.rb (k := 6) hi (.inr rfl) hT rfl (by simp; omega) (fun own' K' w hw => RCell.there.2 ⟨bs ++ [false], by rw [← hmap]; exact hw, by simp; omega⟩) (G := fun K => R3bLayC0S cal φ N gE n (.ptr b (1 + i * 9 + 5)) (.int .i64 (j : Nat)) K) ?_
  intro own2 K2 R2 w q1 q2 q3
  rw [hmap] at q3
  exact ih n own2 K2 R2 w (bs ++ [false]) (by simp; omega) (by omega) (hL.of q1) q2 q3 (by simp; omega)
theorem lay_s (hN : 4097 < N) (h : RB c own H b s R) (hi : i <= 200) (hj : j < 4096) : Wp (R3bLayS cal φ N (.ptr b (1 + i * 9 + 5)) (.int .i64 (j : Nat)) H) fun r => RA c own H b s r.2 := by
 unfold R3bLayS R3bLayC2S R3bLayC1S
 obtain ⟨v, a1, a3, a2⟩ := h.ptr hi (show 6 < 9 by omega)
 obtain ⟨bs, b1, b2⟩ := RCell.there.1 a2
 refine lay_go hi hj ?_ (j + 1) N own H R v bs (by omega) (by omega) (RL.refl h) a3 b1 b2
 intro own1 K R1 v bs hL hv hT hb hlt
 have e6 : lload1 K (.ptr b (1 + i * 9 + 5 + 1)) = some v := by rw [ld1 hL.rb.row, show 1 + i * 9 + 5 + 1 = 1 + 9 * i + 6 by omega]; exact hv
 obtain ⟨r, c1, c2, c3, c4⟩ := hT.ix1 (j := j) (by simpa using hlt)
 simp only [lchk_ptr, loff_ptr, ob_some, e6, c2]
 rw [st1 c3 (by simp only [one_bool]) (by simpa using hlt), ob_some]
 have hset : (bs.map IV.bool).set j (.bool true) = (bs.set j true).map .bool := by rw [List.map_set]
 have kF : Frame (fun x => own1 x = 3 * i + (6 - 4)) K (K.set r (.row ((bs.map IV.bool).set j (.bool true)) false)) := Frame.set _ _ c1
 have hT2 := hT.put (x := .bool true) (j := j) (by simpa using hlt) c2
 have h2 := hL.rb.inpl hi (k := 6) (by omega) (by omega) kF (fun v' hv' => by
  rw [hv] at hv'; cases hv'
  exact RCell.there.2 ⟨bs.set j true, by rw [← hset]; exact hT2, by simpa using hb⟩)
 exact Wp.ret (hL.of ⟨h2, kF.mono fun j hj => by omega, fun _ h => .inl h⟩).ra
end
end Go.Shade
namespace Go.Shade
variable {H : Heap} {b c i n s : Nat} {ds : List IV} {dv : IV} {fl ft : FuncId} {own : Nat -> Nat}
section
variable {cal : FuncId -> Bool} {φ : Oracle} {N : Nat}
theorem rw_pad {a : Nat} {v0 v2 v3 v10 : IV} (hi : i <= 200) (ha : a < 65536) {gE : IV -> IV -> IV -> IV -> IV -> IV -> Heap -> Option (IV × Heap)} {Q : Out -> Prop}
  (hk : ∀ (own1 : Nat -> Nat) (K : Heap) (R1 : List IV) (v : IV) (cs : List IV), RL c own H b s own1 K R1 -> R1[1 + 9 * i + 5]? = some v -> TS 1 (fun j => own1 j = 3 * i + 1) K v cs -> cs.all IV.one = true -> cs.length <= 65536 -> a < cs.length -> Wp (gE v0 (.ptr b (1 + i * 9 + 5)) v2 v3 v10 (.int .i64 (a : Nat)) K) Q) :
  ∀ (m n : Nat) (own1 : Nat -> Nat) (K : Heap) (R1 : List IV) (v : IV) (cs : List IV), a + 1 - cs.length <= m -> m < n -> RL c own H b s own1 K R1 -> R1[1 + 9 * i + 5]? = some v -> TS 1 (fun j => own1 j = 3 * i + 1) K v cs -> cs.all IV.one = true -> cs.length <= 65536 ->
   Wp (R3sWriteC0S cal φ N ft fl gE n v0 (.ptr b (1 + i * 9 + 5)) v2 v3 v10 (.int .i64 (a : Nat)) K) Q := by
 intro m
 induction m with
 | zero =>
  intro n own1 K R1 v cs hm hn hL hv hT h1 hb
  obtain ⟨n, rfl⟩ : ∃ j, n = j + 1 := ⟨n - 1, by omega⟩
  have e6 : lload1 K (.ptr b (1 + i * 9 + 5)) = some v := by rw [ld1 hL.rb.row, show 1 + i * 9 + 5 = 1 + 9 * i + 5 by omega]; exact hv
  rw [R3sWriteC0S]
  simp only [lchk_ptr, loff_ptr, ob_some, Nat.add_zero, e6, hT.len (n := cs.length) (by omega) (by simp), lbin_leq]
  rw [decide_eq_false (by omega), cnd_false]
  exact hk own1 K R1 v cs hL hv hT h1 hb (by omega)
 | succ m ih =>
  intro n own1 K R1 v cs hm hn hL hv hT h1 hb
  obtain ⟨n, rfl⟩ : ∃ j, n = j + 1 := ⟨n - 1, by omega⟩
  have e6 : lload1 K (.ptr b (1 + i * 9 + 5)) = some v := by rw [ld1 hL.rb.row, show 1 + i * 9 + 5 = 1 + 9 * i + 5 by omega]; exact hv
  rw [R3sWriteC0S]
  simp only [lchk_ptr, loff_ptr, ob_some, Nat.add_zero, e6, hT.len (n := cs.length) (by omega) (by simp), lbin_leq]
  refine Wp.dec (fun hle => ?_) (fun hle => hk own1 K R1 v cs hL hv hT h1 hb (by omega))
  rw [show lbldS K 1 1 [(.int .u8 0)] [(0, .int .u8 0)] = some (.slice K.length 0 1 1 true 1, K ++ [.row [.int .u8 0] false]) from rfl, ob_some]
  have ho : (cs ++ [IV.int .u8 0]).all IV.one = true := by rw [List.all_append, h1]; rfl
  refine rb_grow hL.rb (k := 5) hi (.inl rfl) hT rfl (by omega) (fun own' K' w hw => RCell.body.2 ⟨cs ++ [.int .u8 0], hw, ho, by simp; omega⟩) (G := fun K => R3sWriteC0S cal φ N ft fl gE n v0 (.ptr b (1 + i * 9 + 5)) v2 v3 v10 (.int .i64 (a : Nat)) K) ?_
  intro own2 K2 R2 w q1 q2 q3
  exact ih n own2 K2 R2 w (cs ++ [.int .u8 0]) (by simp; omega) (by omega) (hL.of q1) q2 q3 ho (by simp; omega)
theorem rw_byte (hN : 65538 < N) {ft fl : FuncId} {c : Nat} {own : Nat -> Nat} {H : Heap} {b s i a d n : Nat} {v0 v2 dv : IV} {ds : List IV} (hi : i <= 200) (ha : a < 65536) (hd : d < n) (hn : n <= 1000000) (hsl : Sl 1 H dv n ds) (h1 : ds.all IV.one = true) (hat : At (fun j => own j = 0) dv)
  {gN : IV -> IV -> IV -> IV -> IV -> Heap -> Option (IV × Heap)} {Q : Out -> Prop} {own1 : Nat -> Nat} {K : Heap} {R1 : List IV} (hL : RL c own H b s own1 K R1)
  (hk : ∀ (own2 : Nat -> Nat) (K2 : Heap) (R2 : List IV), RL c own H b s own2 K2 R2 -> Wp (gN v0 (.ptr b (1 + i * 9 + 5)) v2 dv (.int .i64 ((d + 1 : Nat) : Int)) K2) Q) :
  Wp (R3sWriteC2S cal φ N ft fl gN v0 (.ptr b (1 + i * 9 + 5)) v2 dv (.int .i64 (d : Nat)) (.int .i64 (a : Nat)) K) Q := by
 unfold R3sWriteC2S R3sWriteC1S
 obtain ⟨v, a1, a3, a2⟩ := hL.rb.ptr hi (show 5 < 9 by omega)
 obtain ⟨cs, b1, b2, b3⟩ := RCell.body.1 a2
 refine rw_pad hi ha ?_ (a + 1) N own1 K R1 v cs (by omega) (by omega) hL a3 b1 b2 b3
 intro own2 K2 R2 w cs2 hL2 hv hT h2 hb2 hlt
 have e6 : lload1 K2 (.ptr b (1 + i * 9 + 5)) = some w := by rw [ld1 hL2.rb.row, show 1 + i * 9 + 5 = 1 + 9 * i + 5 by omega]; exact hv
 obtain ⟨r, c1, c2, c3, c4⟩ := hT.ix1 hlt
 have hsl2 := hL2.sl hsl hat
 obtain ⟨p, p1, p2⟩ := hsl2.at1 hd
 have hdl : d < ds.length := by have := hsl.1; omega
 rw [List.getElem?_eq_getElem hdl] at p2
 have ho : ds[d].one = true := by rw [List.all_eq_true] at h1; exact h1 _ (List.getElem_mem hdl)
 have enx : lbin .add (.int .i64 (d : Nat)) (.int .i64 1) = some (.int .i64 ((d + 1 : Nat) : Int)) := by rw [lbin_add, wrap_i64 (by omega) (by omega)]; rfl
 simp only [lchk_ptr, loff_ptr, ob_some, Nat.add_zero, e6, p1, p2, c2, enx]
 rw [st1 c3 ho hlt, ob_some]
 have kF : Frame (fun x => own2 x = 3 * i + (5 - 4)) K2 (K2.set r (.row (cs2.set a ds[d]) false)) := Frame.set _ _ c1
 have hT2 := hT.put (x := ds[d]) (j := a) hlt c2
 have h3 := hL2.rb.inpl hi (k := 5) (by omega) (by omega) kF (fun v' hv' => by
  rw [hv] at hv'; cases hv'
  refine RCell.body.2 ⟨cs2.set a ds[d], hT2, ?_, by simpa using hb2⟩
  rw [List.all_eq_true] at h2 ⊢
  intro x hx
  rcases List.mem_or_eq_of_mem_set hx with hx | rfl
  ·exact h2 x hx
  ·exact ho)
 exact hk own2 _ R2 (hL2.of ⟨h3, kF.mono fun j hj => by omega, fun _ h => .inl h⟩)
theorem rw_go (hN : 65538 < N) (ht : RThereOk φ ft) (hl : RLayOk φ fl) {o : Nat} (hi : i <= 200) (ho : o < 65536) (hn : n <= 1000000) (hsl : Sl 1 H dv n ds) (h1 : ds.all IV.one = true) (hat : At (fun j => own j = 0) dv) {gE : IV -> Heap -> Option (IV × Heap)} {Q : Out -> Prop} (hk : ∀ (d : Nat) (own2 : Nat -> Nat) (K2 : Heap) (R2 : List IV), RL c own H b s own2 K2 R2 -> Wp (gE (.int .i64 (d : Nat)) K2) Q) :
  ∀ (m d f : Nat) (own1 : Nat -> Nat) (K : Heap) (R1 : List IV), 65536 - (o + d) <= m -> m < f -> o + d <= 65536 -> RL c own H b s own1 K R1 ->
   Wp (R3sWriteC7S cal φ N ft fl gE f (.ptr s 0) (.ptr b (1 + i * 9 + 5)) (.int .i64 (o : Nat)) dv (.int .i64 (d : Nat)) K) Q := by
 intro m
 induction m with
 | zero =>
  intro d f own1 K R1 hm hf hod hL
  obtain ⟨f, rfl⟩ : ∃ j, f = j + 1 := ⟨f - 1, by omega⟩
  have hsl2 := hL.sl hsl hat
  have ea : lbin .add (.int .i64 (o : Nat)) (.int .i64 (d : Nat)) = some (.int .i64 ((o + d : Nat) : Int)) := by rw [lbin_add, wrap_i64 (by omega) (by omega)]; rfl
  rw [R3sWriteC7S, R3sWriteC6S, hsl2.len, ob_some, lbin_lss, ob_some]
  cases decide ((d : Int) < n) with
  | false => simp only [isB_ft, gq_false, ob_some, lpick_false, cnd_false]; exact hk d own1 K R1 hL
  | true =>
   simp only [isB_tt, gq_true, ob_some, ea, lbin_lss, lpick_true]
   rw [decide_eq_false (by omega), cnd_false]
   exact hk d own1 K R1 hL
 | succ m ih =>
  intro d f own1 K R1 hm hf hod hL
  obtain ⟨f, rfl⟩ : ∃ j, f = j + 1 := ⟨f - 1, by omega⟩
  have hsl2 := hL.sl hsl hat
  have ea : lbin .add (.int .i64 (o : Nat)) (.int .i64 (d : Nat)) = some (.int .i64 ((o + d : Nat) : Int)) := by rw [lbin_add, wrap_i64 (by omega) (by omega)]; rfl
  rw [R3sWriteC7S, R3sWriteC6S, hsl2.len, ob_some, lbin_lss, ob_some]
  by_cases hd : d < n
  ·rw [decide_eq_true (by omega)]
   simp only [isB_tt, gq_true, ob_some, ea, lbin_lss, lpick_true]
   refine Wp.dec (fun hlt => ?_) (fun _ => hk d own1 K R1 hL)
   unfold R3sWriteC5S R3sWriteC4S R3sWriteC3S
   have e2 : lbin .quo (.int .i64 ((o + d : Nat) : Int)) (.int .i64 16) = some (.int .i64 (((o + d) / 16 : Nat) : Int)) := by
    rw [lbin_quo (by decide), Int.tdiv_eq_ediv_of_nonneg (by omega), wrap_i64 (by omega) (by omega)]; congr 2
   obtain ⟨t, et⟩ := ht c own1 K b s R1 i ((o + d) / 16) hL.rb hi
   have nxt : ∀ (own2 : Nat -> Nat) (K2 : Heap) (R2 : List IV), RL c own H b s own2 K2 R2 -> Wp (R3sWriteC2S cal φ N ft fl (fun v0 v1 v2 v3 v10 H => R3sWriteC7S cal φ N ft fl gE f v0 v1 v2 v3 v10 H) (.ptr s 0) (.ptr b (1 + i * 9 + 5)) (.int .i64 (o : Nat)) dv (.int .i64 (d : Nat)) (.int .i64 ((o + d : Nat) : Int)) K2) Q := by
    intro own2 K2 R2 hL2
    refine rw_byte hN hi (by omega) hd hn hsl h1 hat hL2 ?_
    intro own3 K3 R3 hL3
    exact ih (d + 1) f own3 K3 R3 (by omega) (by omega) (by omega) hL3
   simp only [ea, ob_some, e2, et, iun_not]
   cases t with
   | true => rw [Bool.not_true, cnd_false]; exact nxt own1 K R1 hL
   | false =>
    obtain ⟨x, y, hs⟩ := hL.rb.sto
    have s0 : lload1 K (.ptr s 0) = some (.int .i64 x) := ld1 hs
    have s1 : lload1 K (.ptr s 1) = some (.int .i64 y) := ld1 hs
    simp only [Bool.not_false, cnd_true, lchk_ptr, loff_ptr, ob_some, Nat.zero_add, s0, s1, lbin_eql]
    refine Wp.dec (fun _ => hk d own1 K R1 hL) (fun _ => ?_)
    rw [lbin_add, ob_some, st1 hs (by simp only [one_int]) (by simp), ob_some]
    have h3 := hL.rb.stoSet x (IntKind.wrap .i64 (y + 1))
    have kS : Frame (fun x => x = s) K (K.set s (.row ([.int .i64 x, .int .i64 y].set 1 (.int .i64 (IntKind.wrap .i64 (y + 1)))) false)) := Frame.set _ _ rfl
    have hso := hL.rb.os
    have hL3 : RL c own H b s own1 (K.set s (.row ([.int .i64 x, .int .i64 y].set 1 (.int .i64 (IntKind.wrap .i64 (y + 1)))) false)) R1 := hL.of ⟨h3, kS.mono fun j hj => by subst hj; omega, fun _ h => .inl h⟩
    refine Wp.call (hl c own1 _ b s R1 i ((o + d) / 16) hL3.rb hi (by omega)) ?_
    rintro ⟨w, K4⟩ hRA
    obtain ⟨own4, R4, hL4⟩ := hL3.ex hRA
    exact nxt own4 K4 R4 hL4
  ·rw [decide_eq_false (by omega)]
   simp only [isB_ft, gq_false, ob_some, lpick_false, cnd_false]
   exact hk d own1 K R1 hL
def RSWriteOk (φ : Oracle) (f : FuncId) : Prop := ∀ (c : Nat) (own : Nat -> Nat) (H : Heap) (b s : Nat) (R : List IV) (i : Nat) (off : Int) (dv : IV) (n : Nat) (ds : List IV), RB c own H b s R -> i <= 200 -> n <= 1000000 -> Sl 1 H dv n ds -> ds.all IV.one = true -> At (fun j => own j = 0) dv -> Wp (φ f [.ptr s 0, .ptr b (1 + i * 9 + 5), .int .i64 off, dv] H) fun r => (∃ x y : Int, r.1 = .tuple [.int .i64 x, .int .i64 y]) /\ RA c own H b s r.2
theorem rswrite_s (hN : 65538 < N) (ht : RThereOk φ ft) (hl : RLayOk φ fl) {R : List IV} {off : Int} (h : RB c own H b s R) (hi : i <= 200) (hn : n <= 1000000) (hsl : Sl 1 H dv n ds) (h1 : ds.all IV.one = true) (hat : At (fun j => own j = 0) dv) :
  Wp (R3sWriteS cal φ N ft fl (.ptr s 0) (.ptr b (1 + i * 9 + 5)) (.int .i64 off) dv H) fun r => (∃ x y : Int, r.1 = .tuple [.int .i64 x, .int .i64 y]) /\ RA c own H b s r.2 := by
 have done : ∀ (x y : Int), Wp (some ((IV.tuple [.int .i64 x, .int .i64 y]), H)) fun r => (∃ x y : Int, r.1 = .tuple [.int .i64 x, .int .i64 y]) /\ RA c own H b s r.2 := fun x y => Wp.ret ⟨⟨x, y, rfl⟩, RA.refl h⟩
 unfold R3sWriteS R3sWriteC14S R3sWriteC13S
 rw [lbin_lss, ob_some]
 refine Wp.dec (fun _ => done _ _) (fun h0 => ?_)
 unfold R3sWriteC12S
 rw [hsl.len, ob_some, lbin_eql, ob_some]
 refine Wp.dec (fun _ => done _ _) (fun _ => ?_)
 unfold R3sWriteC11S
 rw [lbin_geq, ob_some]
 refine Wp.dec (fun _ => done _ _) (fun h2 => ?_)
 obtain ⟨o, rfl⟩ : ∃ o : Nat, off = (o : Nat) := ⟨off.toNat, by omega⟩
 unfold R3sWriteC10S R3sWriteC9S R3sWriteC8S
 refine rw_go hN ht hl hi (by omega) hn hsl h1 hat ?_ 65536 0 N own H R (by omega) (by omega) (by omega) (RL.refl h)
 intro d own2 K2 R2 hL
 simp only
 rw [lbin_eql, ob_some]
 exact Wp.dec (fun _ => Wp.ret ⟨⟨_, _, rfl⟩, hL.ra⟩) (fun _ => Wp.ret ⟨⟨_, _, rfl⟩, hL.ra⟩)
def RWriteOk (φ : Oracle) (f : FuncId) : Prop := ∀ (c : Nat) (own : Nat -> Nat) (H : Heap) (b s : Nat) (R : List IV) (i off : Int) (dv : IV) (n : Nat) (ds : List IV), RB c own H b s R -> n <= 1000000 -> Sl 1 H dv n ds -> ds.all IV.one = true -> At (fun j => own j = 0) dv -> Wp (φ f [.ptr b 0, .int .i64 i, .int .i64 off, dv] H) fun r => RA c own H b s r.2
theorem rwrite_s {ff fw : FuncId} (hf : RFileOk φ ff) (hw : RSWriteOk φ fw) {R : List IV} {i off : Int} (h : RB c own H b s R) (hn : n <= 1000000) (hsl : Sl 1 H dv n ds) (h1 : ds.all IV.one = true) (hat : At (fun j => own j = 0) dv) :
  Wp (R5WriteS cal φ N ff fw (.ptr b 0) (.int .i64 i) (.int .i64 off) dv H) fun r => RA c own H b s r.2 := by
 unfold R5WriteS
 obtain ⟨e, he, hr⟩ := hf c own H b s R i h
 rw [he, ob_some]
 simp only
 rw [lbin_neq, ob_some]
 refine Wp.ndec (fun _ => Wp.ret (RA.refl h)) (fun h0 => ?_)
 obtain ⟨i1, i2⟩ := hr h0
 obtain ⟨j, rfl⟩ : ∃ n : Nat, i = (n : Nat) := ⟨i.toNat, by omega⟩
 have e0 : lload1 H (.ptr b 0) = some (.ptr s 0) := by rw [ld1 h.row]; exact h.r0
 simp only [lchk_ptr, loff_ptr, ob_some, Nat.zero_add, rixa (show j <= 200 by omega), e0]
 refine Wp.call (hw c own H b s R j off dv n ds h (by omega) hn hsl h1 hat) ?_
 rintro ⟨w, K⟩ ⟨⟨x, y, hx⟩, hRA⟩
 simp only at hx hRA ⊢
 subst hx
 exact Wp.ret hRA
end
end Go.Shade
namespace Go.Shade
def z9 : List IV := [.int .i64 0, .int .i64 0, .int .i64 0, .int .i64 0, .int .i64 0, .nilSlice, .nilSlice, .nilSlice, .str []]
def z201 : List IV := (List.replicate 201 z9).flatten
theorem repl_get {z : List IV} {s : Nat} (hz : z.length = s) : ∀ (n i k : Nat), i < n -> k < s -> (List.replicate n z).flatten[i * s + k]? = z[k]?
 | 0, i, k, h, _ => by omega
 | n + 1, i, k, h, hk => by
  rw [List.replicate_succ, List.flatten_cons]
  cases i with
  | zero => rw [List.getElem?_append_left (by omega)]; congr 1; omega
  | succ i =>
   rw [List.getElem?_append_right (by rw [hz, Nat.add_mul]; omega), show (i + 1) * s + k - z.length = i * s + k by rw [hz, Nat.add_mul]; omega]
   exact repl_get hz n i k (by omega) hk
theorem rep_len {z : List IV} : ∀ n : Nat, (List.replicate n z).flatten.length = n * z.length
 | 0 => by simp
 | n + 1 => by rw [List.replicate_succ, List.flatten_cons, List.length_append, rep_len n, Nat.add_mul]; omega
theorem rep_one {z : List IV} (hz : z.all IV.one = true) : ∀ n : Nat, (List.replicate n z).flatten.all IV.one = true
 | 0 => rfl
 | n + 1 => by rw [List.replicate_succ, List.flatten_cons, List.all_append, hz, rep_one hz n]; rfl
section
variable {cal : FuncId -> Bool} {φ : Oracle} {N : Nat}
theorem r03new_s (H : Heap) (room : Int) : vr03NewS cal φ N (.int .i64 room) H = if 0 <= room /\ room <= 65536 then some (.ptr H.length 0, H ++ [.row [.int .i64 room, .int .i64 0] false]) else some (.nilPtr, H) := by
 unfold vr03NewS
 rw [lbin_lss, ob_some]
 by_cases h1 : room < 0
 ·rw [decide_eq_true h1]
  simp only [isB_tf, gq_false, ob_some, lpick_true, cnd_true]
  rw [if_neg (by omega)]
 ·rw [decide_eq_false h1]
  simp only [isB_ff, gq_true, ob_some, lpick_false, lbin_gtr]
  by_cases h2 : 65536 < room
  ·rw [decide_eq_true h2, cnd_true, if_neg (by omega)]
  ·rw [decide_eq_false h2, cnd_false, if_pos (by omega)]
   have e1 : lbld [(.int .i64 0), (.int .i64 0)] [(0, 1, (.int .i64 room))] = some (.agg [.int .i64 room, .int .i64 0]) := rfl
   rw [e1, ob_some, lbox_agg rfl, ob_some]
theorem rnew_eq (fs : FuncId) (v : IV) (H : Heap) : vr05NewS cal φ N fs v H = (ob (φ fs [v] H) fun r1 =>
  ob (leqv false (leq .ptr r1.1 .nilPtr)) fun t2 =>
  cnd t2
  (some (.nilPtr, r1.2))
  (ob (lbld (.nilPtr :: z201) [(0, 1, r1.1)]) fun t3 =>
  ob (lbox r1.2 t3) fun r4 =>
  ob (lbld [(.int .i64 0), (.int .i64 0), (.int .i64 0), (.int .i64 0), (.int .i64 0), .nilSlice, .nilSlice, .nilSlice, (.str [])] [(0, 1, (.int .i64 2)), (1, 1, (.int .i64 1)), (4, 1, (.int .i64 1))]) fun t5 =>
  ob (lchk r4.1) fun t6 =>
  ob (loff t6 1) fun t7 =>
  ob (lixa 201 9 t7 (.int .i64 1)) fun t8 =>
  ob (lstV r4.2 9 t8 t5) fun r9 =>
  some (r4.1, r9.2))) := by kernel_rfl
theorem rbld (s : Nat) : lbld (.nilPtr :: z201) [(0, 1, .ptr s 0)] = some (.agg (.ptr s 0 :: z201)) := by kernel_rfl
def RNewOk (φ : Oracle) (f : FuncId) : Prop := ∀ (H : Heap), Wp (φ f [.int .i64 500] H) fun r => Frame NoF H r.2 /\ ∃ own b s R, r.1 = .ptr b 0 /\ RB 0 own r.2 b s R /\ ∀ j, own j ≠ 0 -> H.length <= j
theorem rnew_s {fs : FuncId} (hs : SNewOk φ fs) (H : Heap) : Wp (vr05NewS cal φ N fs (.int .i64 500) H) fun r => Frame NoF H r.2 /\ ∃ own b s R, r.1 = .ptr b 0 /\ RB 0 own r.2 b s R /\ ∀ j, own j ≠ 0 -> H.length <= j := by
 rw [rnew_eq, hs H 500, if_pos (by decide), ob_some]
 simp only
 have e1 : leqv false (leq .ptr (.ptr H.length 0) .nilPtr) = some (.bool false) := rfl
 rw [e1, ob_some, cnd_false, rbld, ob_some]
 have k1 : Frame NoF H (H ++ [IObj.row [.int .i64 500, .int .i64 0] false]) := Frame.push _ _ _
 have r1 : (H ++ [IObj.row [.int .i64 500, .int .i64 0] false])[H.length]? = some (.row [.int .i64 500, .int .i64 0] false) := newRow
 have l1 : (H ++ [IObj.row [.int .i64 500, .int .i64 0] false]).length = H.length + 1 := by simp
 generalize H ++ [IObj.row [.int .i64 500, .int .i64 0] false] = K at *
 have hone : ((IV.ptr H.length 0) :: z201).all IV.one = true := by rw [List.all_cons]; unfold z201; rw [rep_one rfl]; rfl
 rw [lbox_agg hone, ob_some]
 have k2 : Frame NoF K (K ++ [IObj.row (.ptr H.length 0 :: z201) false]) := Frame.push _ _ _
 have r2 : (K ++ [IObj.row (.ptr H.length 0 :: z201) false])[K.length]? = some (.row (.ptr H.length 0 :: z201) false) := newRow
 have r1' := k2.get (fun h => h) r1
 have l2 : (K ++ [IObj.row (.ptr H.length 0 :: z201) false]).length = H.length + 2 := by simp; omega
 simp only [l1] at r2 ⊢
 generalize K ++ [IObj.row (.ptr H.length 0 :: z201) false] = K2 at *
 let own : Nat -> Nat := fun j => if j = H.length + 1 then 701 else if j = H.length then 700 else 0
 have o1 : own (H.length + 1) = 701 := if_pos rfl
 have o2 : own H.length = 700 := by show (if H.length = H.length + 1 then 701 else _) = _; rw [if_neg (by omega), if_pos rfl]
 have o3 : ∀ j, own j ≠ 0 -> j = H.length + 1 ∨ j = H.length := fun j hj => by
  by_cases e1 : j = H.length + 1
  ·exact .inl e1
  ·by_cases e2 : j = H.length
   ·exact .inr e2
   ·exact absurd (by show (if j = H.length + 1 then 701 else if j = H.length then 700 else 0) = 0; rw [if_neg e1, if_neg e2]) hj
 have zl : z201.length = 1809 := by unfold z201; rw [rep_len]; rfl
 have hB : RB 0 own K2 (H.length + 1) H.length (.ptr H.length 0 :: z201) := by
  refine ⟨o1, r2, by rw [List.length_cons, zl], rfl, o2, ⟨500, 0, r1'⟩, fun i k hi hk => ?_, fun j hj => by rcases o3 j hj with rfl | rfl <;> omega⟩
  rw [show 1 + 9 * i + k = (i * 9 + k) + 1 by omega, List.getElem?_cons_succ]
  unfold z201
  rw [repl_get (s := 9) rfl 201 i k (by omega) hk]
  match k, hk with
  | 0, _ => exact ⟨_, rfl, RCell.scal (by omega) _⟩
  | 1, _ => exact ⟨_, rfl, RCell.scal (by omega) _⟩
  | 2, _ => exact ⟨_, rfl, RCell.scal (by omega) _⟩
  | 3, _ => exact ⟨_, rfl, RCell.scal (by omega) _⟩
  | 4, _ => exact ⟨_, rfl, RCell.par (by omega)⟩
  | 5, _ => exact ⟨_, rfl, RCell.nil (by omega) (by omega)⟩
  | 6, _ => exact ⟨_, rfl, RCell.nil (by omega) (by omega)⟩
  | 7, _ => exact ⟨_, rfl, RCell.nil (by omega) (by omega)⟩
  | 8, _ => exact ⟨_, rfl, RCell.targ []⟩
 obtain ⟨H', R', q1, q2, q3⟩ := hB.node (i := 1) (by omega) (k := 2) (l := 1) (p := 1) (t := []) (by omega)
 have e5 : lbld [(.int .i64 0), (.int .i64 0), (.int .i64 0), (.int .i64 0), (.int .i64 0), .nilSlice, .nilSlice, .nilSlice, (.str [])] [(0, 1, (.int .i64 2)), (1, 1, (.int .i64 1)), (4, 1, (.int .i64 1))] = some (.agg [.int .i64 2, .int .i64 1, .int .i64 0, .int .i64 0, .int .i64 1, .nilSlice, .nilSlice, .nilSlice, .str []]) := rfl
 simp only [e5, ob_some, lchk_ptr, loff_ptr, Nat.zero_add]
 have e6 : lixa 201 9 (.ptr (H.length + 1) 1) (.int .i64 1) = some (.ptr (H.length + 1) (1 + 1 * 9)) := rixa (i := 1) (by omega)
 rw [e6, ob_some, q1, ob_some]
 refine Wp.ret ⟨?_, own, H.length + 1, H.length, R', rfl, q2, fun j hj => by rcases o3 j hj with rfl | rfl <;> omega⟩
 refine ⟨Nat.le_trans (Nat.le_trans k1.1 k2.1) q3.1, fun j hj _ => ?_⟩
 rw [q3.2 j (by omega) (by intro hn; rcases o3 j hn with e | e <;> omega), k2.2 j (by omega) (fun h => h), k1.2 j hj (fun h => h)]
end
end Go.Shade
namespace Go.Shade
variable {B b1 b2 c r1 r2 : Nat} {H : Heap} {Q : Out -> Prop} {Z : Nat -> Prop} {o o' : Nat -> Nat}
structure MAct where
 low : Bool
 kd : Int
 d : Int
 t : Int
 n : Int
 a : Nam
 b : Nam
def MAct.cells (x : MAct) : List IV := [.bool x.low, .int .i64 x.kd, .int .i64 x.d, .int .i64 x.t, .int .i64 x.n, .str x.a, .str x.b]
def MActs (L : Nat) (H : Heap) (v : IV) (l : List MAct) : Prop := At (· < L) v /\ ∃ cs, Sl 7 H v l.length cs /\ ∀ i a, l[i]? = some a -> (cs.drop (i * 7)).take 7 = a.cells
theorem MActs.frame {L : Nat} {H H' : Heap} {v : IV} {l : List MAct} (h : MActs L H v l) {F : Nat -> Prop} (k : Frame F H H') (hF : ∀ j, j < L -> ¬ F j) : MActs L H' v l := by
 obtain ⟨h0, cs, h1, h2⟩ := h
 exact ⟨h0, cs, h1.frame k (h0.mono fun i hi => hF i hi), h2⟩
theorem MActs.at {L : Nat} {v : IV} {l : List MAct} (h : MActs L H v l) {i : Nat} {a : MAct} (ha : l[i]? = some a) : ∃ p, lix 7 v (.int .i64 (i : Nat)) = some p /\ lloadn H 7 p = some (.agg a.cells) := by
 obtain ⟨h0, cs, h1, h2⟩ := h
 obtain ⟨p, e1, e2⟩ := h1.atn (ges ha).1
 exact ⟨p, e1, by rw [e2, h2 i a ha]⟩
theorem MActs.len {L : Nat} {H : Heap} {v : IV} {l : List MAct} (h : MActs L H v l) : llen H .slice v = some (.int .i64 (l.length : Nat)) := by
 obtain ⟨h0, cs, h1, h2⟩ := h
 exact h1.len
def X1 (c : Nat) (o : Nat -> Nat) (H : Heap) (b : Nat) : Prop := ∃ st, BrOk o H b st /\ BInv c st
def X2 (c : Nat) (o : Nat -> Nat) (H : Heap) (b : Nat) : Prop := ∃ s R, RB c o H b s R
def Dj (o o' : Nat -> Nat) : Prop := ∀ j, o j ≠ 0 -> o' j = 0
def UpZ (B : Nat) (Z : Nat -> Prop) (o : Nat -> Nat) : Prop := ∀ j, o j ≠ 0 -> B <= j /\ ¬ Z j
theorem Dj.symm (h : Dj o o') : Dj o' o := fun j hj => by
 cases e : o j with
 | zero => rfl
 | succ n => have := h j (by omega); omega
theorem X1.frame {c c' : Nat} {o : Nat -> Nat} {H H' : Heap} {b : Nat} (h : X1 c o H b) (hc : c <= c') {F : Nat -> Prop} (k : Frame F H H') (hf : ∀ j, o j ≠ 0 -> ¬ F j) : X1 c' o H' b := by
 obtain ⟨st, h1, h2⟩ := h
 exact ⟨st, h1.frame k hf, h2.mono hc⟩
theorem X2.frame {c c' : Nat} {o : Nat -> Nat} {H H' : Heap} {b : Nat} (h : X2 c o H b) (hc : c <= c') {F : Nat -> Prop} (k : Frame F H H') (hf : ∀ j, o j ≠ 0 -> ¬ F j) : X2 c' o H' b := by
 obtain ⟨s, R, h1⟩ := h
 exact ⟨s, R, (h1.frame k hf).mono hc⟩
theorem X1.lt {c : Nat} {o : Nat -> Nat} {H : Heap} {b : Nat} (h : X1 c o H b) {j : Nat} (hj : o j ≠ 0) : j < H.length := by obtain ⟨_, h, _⟩ := h; exact h.lt j hj
theorem X2.lt {c : Nat} {o : Nat -> Nat} {H : Heap} {b : Nat} (h : X2 c o H b) {j : Nat} (hj : o j ≠ 0) : j < H.length := by obtain ⟨_, _, h⟩ := h; exact h.lt j hj
def W2 (c B : Nat) (Z : Nat -> Prop) (H : Heap) (b1 r1 b2 r2 : Nat) : Prop := ∃ o1 o2 o3 o4, X1 c o1 H b1 /\ X2 c o2 H r1 /\ X1 c o3 H b2 /\ X2 c o4 H r2 /\ (Dj o1 o2 /\ Dj o1 o3 /\ Dj o1 o4 /\ Dj o2 o3 /\ Dj o2 o4 /\ Dj o3 o4) /\ UpZ B Z o1 /\ UpZ B Z o2 /\ UpZ B Z o3 /\ UpZ B Z o4
theorem W2.swap (h : W2 c B Z H b1 r1 b2 r2) : W2 c B Z H b2 r2 b1 r1 := by
 obtain ⟨o1, o2, o3, o4, h1, h2, h3, h4, ⟨d12, d13, d14, d23, d24, d34⟩, u1, u2, u3, u4⟩ := h
 exact ⟨o3, o4, o1, o2, h3, h4, h1, h2, ⟨d34, d13.symm, d23.symm, d14.symm, d24.symm, d12⟩, u3, u4, u1, u2⟩
theorem W2.push {c B : Nat} {Z : Nat -> Prop} {H : Heap} {b1 r1 b2 r2 : Nat} (h : W2 c B Z H b1 r1 b2 r2) (o : IObj) : W2 c B (fun j => Z j ∨ j = H.length) (H ++ [o]) b1 r1 b2 r2 := by
 obtain ⟨o1, o2, o3, o4, h1, h2, h3, h4, d, u1, u2, u3, u4⟩ := h
 have k : Frame NoF H (H ++ [o]) := Frame.push _ _ _
 refine ⟨o1, o2, o3, o4, h1.frame (Nat.le_refl _) k fun _ _ h => h, h2.frame (Nat.le_refl _) k fun _ _ h => h, h3.frame (Nat.le_refl _) k fun _ _ h => h, h4.frame (Nat.le_refl _) k fun _ _ h => h, d, fun j hj => ⟨(u1 j hj).1, fun e => ?_⟩, fun j hj => ⟨(u2 j hj).1, fun e => ?_⟩, fun j hj => ⟨(u3 j hj).1, fun e => ?_⟩, fun j hj => ⟨(u4 j hj).1, fun e => ?_⟩⟩
 ·rcases e with e | e; exact (u1 j hj).2 e; have := h1.lt hj; omega
 ·rcases e with e | e; exact (u2 j hj).2 e; have := h2.lt hj; omega
 ·rcases e with e | e; exact (u3 j hj).2 e; have := h3.lt hj; omega
 ·rcases e with e | e; exact (u4 j hj).2 e; have := h4.lt hj; omega
theorem W2.forget {Z' : Nat -> Prop} (h : W2 c B Z H b1 r1 b2 r2) (hz : ∀ j, Z' j -> Z j) : W2 c B Z' H b1 r1 b2 r2 := by
 obtain ⟨o1, o2, o3, o4, h1, h2, h3, h4, d, u1, u2, u3, u4⟩ := h
 exact ⟨o1, o2, o3, o4, h1, h2, h3, h4, d, fun j hj => ⟨(u1 j hj).1, fun e => (u1 j hj).2 (hz j e)⟩, fun j hj => ⟨(u2 j hj).1, fun e => (u2 j hj).2 (hz j e)⟩, fun j hj => ⟨(u3 j hj).1, fun e => (u3 j hj).2 (hz j e)⟩, fun j hj => ⟨(u4 j hj).1, fun e => (u4 j hj).2 (hz j e)⟩⟩
theorem Dj.next {o2 : Nat -> Nat} (h : Dj o o2) (hu : ∀ j, o' j ≠ 0 -> o j ≠ 0 ∨ H.length <= j) (hl : ∀ j, o2 j ≠ 0 -> j < H.length) : Dj o' o2 := fun j hj => by
 rcases hu j hj with h' | h'
 ·exact h j h'
 ·cases e : o2 j with
  | zero => rfl
  | succ n => have := hl j (by omega); omega
theorem UpZ.next (h : UpZ B Z o) (hu : ∀ j, o' j ≠ 0 -> o j ≠ 0 ∨ H.length <= j) (hB : B <= H.length) (hZ : ∀ j, Z j -> j < H.length) : UpZ B Z o' := fun j hj => by
 rcases hu j hj with h' | h'
 ·exact h j h'
 ·exact ⟨by omega, fun e => by have := hZ j e; omega⟩
def StP (c B : Nat) (Z : Nat -> Prop) (H : Heap) (b1 r1 b2 r2 : Nat) (K : Heap) : Prop := W2 (c + 1) B Z K b1 r1 b2 r2 /\ Frame (fun j => B <= j /\ ¬ Z j) H K
theorem W2.act1 (h : W2 c B Z H b1 r1 b2 r2) (hB : B <= H.length) (hZ : ∀ j, Z j -> j < H.length) {q : Option Out} (hq : ∀ o st, BrOk o H b1 st -> BInv c st -> UpZ B Z o -> Wp q (ActP c o H b1)) : Wp q fun r => StP c B Z H b1 r1 b2 r2 r.2 := by
 obtain ⟨o1, o2, o3, o4, ⟨st, g1, g2⟩, h2, h3, h4, ⟨d12, d13, d14, d23, d24, d34⟩, u1, u2, u3, u4⟩ := h
 refine (hq o1 st g1 g2 u1).mono ?_
 rintro ⟨v, K⟩ ⟨o', st', ⟨k1, k2, k3⟩, k4⟩
 simp only at k1 k2 ⊢
 refine ⟨⟨o', o2, o3, o4, ⟨st', k1, k4⟩, h2.frame (by omega) k2 fun j hj h' => by have := d12 j h'; omega, h3.frame (by omega) k2 fun j hj h' => by have := d13 j h'; omega, h4.frame (by omega) k2 fun j hj h' => by have := d14 j h'; omega, ⟨d12.next k3 fun j hj => h2.lt hj, d13.next k3 fun j hj => h3.lt hj, d14.next k3 fun j hj => h4.lt hj, d23, d24, d34⟩, u1.next k3 hB hZ, u2, u3, u4⟩, k2.mono fun j hj => u1 j hj⟩
theorem W2.act2 (h : W2 c B Z H b1 r1 b2 r2) (hB : B <= H.length) (hZ : ∀ j, Z j -> j < H.length) {q : Option Out} (hq : ∀ o s R, RB c o H r1 s R -> UpZ B Z o -> Wp q fun r => RA (c + 1) o H r1 s r.2) : Wp q fun r => StP c B Z H b1 r1 b2 r2 r.2 := by
 obtain ⟨o1, o2, o3, o4, h1, ⟨s, R, g1⟩, h3, h4, ⟨d12, d13, d14, d23, d24, d34⟩, u1, u2, u3, u4⟩ := h
 refine (hq o2 s R g1 u2).mono ?_
 rintro ⟨v, K⟩ ⟨o', R', k1, k2, k3⟩
 simp only at k1 k2 ⊢
 refine ⟨⟨o1, o', o3, o4, h1.frame (by omega) k2 fun j hj h' => by have := d12 j hj; omega, ⟨s, R', k1⟩, h3.frame (by omega) k2 fun j hj h' => by have := d23 j h'; omega, h4.frame (by omega) k2 fun j hj h' => by have := d24 j h'; omega, ⟨(d12.symm.next k3 fun j hj => h1.lt hj).symm, d13, d14, d23.next k3 fun j hj => h3.lt hj, d24.next k3 fun j hj => h4.lt hj, d34⟩, u1, u2.next k3 hB hZ, u3, u4⟩, k2.mono fun j hj => u2 j hj⟩
theorem W2.two {c B : Nat} {Z : Nat -> Prop} {H : Heap} {b1 r1 b2 r2 : Nat} (h : W2 c B Z H b1 r1 b2 r2) (hB : B <= H.length) (hZ : ∀ j, Z j -> j < H.length) {q1 : Option Out} {F : Out -> Option Out} {Q : Out -> Prop} (h1 : ∀ o st, BrOk o H b1 st -> BInv c st -> UpZ B Z o -> Wp q1 (ActP c o H b1))
  (hF : ∀ r : Out, Frame (fun j => B <= j /\ ¬ Z j) H r.2 -> W2 (c + 1) B Z r.2 b1 r1 b2 r2 -> Wp (F r) Q) : Wp (ob q1 F) Q := by
 refine Wp.call (h.act1 hB hZ h1) ?_
 rintro r ⟨k1, k2⟩
 exact hF r k2 k1
theorem W2.two' {H0 : Heap} (h : W2 (c + 1) B Z H b1 r1 b2 r2) (hF0 : Frame (fun j => B <= j /\ ¬ Z j) H0 H) (hB : B <= H0.length) (hZ : ∀ j, Z j -> j < H0.length) {q2 : Option Out} {J : Heap -> Option Out} (h2 : ∀ o s R, RB (c + 1) o H r1 s R -> UpZ B Z o -> Wp q2 fun r => RA (c + 2) o H r1 s r.2) (hJ : ∀ K, W2 (c + 2) B Z K b1 r1 b2 r2 -> Frame (fun j => B <= j /\ ¬ Z j) H0 K -> Wp (J K) Q) : Wp (ob q2 fun r => J r.2) Q := by
 refine Wp.call (h.act2 (Nat.le_trans hB hF0.1) (fun j hj => Nat.lt_of_lt_of_le (hZ j hj) hF0.1) h2) ?_
 rintro r ⟨k1, k2⟩
 exact hJ r.2 k1 (hF0.tr k2)
structure BldOk (φ : Oracle) (f1 f2 f3 f4 f5 f6 f7 f8 f9 f10 f11 f12 f13 f14 : FuncId) : Prop where
 bnew : BNewOk φ f1
 rnew : RNewOk φ f2
 make : BMakeOk φ f3
 rmake : RMakeOk φ f4
 link : BLinkOk φ f5
 rlink : RLinkOk φ f6
 unl : BUnlOk φ f7
 runl : RUnlOk φ f8
 mark : BMarkOk φ f9
 rmark : RMarkOk φ f10
 write : BWriteOk φ f11
 rwrite : RWriteOk φ f12
 ren : BRenOk φ f13
 rren : RRenOk φ f14
theorem jn1 {G : Heap -> Option Out} {F : (Heap -> Option Out) -> Option Out} (P : Heap -> Prop) (hg : ∀ K, P K -> Wp (G K) Q) (hF : ∀ J : Heap -> Option Out, (∀ K, P K -> Wp (J K) Q) -> Wp (F J) Q) : Wp (jn G F) Q := hF G hg
theorem jn2 {G : IV -> IV -> Option Out} {F : (IV -> IV -> Option Out) -> Option Out} (P : IV -> IV -> Prop) (hg : ∀ a b, P a b -> Wp (G a b) Q) (hF : ∀ J : IV -> IV -> Option Out, (∀ a b, P a b -> Wp (J a b) Q) -> Wp (F J) Q) : Wp (jn G F) Q := hF G hg
theorem s2b_sl (H : Heap) (l : Nam) : Sl 1 (H ++ [IObj.row (l.map fun b => .int .u8 b.toNat) false]) (.slice H.length 0 l.length l.length false 1) l.length (l.map fun b => .int .u8 b.toNat) :=
 ⟨by simp, .inr ⟨H.length, 0, l.length, false, 1, rfl, Nat.le_refl _, .inr rfl, fun hn => ⟨_, false, newRow, by simp, by rw [List.drop_zero]; exact List.take_of_length_le (by simp)⟩⟩⟩
end Go.Shade
namespace Go.Shade
section
variable {cal : FuncId -> Bool} {φ : Oracle} {N : Nat}
variable {f1 f2 f3 f4 f5 f6 f7 f8 f9 f10 f11 f12 f13 f14 : FuncId}
theorem bld_go (hb : BldOk φ f1 f2 f3 f4 f5 f6 f7 f8 f9 f10 f11 f12 f13 f14) {B : Nat} {v : IV} {l : List MAct} {p b1 r1 b2 r2 : Nat} {H0 : Heap} (hp : p < H0.length) (hBp : B <= p) (hrow : H0[p]? = some (.row [.ptr b1 0, .ptr b2 0, .ptr r1 0, .ptr r2 0] false)) (hv : MActs B H0 v l)
  {gE : IV -> Heap -> Option Out} {Q : Out -> Prop} (hbad : ∀ K, Frame (fun j => B <= j /\ ¬ j = p) H0 K -> Q (.tuple [.nilPtr, .bool false], K))
  (hk : ∀ (c : Nat) (K : Heap), c <= 160 -> W2 c B (fun j => j = p) K b1 r1 b2 r2 -> Frame (fun j => B <= j /\ ¬ j = p) H0 K -> Wp (gE (.ptr p 0) K) Q) :
  ∀ (m i n : Nat) (K : Heap), i + m = 80 -> m < n -> W2 (2 * i) B (fun j => j = p) K b1 r1 b2 r2 -> Frame (fun j => B <= j /\ ¬ j = p) H0 K ->
   Wp (veneerlaw10BuildC0S cal φ N f1 f2 f3 f4 f5 f6 f7 f8 f9 f10 f11 f12 f13 f14 gE n v (.ptr p 0) (.int .i64 (i : Nat)) K) Q := by
 intro m
 induction m with
 | zero =>
  intro i n K hi hn hW hF
  obtain ⟨n, rfl⟩ : ∃ j, n = j + 1 := ⟨n - 1, by omega⟩
  have hv' := hv.frame hF (fun j hj h => by omega)
  rw [veneerlaw10BuildC0S, hv'.len, ob_some, lbin_lss, ob_some]
  cases decide ((i : Int) < (l.length : Nat)) with
  | false => simp only [isB_ft, gq_false, ob_some, lpick_false, cnd_false]; exact hk _ K (by omega) hW hF
  | true =>
   simp only [isB_tt, gq_true, ob_some, lbin_lss, lpick_true]
   rw [decide_eq_false (by omega), cnd_false]
   exact hk _ K (by omega) hW hF
 | succ m ih =>
  intro i n K hi hn hW hF
  obtain ⟨n, rfl⟩ : ∃ j, n = j + 1 := ⟨n - 1, by omega⟩
  have hv' := hv.frame hF (fun j hj h => by omega)
  rw [veneerlaw10BuildC0S, hv'.len, ob_some, lbin_lss, ob_some]
  by_cases hil : i < l.length
  ·rw [decide_eq_true (by omega)]
   simp only [isB_tt, gq_true, ob_some, lbin_lss, lpick_true]
   rw [decide_eq_true (by omega), cnd_true]
   obtain ⟨px, e1, e2⟩ := hv'.at (List.getElem?_eq_getElem hil)
   generalize l[i] = x at *
   rw [e1, ob_some, e2, ob_some, lzbox_eq, ob_some]
   simp only [cells_agg]
   have hxc : x.cells.all IV.one = true := rfl
   rw [stn (n := 7) newRow hxc rfl rfl, ob_some, setRow]
   have hpK : p < K.length := Nat.lt_of_lt_of_le hp hF.1
   have hprow : K[p]? = some (.row [.ptr b1 0, .ptr b2 0, .ptr r1 0, .ptr r2 0] false) := hF.get (fun h => h.2 rfl) hrow
   have hW1 := hW.push (.row x.cells false)
   have k1 : Frame NoF K (K ++ [IObj.row x.cells false]) := Frame.push _ _ _
   have ra : (K ++ [IObj.row x.cells false])[K.length]? = some (.row x.cells false) := newRow
   have rp := k1.get (fun h => h) hprow
   have l1 : (K ++ [IObj.row x.cells false]).length = K.length + 1 := by simp
   have hF1 : Frame (fun j => B <= j /\ ¬ j = p) H0 (K ++ [IObj.row x.cells false]) := hF.tr k1.no
   generalize K ++ [IObj.row x.cells false] = K1 at *
   generalize ha : K.length = a at *
   have hZ : ∀ j, (j = p ∨ j = a) -> j < K1.length := fun j hj => by omega
   have hBK : B <= K1.length := by omega
   have fl0 : ∀ {K2 : Heap}, K2[a]? = some (.row x.cells false) -> lload1 K2 (.ptr a 0) = some (.bool x.low) := fun h => ld1 h
   have fl1 : ∀ {K2 : Heap}, K2[a]? = some (.row x.cells false) -> lload1 K2 (.ptr a 1) = some (.int .i64 x.kd) := fun h => ld1 h
   have fl2 : ∀ {K2 : Heap}, K2[a]? = some (.row x.cells false) -> lload1 K2 (.ptr a 2) = some (.int .i64 x.d) := fun h => ld1 h
   have fl3 : ∀ {K2 : Heap}, K2[a]? = some (.row x.cells false) -> lload1 K2 (.ptr a 3) = some (.int .i64 x.t) := fun h => ld1 h
   have fl4 : ∀ {K2 : Heap}, K2[a]? = some (.row x.cells false) -> lload1 K2 (.ptr a 4) = some (.int .i64 x.n) := fun h => ld1 h
   have fl5 : ∀ {K2 : Heap}, K2[a]? = some (.row x.cells false) -> lload1 K2 (.ptr a 5) = some (.str x.a) := fun h => ld1 h
   have fl6 : ∀ {K2 : Heap}, K2[a]? = some (.row x.cells false) -> lload1 K2 (.ptr a 6) = some (.str x.b) := fun h => ld1 h
   have kp : ∀ {K2 : Heap}, Frame (fun j => B <= j /\ ¬ (j = p ∨ j = a)) K1 K2 -> K2[a]? = some (.row x.cells false) := fun h => h.get (fun h => h.2 (.inr rfl)) ra
   simp only [loff_ptr, ob_some, Nat.zero_add, fl6 ra, llen_str, lbin_gtr, lchk_ptr]
   refine Wp.dec (fun _ => Wp.ret (hbad K1 hF1)) (fun hlen => ?_)
   have p0 : lload1 K1 (.ptr p 0) = some (.ptr b1 0) := ld1 rp
   have p1 : lload1 K1 (.ptr p 1) = some (.ptr b2 0) := ld1 rp
   have p2 : lload1 K1 (.ptr p 2) = some (.ptr r1 0) := ld1 rp
   have p3 : lload1 K1 (.ptr p 3) = some (.ptr r2 0) := ld1 rp
   simp only [p0, p1, p2, p3, ob_some, fl0 ra]
   refine jn2 (fun y z => (y = .ptr b1 0 /\ z = .ptr r1 0) ∨ (y = .ptr b2 0 /\ z = .ptr r2 0)) ?_ ?_
   ·
    intro y z hyz
    obtain ⟨ba, rra, bb, rb, rfl, rfl, hWa, hback⟩ : ∃ ba rra bb rb, y = .ptr ba 0 /\ z = .ptr rra 0 /\ W2 (2 * i) B (fun j => j = p ∨ j = a) K1 ba rra bb rb /\ ∀ c Z K2, W2 c B Z K2 ba rra bb rb -> W2 c B Z K2 b1 r1 b2 r2 := by
     rcases hyz with ⟨rfl, rfl⟩ | ⟨rfl, rfl⟩
     ·exact ⟨b1, r1, b2, r2, rfl, rfl, hW1, fun _ _ _ h => h⟩
     ·exact ⟨b2, r2, b1, r1, rfl, rfl, hW1.swap, fun _ _ _ h => h.swap⟩
    simp only [fl1 ra, ob_some]
    refine jn1 (fun K2 => W2 (2 * i + 2) B (fun j => j = p ∨ j = a) K2 ba rra bb rb /\ Frame (fun j => B <= j /\ ¬ (j = p ∨ j = a)) K1 K2) ?_ ?_
    ·rintro K2 ⟨q1, q2⟩
     rw [lbin_add, ob_some, wrap_i64 (by omega) (by omega), show ((i : Nat) : Int) + 1 = ((i + 1 : Nat) : Int) by omega]
     exact ih (i + 1) n K2 (by omega) (by omega) ((hback _ _ _ q1).forget fun j hj => .inl hj) (hF1.tr (q2.mono fun j hj => ⟨hj.1, fun e => hj.2 (.inl e)⟩))
    ·intro J hJ
     have hJ' : ∀ K2, W2 (2 * i + 2) B (fun j => j = p ∨ j = a) K2 ba rra bb rb -> Frame (fun j => B <= j /\ ¬ (j = p ∨ j = a)) K1 K2 -> Wp (J K2) Q := fun K2 h1 h2 => hJ K2 ⟨h1, h2⟩
     have c9 : ∀ {st : Brs}, BInv (2 * i) st -> LenInv 999999 st := fun h => (h.mono (by omega)).len
     simp only [lbin_eql, ob_some]
     refine Wp.dec (fun _ => ?_) (fun _ => ?_)
     ·simp only [fl2 ra, fl4 ra, fl5 ra, fl6 ra, ob_some]
      refine hWa.two hBK hZ (fun o st g1 g2 _ => (hb.make o K1 ba st x.d x.a x.n x.b g1 g2.ki (c9 g2) g2.fi).mono fun r hr => hr.act g2) ?_
      intro r hf hw
      simp only [fl2 (kp hf), fl4 (kp hf), fl5 (kp hf), fl6 (kp hf), ob_some]
      exact hw.two' hf hBK hZ (fun o s R g _ => hb.rmake _ o r.2 rra s R x.d x.a x.n x.b g (by omega)) hJ'
     refine Wp.dec (fun _ => ?_) (fun _ => ?_)
     ·simp only [fl2 ra, fl3 ra, fl5 ra, ob_some]
      refine hWa.two hBK hZ (fun o st g1 g2 _ => (hb.link o K1 ba st x.d x.a x.t g1 g2.ki (c9 g2)).mono fun r hr => hr.act g2) ?_
      intro r hf hw
      simp only [fl2 (kp hf), fl3 (kp hf), fl5 (kp hf), ob_some]
      exact hw.two' hf hBK hZ (fun o s R g _ => hb.rlink _ o r.2 rra s R x.d x.a x.t g (by omega)) hJ'
     refine Wp.dec (fun _ => ?_) (fun _ => ?_)
     ·simp only [fl2 ra, fl5 ra, ob_some]
      refine hWa.two hBK hZ (fun o st g1 g2 _ => (hb.unl o K1 ba st x.d x.a g1 g2.ki (c9 g2) g2.ei (by have := g2.flen; omega)).mono fun r hr => hr.act g2) ?_
      intro r hf hw
      simp only [fl2 (kp hf), fl5 (kp hf), ob_some]
      exact hw.two' hf hBK hZ (fun o s R g _ => (hb.runl _ o r.2 rra s R x.d x.a g (by omega)).mono fun _ h => h.mono (by omega)) hJ'
     refine Wp.dec (fun _ => ?_) (fun _ => ?_)
     ·simp only [fl2 ra, fl4 ra, ob_some]
      refine hWa.two hBK hZ (fun o st g1 g2 _ => (hb.mark o K1 ba st x.d x.n g1).mono fun r hr => hr.act g2) ?_
      intro r hf hw
      simp only [fl2 (kp hf), fl4 (kp hf), ob_some]
      exact hw.two' hf hBK hZ (fun o s R g _ => (hb.rmark _ o r.2 rra s R x.d x.n g).mono fun _ h => h.mono (by omega)) hJ'
     refine Wp.dec (fun _ => ?_) (fun _ => ?_)
     ·simp only [fl2 ra, fl6 ra, ob_some]
      have es : ls2b K1 (.str x.b) = some (.slice K1.length 0 x.b.length x.b.length false 1, K1 ++ [.row (x.b.map fun b => .int .u8 b.toNat) false]) := rfl
      rw [es, ob_some]
      have kA : Frame NoF K1 (K1 ++ [IObj.row (x.b.map fun b => .int .u8 b.toNat) false]) := Frame.push _ _ _
      have hWb := hWa.push (.row (x.b.map fun b => .int .u8 b.toNat) false)
      have slA := s2b_sl K1 x.b
      have lA : (K1 ++ [IObj.row (x.b.map fun b => .int .u8 b.toNat) false]).length = K1.length + 1 := by simp
      generalize K1 ++ [IObj.row (x.b.map fun b => .int .u8 b.toNat) false] = K2 at *
      simp only
      have hZ2 : ∀ j, ((j = p ∨ j = a) ∨ j = K1.length) -> j < K2.length := fun j hj => by omega
      have at0 : ∀ {o : Nat -> Nat} {X n : Nat} {Z : Nat -> Prop}, UpZ B (fun j => Z j ∨ j = X) o -> At (fun j => o j = 0) (.slice X 0 n n false 1) := fun {o X n Z} hu => by
       intro b' o' n' lb ex sz e hn
       injection e with i1
       subst i1
       cases e0 : o X with
       | zero => rfl
       | succ k => exact absurd (.inr rfl) (hu X (by omega)).2
      refine Wp.call (hWb.act1 (by omega) hZ2 (fun o st g1 g2 hu => (hb.write o K2 ba st x.d 0 _ _ _ g1 g2.ki slA (bytes_one x.b) (at0 hu) (by omega)).mono fun r hr => ⟨o, st, hr.2, g2.mono (by omega)⟩)) ?_
      rintro r ⟨w1, w2⟩
      have w2' : Frame (fun j => B <= j /\ ¬ (j = p ∨ j = a)) K1 r.2 := ⟨by have := w2.1; omega, fun j hj hn => by
       rw [w2.2 j (by omega) (fun h => hn ⟨h.1, fun e => h.2 (.inl e)⟩), kA.2 j hj (fun h => h)]⟩
      simp only [fl2 (kp w2'), fl6 (kp w2'), ob_some]
      have es2 : ls2b r.2 (.str x.b) = some (.slice r.2.length 0 x.b.length x.b.length false 1, r.2 ++ [.row (x.b.map fun b => .int .u8 b.toNat) false]) := rfl
      rw [es2, ob_some]
      have kB : Frame NoF r.2 (r.2 ++ [IObj.row (x.b.map fun b => .int .u8 b.toNat) false]) := Frame.push _ _ _
      have hWd := (w1.forget (Z' := fun j => j = p ∨ j = a) fun j hj => .inl hj).push (.row (x.b.map fun b => .int .u8 b.toNat) false)
      have slB := s2b_sl r.2 x.b
      have lB : (r.2 ++ [IObj.row (x.b.map fun b => .int .u8 b.toNat) false]).length = r.2.length + 1 := by simp
      have hle := w2'.1
      generalize r.2 ++ [IObj.row (x.b.map fun b => .int .u8 b.toNat) false] = K3 at *
      simp only
      refine Wp.call (hWd.act2 (by omega) (fun j hj => by omega) (fun o s R g hu => (hb.rwrite (2 * i + 1) o K3 rra s R x.d 0 _ _ _ g (by omega) slB (bytes_one x.b) (at0 hu)).mono fun r hr => hr.mono (by omega))) ?_
      rintro r' ⟨v1, v2⟩
      refine hJ' r'.2 (v1.forget fun j hj => .inl hj) ((w2'.tr kB.no).trans v2 fun j hj hh => ⟨hh.1, fun e => hh.2 (.inl e)⟩)
     refine Wp.dec (fun _ => ?_) (fun _ => ?_)
     ·simp only [fl2 ra, fl3 ra, fl5 ra, fl6 ra, ob_some]
      refine hWa.two hBK hZ (fun o st g1 g2 _ => ?_) ?_
      ·obtain ⟨rk, hR⟩ := g2.rank
       exact (hb.ren rk o K1 ba st x.d x.a x.t x.b g1 g2.ki (c9 g2) g2.ei hR (by have := g2.flen; omega)).mono fun r hr => hr.act g2 hR
      intro r hf hw
      simp only [fl2 (kp hf), fl3 (kp hf), fl5 (kp hf), fl6 (kp hf), ob_some]
      exact hw.two' hf hBK hZ (fun o s R g _ => hb.rren _ o r.2 rra s R x.d x.a x.t x.b g (by omega)) hJ'
     ·exact hJ' K1 (by obtain ⟨o1, o2, o3, o4, h1, h2, h3, h4, d, u⟩ := hWa; exact ⟨o1, o2, o3, o4, h1.frame (by omega) (Frame.refl NoF _) fun _ _ h => h, h2.frame (by omega) (Frame.refl NoF _) fun _ _ h => h, h3.frame (by omega) (Frame.refl NoF _) fun _ _ h => h, h4.frame (by omega) (Frame.refl NoF _) fun _ _ h => h, d, u⟩) (Frame.refl _ _)
   ·intro J hJ
    cases x.low with
    | true => rw [cnd_true]; exact hJ _ _ (.inr ⟨rfl, rfl⟩)
    | false => rw [cnd_false]; exact hJ _ _ (.inl ⟨rfl, rfl⟩)
  ·rw [decide_eq_false (by omega)]
   simp only [isB_ft, gq_false, ob_some, lpick_false, cnd_false]
   exact hk _ K (by omega) hW hF
end
end Go.Shade
namespace Go.Shade
section
variable {cal : FuncId -> Bool} {φ : Oracle} {N : Nat}
variable {f1 f2 f3 f4 f5 f6 f7 f8 f9 f10 f11 f12 f13 f14 : FuncId}
theorem NewBr.le {B : Nat} {K : Heap} {b : Nat} {room : Int} (h : NewBr B K b room) : B <= b := by
 obtain ⟨s, q, d, x, P, a1, a2, a3, a4, a5, a6, b1, b2, _⟩ := h.ex
 omega
def BldP (H : Heap) (r : Out) : Prop := Frame NoF H r.2 /\ (r.1 = .tuple [.nilPtr, .bool false] ∨ ∃ p b1 r1 b2 r2, H.length <= p /\ r.1 = .tuple [.ptr p 0, .bool true] /\ r.2[p]? = some (.row [.ptr b1 0, .ptr b2 0, .ptr r1 0, .ptr r2 0] false) /\ W2 160 H.length (fun j => j = p) r.2 b1 r1 b2 r2)
def BuildOk (φ : Oracle) (f : FuncId) : Prop := ∀ (H : Heap) (v : IV) (l : List MAct), MActs H.length H v l -> Wp (φ f [v] H) (BldP H)
theorem build_s (hN : 82 < N) (hb : BldOk φ f1 f2 f3 f4 f5 f6 f7 f8 f9 f10 f11 f12 f13 f14) {H : Heap} {v : IV} {l : List MAct} (hv : MActs H.length H v l) : Wp (veneerlaw10BuildS cal φ N f1 f2 f3 f4 f5 f6 f7 f8 f9 f10 f11 f12 f13 f14 v H) (BldP H) := by
 unfold veneerlaw10BuildS veneerlaw10BuildC6S veneerlaw10BuildC5S
 refine Wp.call (hb.bnew H 500) ?_
 rintro ⟨w1, K1⟩ ⟨k1, g1⟩
 rw [if_pos (by decide)] at g1
 obtain ⟨b1, rfl, n1⟩ := g1
 obtain ⟨o1, st1, c1, d1, e1⟩ := n1.ok n1.le
 simp only at k1 c1 ⊢
 refine Wp.call (hb.bnew K1 500) ?_
 rintro ⟨w2, K2⟩ ⟨k2, g2⟩
 rw [if_pos (by decide)] at g2
 obtain ⟨b2, rfl, n2⟩ := g2
 obtain ⟨o2, st2, c2, d2, e2⟩ := n2.ok n2.le
 simp only at k2 c2 ⊢
 refine Wp.call (hb.rnew K2) ?_
 rintro ⟨w3, K3⟩ ⟨k3, o3, r1, s1, R1, rfl, c3, e3⟩
 simp only at k3 c3 ⊢
 refine Wp.call (hb.rnew K3) ?_
 rintro ⟨w4, K4⟩ ⟨k4, o4, r2, s2, R2, rfl, c4, e4⟩
 simp only at k4 c4 ⊢
 have t1 := k1.1
 have t2 := k2.1
 have t3 := k3.1
 have t4 := k4.1
 have hW : W2 0 H.length (fun _ => False) K4 b1 r1 b2 r2 := by
  have x1 : X1 0 o1 K4 b1 := ⟨st1, (((c1.kp k2).kp k3).kp k4), d1⟩
  have x2 : X1 0 o2 K4 b2 := ⟨st2, ((c2.kp k3).kp k4), d2⟩
  have x3 : X2 0 o3 K4 r1 := ⟨s1, R1, c3.kp k4⟩
  have x4 : X2 0 o4 K4 r2 := ⟨s2, R2, c4⟩
  have dj : ∀ {o o' : Nat -> Nat} {m : Nat}, (∀ j, o j ≠ 0 -> j < m) -> (∀ j, o' j ≠ 0 -> m <= j) -> Dj o o' := fun {o o' m} h1 h2 j hj => by
   cases e : o' j with
   | zero => rfl
   | succ n => have := h2 j (by omega); have := h1 j hj; omega
  have m1 : ∀ j, o1 j ≠ 0 -> j < K1.length := fun j hj => c1.lt j hj
  have m2 : ∀ j, o2 j ≠ 0 -> j < K2.length := fun j hj => c2.lt j hj
  have m3 : ∀ j, o3 j ≠ 0 -> j < K3.length := fun j hj => c3.lt j hj
  exact ⟨o1, o3, o2, o4, x1, x3, x2, x4, ⟨dj m1 fun j hj => by have := e3 j hj; omega, dj m1 e2, dj m1 fun j hj => by have := e4 j hj; omega, (dj m2 e3).symm, dj m3 e4, dj m2 fun j hj => by have := e4 j hj; omega⟩, fun j hj => ⟨e1 j hj, fun h => h⟩, fun j hj => ⟨by have := e3 j hj; omega, fun h => h⟩, fun j hj => ⟨by have := e2 j hj; omega, fun h => h⟩, fun j hj => ⟨by have := e4 j hj; omega, fun h => h⟩⟩
 have kF : Frame NoF H K4 := ((k1.tr k2).tr k3).tr k4
 have eb : lbld [.nilPtr, .nilPtr, .nilPtr, .nilPtr] [(0, 1, .ptr b1 0), (1, 1, .ptr b2 0), (2, 1, .ptr r1 0), (3, 1, .ptr r2 0)] = some (.agg [.ptr b1 0, .ptr b2 0, .ptr r1 0, .ptr r2 0]) := rfl
 rw [eb, ob_some, lbox_agg rfl, ob_some]
 have hW1 := hW.push (.row [.ptr b1 0, .ptr b2 0, .ptr r1 0, .ptr r2 0] false)
 have kp : Frame NoF K4 (K4 ++ [IObj.row [.ptr b1 0, .ptr b2 0, .ptr r1 0, .ptr r2 0] false]) := Frame.push _ _ _
 have rp : (K4 ++ [IObj.row [.ptr b1 0, .ptr b2 0, .ptr r1 0, .ptr r2 0] false])[K4.length]? = some (.row [.ptr b1 0, .ptr b2 0, .ptr r1 0, .ptr r2 0] false) := newRow
 have l5 : (K4 ++ [IObj.row [.ptr b1 0, .ptr b2 0, .ptr r1 0, .ptr r2 0] false]).length = K4.length + 1 := by simp
 generalize K4 ++ [IObj.row [.ptr b1 0, .ptr b2 0, .ptr r1 0, .ptr r2 0] false] = K5 at *
 generalize hp : K4.length = p at *
 have kF5 := kF.tr kp
 unfold veneerlaw10BuildC4S
 have p0 : lload1 K5 (.ptr p 0) = some (.ptr b1 0) := ld1 rp
 have p1 : lload1 K5 (.ptr p 1) = some (.ptr b2 0) := ld1 rp
 have q0 : leqv false (leq .ptr (.ptr b1 0) .nilPtr) = some (.bool false) := rfl
 have q1 : leqv false (leq .ptr (.ptr b2 0) .nilPtr) = some (.bool false) := rfl
 simp only [lchk_ptr, loff_ptr, ob_some, Nat.zero_add, p0, q0, isB_ff, gq_true, p1, q1, lpick_false, cnd_false]
 unfold veneerlaw10BuildC3S veneerlaw10BuildC2S veneerlaw10BuildC1S
 refine bld_go hb (B := H.length) (H0 := K5) (by omega) (by omega) rp (hv.frame kF5 fun _ _ h => h) ?_ ?_ 80 0 N K5 (by omega) (by omega) (hW1.forget fun j hj => .inr hj) (Frame.refl _ _)
 ·intro K hF
  refine ⟨⟨by have := hF.1; show H.length <= K.length; omega, fun j hj _ => ?_⟩, .inl rfl⟩
  show K[j]? = _
  rw [hF.2 j (by omega) (by omega), kF5.2 j hj (fun h => h)]
 ·intro c K hc hW' hF
  have hpK : K[p]? = some (.row [.ptr b1 0, .ptr b2 0, .ptr r1 0, .ptr r2 0] false) := hF.get (fun h => h.2 rfl) rp
  refine Wp.ret ⟨⟨by have := hF.1; show H.length <= K.length; omega, fun j hj _ => ?_⟩, .inr ⟨p, b1, r1, b2, r2, by omega, rfl, hpK, ?_⟩⟩
  ·show K[j]? = _
   rw [hF.2 j (by omega) (by omega), kF5.2 j hj (fun h => h)]
  ·obtain ⟨o1, o2, o3, o4, h1, h2, h3, h4, d, u⟩ := hW'
   exact ⟨o1, o2, o3, o4, h1.frame hc (Frame.refl NoF _) fun _ _ h => h, h2.frame hc (Frame.refl NoF _) fun _ _ h => h, h3.frame hc (Frame.refl NoF _) fun _ _ h => h, h4.frame hc (Frame.refl NoF _) fun _ _ h => h, d, u⟩
end
end Go.Shade
namespace Go.Shade
variable {f : FuncId}
def andI (a : Int) : Int := IntKind.wrap .i64 (BitVec.ofInt IntKind.i64.bits a &&& BitVec.ofInt IntKind.i64.bits 1).toNat
theorem lbin_and1 {a : Int} : lbin .and (.int .i64 a) (.int .i64 1) = some (.int .i64 (andI a)) := id rfl
def opq (st : Brs) (u : Int) : Bool := !decide (andI (marksOf st u) = 0)
def kindV (st1 st2 : Brs) (U L : Int) : Int := if U = 0 then (if kindOf st2 L = 4 then 0 else kindOf st2 L) else (if kindOf st1 U = 4 then 0 else kindOf st1 U)
def dirE (st1 st2 : Brs) (U L : Int) : Int := if kindV st1 st2 U L = 0 then 2 else if kindV st1 st2 U L = 2 then 0 else 20
def belV (st1 st2 : Brs) (U L : Int) (s : Nam) : Int := if L = 0 then 0 else if U = 0 then (getOf st2 L s).1 else if opq st1 U = true then 0 else (getOf st2 L s).1
def lowV (st2 : Brs) (b : Int) : (Int × Int) × Int := if kindOf st2 b = 0 then ((0, 0), 2) else if kindOf st2 b = 4 then ((0, 0), 2) else ((0, b), 0)
def bothV (st1 st2 : Brs) (x b : Int) : Int := if kindOf st1 x = 2 then (if opq st1 x = true then 0 else if kindOf st2 b = 2 then b else 0) else 0
def getV (st1 st2 : Brs) (U L : Int) (s : Nam) : (Int × Int) × Int :=
 if dirE st1 st2 U L = 0 then
  if U = 0 then lowV st2 (belV st1 st2 U L s)
  else if (getOf st1 U s).2 = 0 then
   if kindOf st1 (getOf st1 U s).1 = 4 then ((0, 0), 2)
   else (((getOf st1 U s).1, bothV st1 st2 (getOf st1 U s).1 (belV st1 st2 U L s)), 0)
  else lowV st2 (belV st1 st2 U L s)
 else ((0, 0), dirE st1 st2 U L)
def rootU (st1 : Brs) (u : Int) : Int := if kindOf st1 u = 2 then u else 0
def rootL (st1 st2 : Brs) (u l : Int) : Int := if kindOf st2 l = 2 then (if rootU st1 u = 0 then l else if opq st1 (rootU st1 u) = true then 0 else l) else 0
structure VwOk (H : Heap) (v b1 b2 : Nat) (u l : Int) (st1 st2 : Brs) : Prop where
 row : H[v]? = some (.row [.ptr b1 0, .ptr b2 0, .int .i64 u, .int .i64 l] false)
 up : ∃ o, BrOk o H b1 st1
 low : ∃ o, BrOk o H b2 st2
 k1 : KInv st1
 k2 : KInv st2
 l1 : LenInv 1000000 st1
 l2 : LenInv 1000000 st2
def nodV (U L : Int) : IV := .agg [.int .i64 U, .int .i64 L]
section
variable {cal : FuncId -> Bool} {φ : Oracle} {N : Nat}
variable {H H' : Heap} {v b1 b2 : Nat} {u l : Int} {st1 st2 : Brs} {U L : Int} {s : Nam}
theorem VwOk.kp (h : VwOk H v b1 b2 u l st1 st2) (k : Frame NoF H H') : VwOk H' v b1 b2 u l st1 st2 :=
 ⟨k.get (fun h => h) h.row, (by obtain ⟨o, a⟩ := h.up; exact ⟨o, a.kp k⟩), (by obtain ⟨o, a⟩ := h.low; exact ⟨o, a.kp k⟩), h.k1, h.k2, h.l1, h.l2⟩
theorem VwOk.p0 (h : VwOk H v b1 b2 u l st1 st2) : lload1 H (.ptr v 0) = some (.ptr b1 0) := ld1 h.row
theorem VwOk.p1 (h : VwOk H v b1 b2 u l st1 st2) : lload1 H (.ptr v 1) = some (.ptr b2 0) := ld1 h.row
theorem VwOk.p2 (h : VwOk H v b1 b2 u l st1 st2) : lload1 H (.ptr v 2) = some (.int .i64 u) := ld1 h.row
theorem VwOk.p3 (h : VwOk H v b1 b2 u l st1 st2) : lload1 H (.ptr v 3) = some (.int .i64 l) := ld1 h.row
theorem VwOk.kd1 (h : VwOk H v b1 b2 u l st1 st2) (hk : KindOk φ f) (i : Int) : φ f [.ptr b1 0, .int .i64 i] H = some (.int .i64 (kindOf st1 i), H) := by
 obtain ⟨o, a⟩ := h.up; exact hk o H b1 st1 i a
theorem VwOk.kd2 (h : VwOk H v b1 b2 u l st1 st2) (hk : KindOk φ f) (i : Int) : φ f [.ptr b2 0, .int .i64 i] H = some (.int .i64 (kindOf st2 i), H) := by
 obtain ⟨o, a⟩ := h.low; exact hk o H b2 st2 i a
theorem VwOk.get1 (h : VwOk H v b1 b2 u l st1 st2) (hg : BGetOk φ f) (i : Int) (s : Nam) : Wp (φ f [.ptr b1 0, .int .i64 i, .str s] H) fun r => r.1 = .tuple [.int .i64 (getOf st1 i s).1, .int .i64 (getOf st1 i s).2] /\ Frame NoF H r.2 := by
 obtain ⟨o, a⟩ := h.up; exact hg o H b1 st1 i s a h.k1 h.l1
theorem VwOk.get2 (h : VwOk H v b1 b2 u l st1 st2) (hg : BGetOk φ f) (i : Int) (s : Nam) : Wp (φ f [.ptr b2 0, .int .i64 i, .str s] H) fun r => r.1 = .tuple [.int .i64 (getOf st2 i s).1, .int .i64 (getOf st2 i s).2] /\ Frame NoF H r.2 := by
 obtain ⟨o, a⟩ := h.low; exact hg o H b2 st2 i s a h.k2 h.l2
def MNewOk (φ : Oracle) (f : FuncId) : Prop := ∀ (H : Heap) (b1 b2 : Nat) (u l : Int), φ f [.ptr b1 0, .ptr b2 0, .int .i64 u, .int .i64 l] H = some (.ptr H.length 0, H ++ [.row [.ptr b1 0, .ptr b2 0, .int .i64 u, .int .i64 l] false])
theorem mnew_s (H : Heap) (b1 b2 : Nat) (u l : Int) : mergeNewS cal φ N (.ptr b1 0) (.ptr b2 0) (.int .i64 u) (.int .i64 l) H = some (.ptr H.length 0, H ++ [.row [.ptr b1 0, .ptr b2 0, .int .i64 u, .int .i64 l] false]) := rfl
def VOpqOk (φ : Oracle) (f : FuncId) : Prop := ∀ (H : Heap) (v b1 b2 : Nat) (u l : Int) (st1 st2 : Brs) (U : Int), VwOk H v b1 b2 u l st1 st2 -> φ f [.ptr v 0, .int .i64 U] H = some (.bool (opq st1 U), H)
theorem vopq_s {fm : FuncId} (hm : MarksOk φ fm) (h : VwOk H v b1 b2 u l st1 st2) : MvOpaqueS cal φ N fm (.ptr v 0) (.int .i64 U) H = some (.bool (opq st1 U), H) := by
 unfold MvOpaqueS
 obtain ⟨o, a⟩ := h.up
 simp only [lchk_ptr, loff_ptr, ob_some, Nat.zero_add, h.p0, hm o H b1 st1 U a, lbin_and1, lbin_neq]
 rfl
theorem boxN {H : Heap} {U L : Int} : lbox H (nodV U L) = some (.ptr H.length 0, H ++ [.row [.int .i64 U, .int .i64 L] false]) := lbox_agg rfl
def VSideOk (φ : Oracle) (f : FuncId) : Prop := ∀ (H : Heap) (v b1 b2 : Nat) (u l : Int) (st1 st2 : Brs) (U L : Int), VwOk H v b1 b2 u l st1 st2 -> Wp (φ f [.ptr v 0, nodV U L] H) fun r => r.1 = (if U = 0 then .tuple [.ptr b2 0, .int .i64 L] else .tuple [.ptr b1 0, .int .i64 U]) /\ Frame NoF H r.2
theorem vside_s (h : VwOk H v b1 b2 u l st1 st2) : Wp (MvSideS cal φ N (.ptr v 0) (nodV U L) H) fun r => r.1 = (if U = 0 then .tuple [.ptr b2 0, .int .i64 L] else .tuple [.ptr b1 0, .int .i64 U]) /\ Frame NoF H r.2 := by
 unfold MvSideS
 rw [boxN, ob_some]
 have k : Frame NoF H (H ++ [IObj.row [.int .i64 U, .int .i64 L] false]) := Frame.push _ _ _
 have rw' : (H ++ [IObj.row [.int .i64 U, .int .i64 L] false])[H.length]? = some (.row [.int .i64 U, .int .i64 L] false) := newRow
 have h' := h.kp k
 generalize H ++ [IObj.row [.int .i64 U, .int .i64 L] false] = K at *
 have q0 : lload1 K (.ptr H.length 0) = some (.int .i64 U) := ld1 rw'
 have q1 : lload1 K (.ptr H.length 1) = some (.int .i64 L) := ld1 rw'
 simp only [loff_ptr, ob_some, Nat.zero_add, q0, q1, lbin_neq, lchk_ptr, h'.p0, h'.p1]
 refine Wp.ndec (fun hU => ?_) (fun hU => ?_)
 ·rw [if_neg hU]; exact Wp.ret ⟨rfl, k⟩
 ·rw [if_pos hU]; exact Wp.ret ⟨rfl, k⟩
def VKindOk (φ : Oracle) (f : FuncId) : Prop := ∀ (H : Heap) (v b1 b2 : Nat) (u l : Int) (st1 st2 : Brs) (U L : Int), VwOk H v b1 b2 u l st1 st2 -> Wp (φ f [.ptr v 0, nodV U L] H) fun r => r.1 = .int .i64 (kindV st1 st2 U L) /\ Frame NoF H r.2
theorem vkind_s {fs fk : FuncId} (hs : VSideOk φ fs) (hk : KindOk φ fk) (h : VwOk H v b1 b2 u l st1 st2) : Wp (MvKindS cal φ N fs fk (.ptr v 0) (nodV U L) H) fun r => r.1 = .int .i64 (kindV st1 st2 U L) /\ Frame NoF H r.2 := by
 unfold MvKindS
 rw [boxN, ob_some]
 have k : Frame NoF H (H ++ [IObj.row [.int .i64 U, .int .i64 L] false]) := Frame.push _ _ _
 have rw' : (H ++ [IObj.row [.int .i64 U, .int .i64 L] false])[H.length]? = some (.row [.int .i64 U, .int .i64 L] false) := newRow
 have h' := h.kp k
 generalize H ++ [IObj.row [.int .i64 U, .int .i64 L] false] = K at *
 rw [ldn (n := 2) rw' rfl, ob_some]
 refine Wp.call (hs K v b1 b2 u l st1 st2 U L h') ?_
 rintro ⟨w, K2⟩ ⟨e, k2⟩
 simp only at e k2 ⊢
 have h2 := h'.kp k2
 by_cases hU : U = 0
 ·rw [if_pos hU] at e
  subst e
  simp only [iextract_tuple, List.getElem?_cons_zero, List.getElem?_cons_succ, ob_some, h2.kd2 hk, lbin_neq]
  unfold kindV
  rw [if_pos hU]
  refine Wp.ndec (fun hn => ?_) (fun hn => ?_)
  ·rw [if_neg hn]; exact Wp.ret ⟨rfl, k.tr k2⟩
  ·rw [if_pos hn]; exact Wp.ret ⟨rfl, k.tr k2⟩
 ·rw [if_neg hU] at e
  subst e
  simp only [iextract_tuple, List.getElem?_cons_zero, List.getElem?_cons_succ, ob_some, h2.kd1 hk, lbin_neq]
  unfold kindV
  rw [if_neg hU]
  refine Wp.ndec (fun hn => ?_) (fun hn => ?_)
  ·rw [if_neg hn]; exact Wp.ret ⟨rfl, k.tr k2⟩
  ·rw [if_pos hn]; exact Wp.ret ⟨rfl, k.tr k2⟩
def VDirOk (φ : Oracle) (f : FuncId) : Prop := ∀ (H : Heap) (v b1 b2 : Nat) (u l : Int) (st1 st2 : Brs) (U L : Int), VwOk H v b1 b2 u l st1 st2 -> Wp (φ f [.ptr v 0, nodV U L] H) fun r => r.1 = .int .i64 (dirE st1 st2 U L) /\ Frame NoF H r.2
theorem vdir_s {fk : FuncId} (hk : VKindOk φ fk) (h : VwOk H v b1 b2 u l st1 st2) : Wp (MvDirS cal φ N fk (.ptr v 0) (nodV U L) H) fun r => r.1 = .int .i64 (dirE st1 st2 U L) /\ Frame NoF H r.2 := by
 unfold MvDirS
 rw [boxN, ob_some]
 have k : Frame NoF H (H ++ [IObj.row [.int .i64 U, .int .i64 L] false]) := Frame.push _ _ _
 have rw' : (H ++ [IObj.row [.int .i64 U, .int .i64 L] false])[H.length]? = some (.row [.int .i64 U, .int .i64 L] false) := newRow
 have h' := h.kp k
 generalize H ++ [IObj.row [.int .i64 U, .int .i64 L] false] = K at *
 rw [ldn (n := 2) rw' rfl, ob_some]
 refine Wp.call (hk K v b1 b2 u l st1 st2 U L h') ?_
 rintro ⟨w, K2⟩ ⟨rfl, k2⟩
 simp only
 unfold dirE
 rw [lbin_eql, ob_some]
 refine Wp.dec (fun hn => ?_) (fun hn => ?_)
 ·rw [if_pos hn]; exact Wp.ret ⟨rfl, k.tr k2⟩
 ·rw [if_neg hn, lbin_eql, ob_some]
  refine Wp.dec (fun hn => ?_) (fun hn => ?_)
  ·rw [if_pos hn]; exact Wp.ret ⟨rfl, k.tr k2⟩
  ·rw [if_neg hn]; exact Wp.ret ⟨rfl, k.tr k2⟩
def VBelOk (φ : Oracle) (f : FuncId) : Prop := ∀ (H : Heap) (v b1 b2 : Nat) (u l : Int) (st1 st2 : Brs) (U L : Int) (s : Nam), VwOk H v b1 b2 u l st1 st2 -> Wp (φ f [.ptr v 0, nodV U L, .str s] H) fun r => r.1 = .int .i64 (belV st1 st2 U L s) /\ Frame NoF H r.2
theorem vbel_s {fo fg : FuncId} (ho : VOpqOk φ fo) (hg : BGetOk φ fg) (h : VwOk H v b1 b2 u l st1 st2) : Wp (MvBelowS cal φ N fo fg (.ptr v 0) (nodV U L) (.str s) H) fun r => r.1 = .int .i64 (belV st1 st2 U L s) /\ Frame NoF H r.2 := by
 unfold MvBelowS
 rw [boxN, ob_some]
 have k : Frame NoF H (H ++ [IObj.row [.int .i64 U, .int .i64 L] false]) := Frame.push _ _ _
 have rw' : (H ++ [IObj.row [.int .i64 U, .int .i64 L] false])[H.length]? = some (.row [.int .i64 U, .int .i64 L] false) := newRow
 have h' := h.kp k
 generalize H ++ [IObj.row [.int .i64 U, .int .i64 L] false] = K at *
 have q0 : lload1 K (.ptr H.length 0) = some (.int .i64 U) := ld1 rw'
 have q1 : lload1 K (.ptr H.length 1) = some (.int .i64 L) := ld1 rw'
 have get : Wp (ob (φ fg [.ptr b2 0, .int .i64 L, .str s] K) fun r20 =>
  ob (iextract r20.1 0) fun t21 =>
  ob (iextract r20.1 1) fun t22 =>
  some (t21, r20.2)) fun r => r.1 = .int .i64 (getOf st2 L s).1 /\ Frame NoF H r.2 := by
  refine Wp.call (h'.get2 hg L s) ?_
  rintro ⟨w, K2⟩ ⟨rfl, k2⟩
  exact Wp.ret ⟨rfl, k.tr k2⟩
 unfold belV
 simp only [loff_ptr, ob_some, Nat.zero_add, q0, q1, lbin_eql]
 by_cases hL : L = 0
 ·rw [decide_eq_true hL, if_pos hL]
  have hut : isB (.tuple []) true = false := rfl
  simp only [isB_tf, gq_false, ge_false, ob_some, lpick_true, cnd_true, hut]
  exact Wp.ret ⟨rfl, k⟩
 ·rw [decide_eq_false hL, if_neg hL]
  simp only [isB_ff, gq_true, ob_some, q0, q1, lbin_neq]
  by_cases hU : U = 0
  ·rw [decide_eq_true hU, if_pos hU]
   simp only [Bool.not_true, isB_ft, gq_false, ge_false, ob_some, lpick_false, cnd_false, lchk_ptr, loff_ptr, Nat.zero_add, h'.p1, q1]
   exact get
  ·rw [decide_eq_false hU, if_neg hU]
   simp only [Bool.not_false, isB_tt, gq_true, ge_true, ob_some, q0, ho K v b1 b2 u l st1 st2 U h', lpick_true, lpick_false]
   cases opq st1 U with
   | true => rw [cnd_true, if_pos rfl]; exact Wp.ret ⟨rfl, k⟩
   | false =>
    rw [cnd_false, if_neg (by decide)]
    simp only [lchk_ptr, loff_ptr, ob_some, Nat.zero_add, h'.p1, q1]
    exact get
end
end Go.Shade
namespace Go.Shade
section
variable {cal : FuncId -> Bool} {φ : Oracle} {N : Nat}
variable {H H' : Heap} {v b1 b2 : Nat} {u l : Int} {st1 st2 : Brs} {U L : Int} {s : Nam}
def getR (x : (Int × Int) × Int) : IV := .tuple [nodV x.1.1 x.1.2, .int .i64 x.2]
def VGetOk (φ : Oracle) (f : FuncId) : Prop := ∀ (H : Heap) (v b1 b2 : Nat) (u l : Int) (st1 st2 : Brs) (U L : Int) (s : Nam), VwOk H v b1 b2 u l st1 st2 -> Wp (φ f [.ptr v 0, nodV U L, .str s] H) fun r => r.1 = getR (getV st1 st2 U L s) /\ Frame NoF H r.2
theorem vget_s {fd fb fg fk fo : FuncId} (hd : VDirOk φ fd) (hb : VBelOk φ fb) (hg : BGetOk φ fg) (hk : KindOk φ fk) (ho : VOpqOk φ fo) (h : VwOk H v b1 b2 u l st1 st2) : Wp (MvGetS cal φ N fd fb fg fk fo (.ptr v 0) (nodV U L) (.str s) H) fun r => r.1 = getR (getV st1 st2 U L s) /\ Frame NoF H r.2 := by
 unfold MvGetS
 rw [boxN, ob_some, lzbox_eq, ob_some]
 simp only [cells_agg]
 have k0 : Frame NoF H (H ++ [IObj.row [.int .i64 U, .int .i64 L] false]) := Frame.push _ _ _
 have ra0 : (H ++ [IObj.row [.int .i64 U, .int .i64 L] false])[H.length]? = some (.row [.int .i64 U, .int .i64 L] false) := newRow
 have l0 : (H ++ [IObj.row [.int .i64 U, .int .i64 L] false]).length = H.length + 1 := by simp
 generalize H ++ [IObj.row [.int .i64 U, .int .i64 L] false] = K0 at *
 have k1 : Frame NoF K0 (K0 ++ [IObj.row [.int .i64 0, .int .i64 0] false]) := Frame.push _ _ _
 have rc : (K0 ++ [IObj.row [.int .i64 0, .int .i64 0] false])[K0.length]? = some (.row [.int .i64 0, .int .i64 0] false) := newRow
 have ra := k1.get (fun h => h) ra0
 have kH := k0.tr k1
 generalize K0 ++ [IObj.row [.int .i64 0, .int .i64 0] false] = K at *
 generalize hc : K0.length = c at *
 have hV := h.kp kH
 have lse : ∀ {K2 : Heap} (x y e : Int), Frame NoF K K2 -> Wp (ob (lstV K2 2 (.ptr c 0) (.agg [.int .i64 x, .int .i64 y])) fun r7 =>
   ob (lloadn r7.2 2 (.ptr c 0)) fun t8 =>
   some ((IV.tuple [t8, .int .i64 e]), r7.2)) fun r => r.1 = .tuple [nodV x y, .int .i64 e] /\ Frame NoF H r.2 := by
  intro K2 x y e kf
  rw [stn (n := 2) (kf.get (fun h => h) rc) rfl rfl rfl, ob_some]
  simp only
  rw [ldn (n := 2) (setAt (kf.get (fun h => h) rc)) rfl, ob_some]
  exact Wp.ret ⟨rfl, (kH.tr kf).setNew _ (by omega)⟩
 have b0 : lbld [(.int .i64 0), (.int .i64 0)] [] = some (.agg [.int .i64 0, .int .i64 0]) := rfl
 have bU : ∀ x : Int, lbld [(.int .i64 0), (.int .i64 0)] [(0, 1, .int .i64 x)] = some (.agg [.int .i64 x, .int .i64 0]) := fun x => rfl
 have bL : ∀ x : Int, lbld [(.int .i64 0), (.int .i64 0)] [(1, 1, .int .i64 x)] = some (.agg [.int .i64 0, .int .i64 x]) := fun x => rfl
 have bUL : ∀ x y : Int, lbld [(.int .i64 0), (.int .i64 0)] [(0, 1, .int .i64 x), (1, 1, .int .i64 y)] = some (.agg [.int .i64 x, .int .i64 y]) := fun x y => rfl
 rw [ldn (n := 2) ra rfl, ob_some]
 refine Wp.call (hd K v b1 b2 u l st1 st2 U L hV) ?_
 rintro ⟨w, K2⟩ ⟨rfl, k2⟩
 simp only at k2 ⊢
 unfold getV
 rw [lbin_neq, ob_some]
 refine Wp.ndec (fun hn => ?_) (fun hn => ?_)
 ·rw [if_neg hn, b0, ob_some]
  exact lse 0 0 _ k2
 rw [if_pos hn, ldn (n := 2) (k2.get (fun h => h) ra) rfl, ob_some]
 refine Wp.call (hb K2 v b1 b2 u l st1 st2 U L s (hV.kp k2)) ?_
 rintro ⟨w, K3⟩ ⟨rfl, k3⟩
 simp only at k3 ⊢
 have kf := k2.tr k3
 have hV3 := hV.kp kf
 have ra3 := kf.get (fun h => h) ra
 generalize belV st1 st2 U L s = bv at *
 have q0 : lload1 K3 (.ptr H.length 0) = some (.int .i64 U) := ld1 ra3
 have low : ∀ {K4 : Heap}, Frame NoF K K4 -> Wp (ob (lchk (.ptr v 0)) fun t31 =>
  ob (loff t31 1) fun t32 =>
  ob (lload1 K4 t32) fun t33 =>
  ob (φ fk [t33, (.int .i64 bv)] K4) fun r34 =>
  ob (lbin .eql r34.1 (.int .i64 0)) fun t35 =>
  ob (gq (isB t35 false) (some (.ptr v 0))) fun t36 =>
  ob (gq (isB t35 false) (lchk t36)) fun t37 =>
  ob (gq (isB t35 false) (loff t37 1)) fun t38 =>
  ob (gq (isB t35 false) (lload1 r34.2 t38)) fun t39 =>
  ob (gq (isB t35 false) (some (.int .i64 bv))) fun t40 =>
  ob (ge (isB t35 false) r34.2 (φ fk [t39, t40] r34.2)) fun r41 =>
  ob (gq (isB t35 false) (lbin .eql r41.1 (.int .i64 4))) fun t42 =>
  ob (lpick t35 (.bool true) t42) fun t43 =>
  cnd t43
  (ob (lbld [(.int .i64 0), (.int .i64 0)] []) fun t44 =>
  ob (lstV r41.2 2 (.ptr c 0) t44) fun r45 =>
  ob (lloadn r45.2 2 (.ptr c 0)) fun t46 =>
  some ((IV.tuple [t46, (.int .i64 2)]), r45.2))
  (ob (lbld [(.int .i64 0), (.int .i64 0)] [(1, 1, (.int .i64 bv))]) fun t47 =>
  ob (lstV r41.2 2 (.ptr c 0) t47) fun r48 =>
  ob (lloadn r48.2 2 (.ptr c 0)) fun t49 =>
  some ((IV.tuple [t49, (.int .i64 0)]), r48.2))) fun r => r.1 = getR (lowV st2 bv) /\ Frame NoF H r.2 := by
  intro K4 k4
  have hV4 := hV.kp k4
  unfold lowV
  simp only [lchk_ptr, loff_ptr, ob_some, Nat.zero_add, hV4.p1, hV4.kd2 hk, lbin_eql]
  by_cases hz : kindOf st2 bv = 0
  ·rw [decide_eq_true hz, if_pos hz]
   simp only [isB_tf, gq_false, ge_false, ob_some, lpick_true, cnd_true, b0]
   exact lse 0 0 2 k4
  ·rw [decide_eq_false hz, if_neg hz]
   simp only [isB_ff, gq_true, ge_true, ob_some, lchk_ptr, loff_ptr, Nat.zero_add, hV4.p1, hV4.kd2 hk, lbin_eql, lpick_false]
   refine Wp.dec (fun h4 => ?_) (fun h4 => ?_)
   ·rw [if_pos h4, b0, ob_some]; exact lse 0 0 2 k4
   ·rw [if_neg h4, bL, ob_some]; exact lse 0 bv 0 k4
 rw [jn_eq]
 simp only [loff_ptr, ob_some, Nat.zero_add, q0, lbin_neq]
 refine Wp.ndec (fun hU => ?_) (fun hU => ?_)
 ·rw [if_neg hU]
  have hp0 : lload1 K3 (.ptr v 0) = some (.ptr b1 0) := hV3.p0
  simp only [lchk_ptr, loff_ptr, ob_some, Nat.zero_add, hp0, q0]
  refine Wp.call (hV3.get1 hg U s) ?_
  rintro ⟨w, K4⟩ ⟨rfl, k4⟩
  simp only at k4 ⊢
  have kf4 := kf.tr k4
  have hV4 := hV.kp kf4
  generalize getOf st1 U s = g at *
  obtain ⟨x, e⟩ := g
  simp only [iextract_tuple, List.getElem?_cons_zero, List.getElem?_cons_succ, ob_some, lbin_eql]
  refine Wp.dec (fun he => ?_) (fun he => ?_)
  ·rw [if_pos he]
   simp only [lchk_ptr, loff_ptr, ob_some, Nat.zero_add, hV4.p0, hV4.kd1 hk, lbin_eql]
   refine Wp.dec (fun h4 => ?_) (fun h4 => ?_)
   ·rw [if_pos h4, b0, ob_some]; exact lse 0 0 2 kf4
   ·rw [if_neg h4]
    unfold bothV
    by_cases h2 : kindOf st1 x = 2
    ·rw [decide_eq_true h2, if_pos h2]
     simp only [isB_tt, gq_true, ge_true, ob_some, ho K4 v b1 b2 u l st1 st2 x hV4, iun_not, lpick_true]
     cases opq st1 x with
     | true =>
      simp only [Bool.not_true, isB_ft, gq_false, ge_false, ob_some, lpick_false, cnd_false, if_true, bU]
      exact lse x 0 0 kf4
     | false =>
      simp only [Bool.not_false, isB_tt, gq_true, ge_true, ob_some, lchk_ptr, loff_ptr, Nat.zero_add, hV4.p1, hV4.kd2 hk, lbin_eql, lpick_true]
      rw [if_neg (by decide)]
      refine Wp.dec (fun h3 => ?_) (fun h3 => ?_)
      ·rw [if_pos h3, bUL, ob_some]; exact lse x bv 0 kf4
      ·rw [if_neg h3, bU, ob_some]; exact lse x 0 0 kf4
    ·rw [decide_eq_false h2, if_neg h2]
     simp only [isB_ft, gq_false, ge_false, ob_some, lpick_false, cnd_false, bU]
     exact lse x 0 0 kf4
  ·rw [if_neg he]
   exact low kf4
 ·rw [if_pos hU]
  exact low kf
def VRootOk (φ : Oracle) (f : FuncId) : Prop := ∀ (H : Heap) (v b1 b2 : Nat) (u l : Int) (st1 st2 : Brs), VwOk H v b1 b2 u l st1 st2 -> Wp (φ f [.ptr v 0] H) fun r => r.1 = nodV (rootU st1 u) (rootL st1 st2 u l) /\ Frame NoF H r.2
theorem vroot_s {fk fo : FuncId} (hk : KindOk φ fk) (ho : VOpqOk φ fo) (h : VwOk H v b1 b2 u l st1 st2) : Wp (MvRootS cal φ N fk fo (.ptr v 0) H) fun r => r.1 = nodV (rootU st1 u) (rootL st1 st2 u l) /\ Frame NoF H r.2 := by
 unfold MvRootS
 rw [lzbox_eq, ob_some, lzbox_eq, ob_some]
 simp only [cells_agg]
 have k0 : Frame NoF H (H ++ [IObj.row [.int .i64 0, .int .i64 0] false]) := Frame.push _ _ _
 have ra0 : (H ++ [IObj.row [.int .i64 0, .int .i64 0] false])[H.length]? = some (.row [.int .i64 0, .int .i64 0] false) := newRow
 have l0 : (H ++ [IObj.row [.int .i64 0, .int .i64 0] false]).length = H.length + 1 := by simp
 generalize H ++ [IObj.row [.int .i64 0, .int .i64 0] false] = K0 at *
 have k1 : Frame NoF K0 (K0 ++ [IObj.row [.int .i64 0, .int .i64 0] false]) := Frame.push _ _ _
 have rc : (K0 ++ [IObj.row [.int .i64 0, .int .i64 0] false])[K0.length]? = some (.row [.int .i64 0, .int .i64 0] false) := newRow
 have ra := k1.get (fun h => h) ra0
 have kH := k0.tr k1
 generalize K0 ++ [IObj.row [.int .i64 0, .int .i64 0] false] = K at *
 generalize hc : K0.length = c at *
 have hV := h.kp kH
 simp only [jn_eq, lchk_ptr, loff_ptr, ob_some, Nat.zero_add, hV.p0, hV.p2, hV.kd1 hk, lbin_eql]
 have fin : ∀ (K2 : Heap) (x y : Int), Frame NoF H K2 -> K2[c]? = some (.row [.int .i64 x, .int .i64 y] false) -> K2[H.length]? = some (.row [.int .i64 0, .int .i64 0] false) -> Wp (ob (lloadn K2 2 (.ptr c 0)) fun t45 =>
   ob (lstV K2 2 (.ptr H.length 0) t45) fun r46 =>
   ob (lloadn r46.2 2 (.ptr H.length 0)) fun t47 =>
   some (t47, r46.2)) fun r => r.1 = nodV x y /\ Frame NoF H r.2 := by
  intro K2 x y kf r1 r2
  rw [ldn (n := 2) r1 rfl, ob_some, stn (n := 2) r2 rfl rfl rfl, ob_some]
  simp only
  rw [ldn (n := 2) (setAt r2) rfl, ob_some]
  exact Wp.ret ⟨rfl, kf.setNew _ (by omega)⟩
 have rest : ∀ (K2 : Heap) (x : Int), x = rootU st1 u -> Frame NoF H K2 -> K2[c]? = some (.row [.int .i64 x, .int .i64 0] false) -> K2[H.length]? = some (.row [.int .i64 0, .int .i64 0] false) -> Wp (ob (lload1 K2 (.ptr v 1)) fun t50 =>
   ob (lload1 K2 (.ptr v 3)) fun t53 =>
   ob (φ fk [t50, t53] K2) fun r54 =>
   ob (lbin .eql r54.1 (.int .i64 2)) fun t55 =>
   ob (gq (isB t55 true) (some (IV.ptr c 0))) fun t56 =>
   ob (gq (isB t55 true) (lload1 r54.2 t56)) fun t57 =>
   ob (gq (isB t55 true) (lbin .eql t57 (.int .i64 0))) fun t58 =>
   ob (gq (isB t55 true) (some t58)) fun t59 =>
   ob (gq (isB t59 false) (some (IV.ptr v 0))) fun t60 =>
   ob (gq (isB t59 false) (some (IV.ptr c 0))) fun t61 =>
   ob (gq (isB t59 false) (lload1 r54.2 t61)) fun t62 =>
   ob (ge (isB t59 false) r54.2 (φ fo [t60, t62] r54.2)) fun r63 =>
   ob (gq (isB t59 false) (iun .not r63.1)) fun t64 =>
   ob (gq (isB t55 true) (lpick t59 (.bool true) t64)) fun t65 =>
   ob (lpick t55 t65 (.bool false)) fun t66 =>
   cnd t66
   (ob (lload1 r63.2 (.ptr v 3)) fun t69 =>
   ob (lstV r63.2 1 (.ptr c 1) t69) fun r71 =>
   ob (lloadn r71.2 2 (.ptr c 0)) fun t45 =>
   ob (lstV r71.2 2 (.ptr H.length 0) t45) fun r46 =>
   ob (lloadn r46.2 2 (.ptr H.length 0)) fun t47 =>
   some (t47, r46.2))
   (ob (lloadn r63.2 2 (.ptr c 0)) fun t45 =>
   ob (lstV r63.2 2 (.ptr H.length 0) t45) fun r46 =>
   ob (lloadn r46.2 2 (.ptr H.length 0)) fun t47 =>
   some (t47, r46.2))) fun r => r.1 = nodV (rootU st1 u) (rootL st1 st2 u l) /\ Frame NoF H r.2 := by
  intro K2 x hx kf r1 r2
  have h2 := h.kp kf
  have p3 : lload1 K2 (.ptr v 3) = some (.int .i64 l) := h2.p3
  have pc : lload1 K2 (.ptr c 0) = some (.int .i64 x) := ld1 r1
  have yes : Wp (ob (lload1 K2 (.ptr v 3)) fun t69 =>
   ob (lstV K2 1 (.ptr c 1) t69) fun r71 =>
   ob (lloadn r71.2 2 (.ptr c 0)) fun t45 =>
   ob (lstV r71.2 2 (.ptr H.length 0) t45) fun r46 =>
   ob (lloadn r46.2 2 (.ptr H.length 0)) fun t47 =>
   some (t47, r46.2)) fun r => r.1 = nodV x l /\ Frame NoF H r.2 := by
   rw [p3, ob_some, Go.Shade.st1 r1 (by simp only [one_int]) (by simp), ob_some]
   simp only
   exact fin _ x l (kf.setNew _ (by omega)) (by rw [setAt r1]; rfl) (by rw [List.getElem?_set_ne (by omega)]; exact r2)
  unfold rootL
  rw [← hx]
  simp only [h2.p1, p3, ob_some, h2.kd2 hk, lbin_eql]
  by_cases hz : kindOf st2 l = 2
  ·rw [decide_eq_true hz, if_pos hz]
   simp only [isB_tt, gq_true, ob_some, pc, lbin_eql]
   by_cases hx0 : x = 0
   ·rw [decide_eq_true hx0, if_pos hx0]
    simp only [isB_tf, gq_false, ge_false, ob_some, lpick_true, cnd_true]
    exact yes
   ·rw [decide_eq_false hx0, if_neg hx0]
    simp only [isB_ff, gq_true, ge_true, ob_some, pc, ho K2 v b1 b2 u l st1 st2 x h2, iun_not, lpick_false, lpick_true]
    cases opq st1 x with
    | true =>
     rw [Bool.not_true, cnd_false, if_pos rfl]
     exact fin K2 x 0 kf r1 r2
    | false =>
     rw [Bool.not_false, cnd_true, if_neg (by decide)]
     exact yes
  ·rw [decide_eq_false hz, if_neg hz]
   have hut : isB (.tuple []) false = false := rfl
   simp only [isB_ft, gq_false, ge_false, ob_some, hut, lpick_false, cnd_false]
   exact fin K2 x 0 kf r1 r2
 refine Wp.dec (fun h2 => ?_) (fun h2 => ?_)
 ·have hx : u = rootU st1 u := by unfold rootU; rw [if_pos h2]
  rw [Go.Shade.st1 rc (by simp only [one_int]) (by simp), ob_some]
  simp only
  exact rest _ u hx (kH.setNew _ (by omega)) (by rw [setAt rc]; rfl) (by rw [List.getElem?_set_ne (by omega)]; exact ra)
 ·have hx : (0 : Int) = rootU st1 u := by unfold rootU; rw [if_neg h2]
  exact rest K 0 hx kH rc ra
end
end Go.Shade
namespace Go.Shade
def BsCutL0 : LC :=
 (.seq (.reg [
  ⟨(some 23), (.nxt (.t 22)), none⟩,
  ⟨(some 24), (.ext (.t 23) 0), none⟩])
 (.seq (.cond (.t 24) .skip (.exit 1))
 (.block 2 (.seq (.reg [
  ⟨(some 25), (.ent (.t 22)), none⟩,
  ⟨(some 26), (.ext (.t 25) 0), none⟩,
  ⟨(some 27), (.ext (.t 25) 1), none⟩,
  ⟨(some 9), (.zbox (.agg [(.int .u8 0), (.int .u8 0), (.int .u8 0), (.int .u8 0), (.int .u8 0), (.int .u8 0), (.int .u8 0), (.int .u8 0), (.int .u8 0), (.int .u8 0), (.int .u8 0), (.int .u8 0), (.int .u8 0), (.int .u8 0), (.int .u8 0), (.int .u8 0)])), none⟩,
  ⟨(some 8), (.mv (.t 26)), none⟩,
  ⟨none, (.st 16 (.t 9) (.t 27)), none⟩])
 (.seq (.reg [
  ⟨(some 28), (.mv (.t 8)), none⟩,
  ⟨(some 29), (.bin .mul (.t 28) (.k (.int .i64 16))), none⟩,
  ⟨(some 10), (.mv (.t 29)), none⟩])
 (.block 3 (.seq (.reg [
  ⟨(some 31), (.mv (.t 10)), none⟩,
  ⟨(some 32), (.mv (.t 7)), none⟩,
  ⟨(some 33), (.bin .geq (.t 31) (.t 32)), none⟩,
  ⟨(some 30), (.mv (.t 33)), none⟩])
 (.cond (.t 30) (.seq (.reg [
  ⟨(some 34), (.mv (.t 1)), none⟩,
  ⟨(some 35), (.chk (.t 34)), none⟩,
  ⟨(some 36), (.off (.t 35) 1), none⟩,
  ⟨(some 37), (.ld1 (.t 36)), none⟩,
  ⟨(some 38), (.mv (.t 8)), none⟩,
  ⟨none, (.del .int (.t 37) (.t 38)), none⟩])
 (.reg [
  ⟨(some 39), (.mv (.t 0)), none⟩,
  ⟨(some 40), (.chk (.t 39)), none⟩,
  ⟨(some 41), (.off (.t 40) 1), none⟩,
  ⟨(some 42), (.ld1 (.t 41)), none⟩,
  ⟨(some 43), (.bin .sub (.t 42) (.k (.int .i64 1))), none⟩,
  ⟨(some 44), (.chk (.t 39)), none⟩,
  ⟨(some 45), (.off (.t 44) 1), none⟩,
  ⟨none, (.st 1 (.t 45) (.t 43)), none⟩])) (.seq (.reg [
  ⟨(some 47), (.mv (.t 10)), none⟩,
  ⟨(some 48), (.bin .add (.t 47) (.k (.int .i64 16))), none⟩,
  ⟨(some 49), (.mv (.t 7)), none⟩,
  ⟨(some 50), (.bin .gtr (.t 48) (.t 49)), none⟩,
  ⟨(some 46), (.mv (.t 50)), none⟩])
 (.cond (.t 46) (.seq (.reg [
  ⟨(some 51), (.mv (.t 7)), none⟩,
  ⟨(some 52), (.mv (.t 10)), none⟩,
  ⟨(some 53), (.bin .sub (.t 51) (.t 52)), none⟩,
  ⟨(some 54), (.slc (.arr 16 1) (.t 9) (some (.t 53)) none none), none⟩,
  ⟨none, (.clrS [(.int .u8 0)] (.t 54)), none⟩])
 (.drw [
  ⟨(some 55), (.mv (.t 1)), none⟩,
  ⟨(some 56), (.chk (.t 55)), none⟩,
  ⟨(some 57), (.off (.t 56) 1), none⟩,
  ⟨(some 58), (.ld1 (.t 57)), none⟩,
  ⟨(some 59), (.mv (.t 8)), none⟩,
  ⟨(some 60), (.ldn 16 (.t 9)), none⟩,
  ⟨none, (.upd .int (.t 58) (.t 59) (.t 60)), none⟩] [])) .skip))))))))))
def BsCut : LFun := ⟨(.seq (.reg [
  ⟨(some 6), (.mv (.k (.int .i64 0))), none⟩])
 (.seq (.block 0 (.seq (.reg [
  ⟨(some 12), (.mv (.t 2)), none⟩,
  ⟨(some 13), (.bin .lss (.t 12) (.k (.int .i64 0))), none⟩,
  ⟨(some 11), (.mv (.t 13)), none⟩])
 (.cond (.t 11) (.seq (.reg [
  ⟨(some 6), (.mv (.k (.int .i64 22))), none⟩])
 .ret) (.seq (.reg [
  ⟨(some 15), (.mv (.t 2)), none⟩,
  ⟨(some 16), (.bin .gtr (.t 15) (.k (.int .i64 65536))), none⟩,
  ⟨(some 14), (.mv (.t 16)), none⟩])
 (.cond (.t 14) (.seq (.reg [
  ⟨(some 6), (.mv (.k (.int .i64 27))), none⟩])
 .ret) .skip)))))
 (.seq (.reg [
  ⟨(some 17), (.mv (.t 2)), none⟩,
  ⟨(some 7), (.mv (.t 17)), none⟩])
 (.seq (.seq (.reg [
  ⟨(some 18), (.mv (.t 1)), none⟩,
  ⟨(some 19), (.chk (.t 18)), none⟩,
  ⟨(some 20), (.off (.t 19) 1), none⟩,
  ⟨(some 21), (.ld1 (.t 20)), none⟩,
  ⟨(some 22), (.rng (.t 21)), none⟩])
 (.block 1 (.loop BsCutL0)))
 (.seq (.reg [
  ⟨(some 61), (.mv (.t 1)), none⟩,
  ⟨(some 62), (.mv (.t 7)), none⟩,
  ⟨(some 63), (.chk (.t 61)), none⟩,
  ⟨(some 64), (.off (.t 63) 0), none⟩,
  ⟨none, (.st 1 (.t 64) (.t 62)), none⟩])
 (.seq (.reg [
  ⟨(some 6), (.mv (.k (.int .i64 0))), none⟩])
 .ret)))))), [(.tmp 6)], 65⟩
end Go.Shade
namespace Go.Shade
variable {k : KT (IV × Heap)}
def BsCutXC0 : LC := .seq (.reg [
  ⟨(some 6), (.mv (.k (.int .i64 0))), none⟩]) (.seq (.block 0 (.seq (.reg [
  ⟨(some 12), (.mv (.t 2)), none⟩,
  ⟨(some 13), (.bin .lss (.t 12) (.k (.int .i64 0))), none⟩,
  ⟨(some 11), (.mv (.t 13)), none⟩])
 (.cond (.t 11) (.seq (.reg [
  ⟨(some 6), (.mv (.k (.int .i64 22))), none⟩])
 .ret)
 (.seq (.reg [
  ⟨(some 15), (.mv (.t 2)), none⟩,
  ⟨(some 16), (.bin .gtr (.t 15) (.k (.int .i64 65536))), none⟩,
  ⟨(some 14), (.mv (.t 16)), none⟩])
 (.cond (.t 14) (.seq (.reg [
  ⟨(some 6), (.mv (.k (.int .i64 27))), none⟩])
 .ret)
 .skip)))))
 (.reg [
  ⟨(some 17), (.mv (.t 2)), none⟩,
  ⟨(some 7), (.mv (.t 17)), none⟩]))
def BsCutXC1 : LC := .seq (.reg [
  ⟨(some 25), (.ent (.t 22)), none⟩,
  ⟨(some 26), (.ext (.t 25) 0), none⟩,
  ⟨(some 27), (.ext (.t 25) 1), none⟩,
  ⟨(some 9), (.zbox (.agg [(.int .u8 0), (.int .u8 0), (.int .u8 0), (.int .u8 0), (.int .u8 0), (.int .u8 0), (.int .u8 0), (.int .u8 0), (.int .u8 0), (.int .u8 0), (.int .u8 0), (.int .u8 0), (.int .u8 0), (.int .u8 0), (.int .u8 0), (.int .u8 0)])), none⟩,
  ⟨(some 8), (.mv (.t 26)), none⟩,
  ⟨none, (.st 16 (.t 9) (.t 27)), none⟩]) (.seq (.reg [
  ⟨(some 28), (.mv (.t 8)), none⟩,
  ⟨(some 29), (.bin .mul (.t 28) (.k (.int .i64 16))), none⟩,
  ⟨(some 10), (.mv (.t 29)), none⟩])
 (.block 3 (.seq (.reg [
  ⟨(some 31), (.mv (.t 10)), none⟩,
  ⟨(some 32), (.mv (.t 7)), none⟩,
  ⟨(some 33), (.bin .geq (.t 31) (.t 32)), none⟩,
  ⟨(some 30), (.mv (.t 33)), none⟩])
 (.cond (.t 30) (.seq (.reg [
  ⟨(some 34), (.mv (.t 1)), none⟩,
  ⟨(some 35), (.chk (.t 34)), none⟩,
  ⟨(some 36), (.off (.t 35) 1), none⟩,
  ⟨(some 37), (.ld1 (.t 36)), none⟩,
  ⟨(some 38), (.mv (.t 8)), none⟩,
  ⟨none, (.del .int (.t 37) (.t 38)), none⟩])
 (.reg [
  ⟨(some 39), (.mv (.t 0)), none⟩,
  ⟨(some 40), (.chk (.t 39)), none⟩,
  ⟨(some 41), (.off (.t 40) 1), none⟩,
  ⟨(some 42), (.ld1 (.t 41)), none⟩,
  ⟨(some 43), (.bin .sub (.t 42) (.k (.int .i64 1))), none⟩,
  ⟨(some 44), (.chk (.t 39)), none⟩,
  ⟨(some 45), (.off (.t 44) 1), none⟩,
  ⟨none, (.st 1 (.t 45) (.t 43)), none⟩]))
 (.seq (.reg [
  ⟨(some 47), (.mv (.t 10)), none⟩,
  ⟨(some 48), (.bin .add (.t 47) (.k (.int .i64 16))), none⟩,
  ⟨(some 49), (.mv (.t 7)), none⟩,
  ⟨(some 50), (.bin .gtr (.t 48) (.t 49)), none⟩,
  ⟨(some 46), (.mv (.t 50)), none⟩])
 (.cond (.t 46) (.seq (.reg [
  ⟨(some 51), (.mv (.t 7)), none⟩,
  ⟨(some 52), (.mv (.t 10)), none⟩,
  ⟨(some 53), (.bin .sub (.t 51) (.t 52)), none⟩,
  ⟨(some 54), (.slc (.arr 16 1) (.t 9) (some (.t 53)) none none), none⟩,
  ⟨none, (.clrS [(.int .u8 0)] (.t 54)), none⟩])
 (.drw [
  ⟨(some 55), (.mv (.t 1)), none⟩,
  ⟨(some 56), (.chk (.t 55)), none⟩,
  ⟨(some 57), (.off (.t 56) 1), none⟩,
  ⟨(some 58), (.ld1 (.t 57)), none⟩,
  ⟨(some 59), (.mv (.t 8)), none⟩,
  ⟨(some 60), (.ldn 16 (.t 9)), none⟩,
  ⟨none, (.upd .int (.t 58) (.t 59) (.t 60)), none⟩] []))
 .skip))))))
def BsCutXC2 : LC := .seq (.reg [
  ⟨(some 61), (.mv (.t 1)), none⟩,
  ⟨(some 62), (.mv (.t 7)), none⟩,
  ⟨(some 63), (.chk (.t 61)), none⟩,
  ⟨(some 64), (.off (.t 63) 0), none⟩,
  ⟨none, (.st 1 (.t 64) (.t 62)), none⟩]) (.seq (.reg [
  ⟨(some 6), (.mv (.k (.int .i64 0))), none⟩])
 .ret)
def BsCutXC2S (cal : FuncId -> Bool) (φ : Oracle) (N : Nat) (v0 v1 v7 v22 : IV) (H : Heap) : Option (IV × Heap) :=
  ob (lchk v1) fun t1 =>
  ob (loff t1 0) fun t2 =>
  ob (lstV H 1 t2 v7) fun r3 =>
  some ((.tuple [(.int .i64 0), v0, v1, v7, v22]), r3.2)
theorem BsCutXC2Eq (cal : FuncId -> Bool) (φ : Oracle) (N : Nat) (hR : ∀ σ H, k .ret σ H = resK [(.tmp 6), (.tmp 0), (.tmp 1), (.tmp 7), (.tmp 22)] [] σ H) : ∀ (σ : Sg) (H : Heap), lxK cal φ N BsCutXC2 σ H k = BsCutXC2S cal φ N (lk σ 0) (lk σ 1) (lk σ 7) (lk σ 22) H := by
 have hk : k = (kR (resK [(.tmp 6), (.tmp 0), (.tmp 1), (.tmp 7), (.tmp 22)] []) k) := (kR_mk hR rfl)
 intro σ H
 rw [hk]
 show lxK cal φ N (.reg [
  ⟨(some 61), (.mv (.t 1)), none⟩,
  ⟨(some 62), (.mv (.t 7)), none⟩,
  ⟨(some 63), (.chk (.t 61)), none⟩,
  ⟨(some 64), (.off (.t 63) 0), none⟩,
  ⟨none, (.st 1 (.t 64) (.t 62)), none⟩]) σ H (seqK (lxK cal φ N (.seq (.reg [
  ⟨(some 6), (.mv (.k (.int .i64 0))), none⟩])
 .ret)) (kR (resK [(.tmp 6), (.tmp 0), (.tmp 1), (.tmp 7), (.tmp 22)] []) k)) = _
 kernel_rfl
def BsCutXC1S (cal : FuncId -> Bool) (φ : Oracle) (N : Nat) (gN : IV -> IV -> IV -> IV -> Heap -> Option (IV × Heap)) (v0 v1 v7 v22 : IV) (H : Heap) : Option (IV × Heap) :=
  ob (ientry H v22) fun t1 =>
  ob (iextract t1 0) fun t2 =>
  ob (iextract t1 1) fun t3 =>
  ob (lzbox H (.agg [(.int .u8 0), (.int .u8 0), (.int .u8 0), (.int .u8 0), (.int .u8 0), (.int .u8 0), (.int .u8 0), (.int .u8 0), (.int .u8 0), (.int .u8 0), (.int .u8 0), (.int .u8 0), (.int .u8 0), (.int .u8 0), (.int .u8 0), (.int .u8 0)])) fun r4 =>
  ob (lstV r4.2 16 r4.1 t3) fun r5 =>
  ob (lbin .mul t2 (.int .i64 16)) fun t6 =>
  jn (fun (H38 : Heap) =>
  gN v0 v1 v7 v22 H38) fun J7 =>
  ob (lbin .geq t6 v7) fun t39 =>
  cnd t39
  (ob (lchk v1) fun t40 =>
  ob (loff t40 1) fun t41 =>
  ob (lload1 r5.2 t41) fun t42 =>
  ob (ldelV r5.2 .int t42 t2) fun r43 =>
  ob (lchk v0) fun t44 =>
  ob (loff t44 1) fun t45 =>
  ob (lload1 r43.2 t45) fun t46 =>
  ob (lbin .sub t46 (.int .i64 1)) fun t47 =>
  ob (lchk v0) fun t48 =>
  ob (loff t48 1) fun t49 =>
  ob (lstV r43.2 1 t49 t47) fun r50 =>
  J7 r50.2)
  (ob (lbin .add t6 (.int .i64 16)) fun t51 =>
  ob (lbin .gtr t51 v7) fun t52 =>
  cnd t52
  (ob (lbin .sub v7 t6) fun t53 =>
  ob (lslice r5.2 (.arr 16 1) r4.1 (some t53) none none) fun t54 =>
  ob (lclrS r5.2 [(.int .u8 0)] t54) fun r55 =>
  ob (lchk v1) fun t56 =>
  ob (loff t56 1) fun t57 =>
  ob (lload1 r55.2 t57) fun t58 =>
  ob (lloadn r55.2 16 r4.1) fun t59 =>
  ob (lupdV r55.2 .int t58 t2 t59) fun r60 =>
  J7 r60.2)
  (J7 r5.2))
theorem BsCutXC1Eq (cal : FuncId -> Bool) (φ : Oracle) (N : Nat) (gN : IV -> IV -> IV -> IV -> Heap -> Option (IV × Heap)) (hgN : ∀ σ H, k .normal σ H = gN (lk σ 0) (lk σ 1) (lk σ 7) (lk σ 22) H) : ∀ (σ : Sg) (H : Heap), lxK cal φ N BsCutXC1 σ H k = BsCutXC1S cal φ N gN (lk σ 0) (lk σ 1) (lk σ 7) (lk σ 22) H := by
 have hk : k = (kN (fun σ H => gN (lk σ 0) (lk σ 1) (lk σ 7) (lk σ 22) H) k) := (kN_mk hgN rfl)
 intro σ H
 rw [hk]
 show lxK cal φ N (.reg [
  ⟨(some 25), (.ent (.t 22)), none⟩,
  ⟨(some 26), (.ext (.t 25) 0), none⟩,
  ⟨(some 27), (.ext (.t 25) 1), none⟩,
  ⟨(some 9), (.zbox (.agg [(.int .u8 0), (.int .u8 0), (.int .u8 0), (.int .u8 0), (.int .u8 0), (.int .u8 0), (.int .u8 0), (.int .u8 0), (.int .u8 0), (.int .u8 0), (.int .u8 0), (.int .u8 0), (.int .u8 0), (.int .u8 0), (.int .u8 0), (.int .u8 0)])), none⟩,
  ⟨(some 8), (.mv (.t 26)), none⟩,
  ⟨none, (.st 16 (.t 9) (.t 27)), none⟩]) σ H (seqK (lxK cal φ N (.seq (.reg [
  ⟨(some 28), (.mv (.t 8)), none⟩,
  ⟨(some 29), (.bin .mul (.t 28) (.k (.int .i64 16))), none⟩,
  ⟨(some 10), (.mv (.t 29)), none⟩])
 (.block 3 (.seq (.reg [
  ⟨(some 31), (.mv (.t 10)), none⟩,
  ⟨(some 32), (.mv (.t 7)), none⟩,
  ⟨(some 33), (.bin .geq (.t 31) (.t 32)), none⟩,
  ⟨(some 30), (.mv (.t 33)), none⟩])
 (.cond (.t 30) (.seq (.reg [
  ⟨(some 34), (.mv (.t 1)), none⟩,
  ⟨(some 35), (.chk (.t 34)), none⟩,
  ⟨(some 36), (.off (.t 35) 1), none⟩,
  ⟨(some 37), (.ld1 (.t 36)), none⟩,
  ⟨(some 38), (.mv (.t 8)), none⟩,
  ⟨none, (.del .int (.t 37) (.t 38)), none⟩])
 (.reg [
  ⟨(some 39), (.mv (.t 0)), none⟩,
  ⟨(some 40), (.chk (.t 39)), none⟩,
  ⟨(some 41), (.off (.t 40) 1), none⟩,
  ⟨(some 42), (.ld1 (.t 41)), none⟩,
  ⟨(some 43), (.bin .sub (.t 42) (.k (.int .i64 1))), none⟩,
  ⟨(some 44), (.chk (.t 39)), none⟩,
  ⟨(some 45), (.off (.t 44) 1), none⟩,
  ⟨none, (.st 1 (.t 45) (.t 43)), none⟩]))
 (.seq (.reg [
  ⟨(some 47), (.mv (.t 10)), none⟩,
  ⟨(some 48), (.bin .add (.t 47) (.k (.int .i64 16))), none⟩,
  ⟨(some 49), (.mv (.t 7)), none⟩,
  ⟨(some 50), (.bin .gtr (.t 48) (.t 49)), none⟩,
  ⟨(some 46), (.mv (.t 50)), none⟩])
 (.cond (.t 46) (.seq (.reg [
  ⟨(some 51), (.mv (.t 7)), none⟩,
  ⟨(some 52), (.mv (.t 10)), none⟩,
  ⟨(some 53), (.bin .sub (.t 51) (.t 52)), none⟩,
  ⟨(some 54), (.slc (.arr 16 1) (.t 9) (some (.t 53)) none none), none⟩,
  ⟨none, (.clrS [(.int .u8 0)] (.t 54)), none⟩])
 (.drw [
  ⟨(some 55), (.mv (.t 1)), none⟩,
  ⟨(some 56), (.chk (.t 55)), none⟩,
  ⟨(some 57), (.off (.t 56) 1), none⟩,
  ⟨(some 58), (.ld1 (.t 57)), none⟩,
  ⟨(some 59), (.mv (.t 8)), none⟩,
  ⟨(some 60), (.ldn 16 (.t 9)), none⟩,
  ⟨none, (.upd .int (.t 58) (.t 59) (.t 60)), none⟩] []))
 .skip))))))) (kN (fun σ H => gN (lk σ 0) (lk σ 1) (lk σ 7) (lk σ 22) H) k)) = _
 kernel_rfl
def BsCutXC0S (cal : FuncId -> Bool) (φ : Oracle) (N : Nat) (gN : IV -> IV -> IV -> IV -> Heap -> Option (IV × Heap)) (v0 v1 v2 v7 v22 : IV) (H : Heap) : Option (IV × Heap) :=
  ob (lbin .lss v2 (.int .i64 0)) fun t1 =>
  cnd t1
  (some ((.tuple [(.int .i64 22), v0, v1, v7, v22]), H))
  (ob (lbin .gtr v2 (.int .i64 65536)) fun t2 =>
  cnd t2
  (some ((.tuple [(.int .i64 27), v0, v1, v7, v22]), H))
  (gN v0 v1 v2 v22 H))
theorem BsCutXC0Eq (cal : FuncId -> Bool) (φ : Oracle) (N : Nat) (gN : IV -> IV -> IV -> IV -> Heap -> Option (IV × Heap)) (hgN : ∀ σ H, k .normal σ H = gN (lk σ 0) (lk σ 1) (lk σ 7) (lk σ 22) H) (hR : ∀ σ H, k .ret σ H = resK [(.tmp 6), (.tmp 0), (.tmp 1), (.tmp 7), (.tmp 22)] [] σ H) : ∀ (σ : Sg) (H : Heap), lxK cal φ N BsCutXC0 σ H k = BsCutXC0S cal φ N gN (lk σ 0) (lk σ 1) (lk σ 2) (lk σ 7) (lk σ 22) H := by
 have hk : k = (kN (fun σ H => gN (lk σ 0) (lk σ 1) (lk σ 7) (lk σ 22) H) (kR (resK [(.tmp 6), (.tmp 0), (.tmp 1), (.tmp 7), (.tmp 22)] []) k)) := (kN_mk hgN (kR_mk hR rfl))
 intro σ H
 rw [hk]
 show lxK cal φ N (.reg [
  ⟨(some 6), (.mv (.k (.int .i64 0))), none⟩]) σ H (seqK (lxK cal φ N (.seq (.block 0 (.seq (.reg [
  ⟨(some 12), (.mv (.t 2)), none⟩,
  ⟨(some 13), (.bin .lss (.t 12) (.k (.int .i64 0))), none⟩,
  ⟨(some 11), (.mv (.t 13)), none⟩])
 (.cond (.t 11) (.seq (.reg [
  ⟨(some 6), (.mv (.k (.int .i64 22))), none⟩])
 .ret)
 (.seq (.reg [
  ⟨(some 15), (.mv (.t 2)), none⟩,
  ⟨(some 16), (.bin .gtr (.t 15) (.k (.int .i64 65536))), none⟩,
  ⟨(some 14), (.mv (.t 16)), none⟩])
 (.cond (.t 14) (.seq (.reg [
  ⟨(some 6), (.mv (.k (.int .i64 27))), none⟩])
 .ret)
 .skip)))))
 (.reg [
  ⟨(some 17), (.mv (.t 2)), none⟩,
  ⟨(some 7), (.mv (.t 17)), none⟩]))) (kN (fun σ H => gN (lk σ 0) (lk σ 1) (lk σ 7) (lk σ 22) H) (kR (resK [(.tmp 6), (.tmp 0), (.tmp 1), (.tmp 7), (.tmp 22)] []) k))) = _
 kernel_rfl
end Go.Shade
namespace Go.Shade
open Go.RowKit
variable {H : Heap}
theorem SimW.oneOf {P : Program} {g : FuncId} {args : List IV} {H K : Heap} {r' : IV} {Q : IV -> Heap -> Prop} (h : SimW P g args H Q) (hle : H.length <= K.length)
  (hQ : ∀ r H1, Q r H1 -> r = r' /\ ∀ (i : Nat) o, K[i]? = some o -> (i < H.length /\ H[i]? = some o /\ H1[i]? = some o) ∨ (inBO K.length o = true /\ H1[i]? = some o)) (hb : inB K.length r' = true) : SimCall P g args H r' K := by
 intro B0 w0 w m us hR hA
 refine (h B0 w0 w m us hR hA).mono ?_
 rintro e w' ⟨r, H1, m', u, hq, he, hext, hR', hu⟩
 obtain ⟨rfl, hk⟩ := hQ r H1 hq
 have hk' : ∀ (i : Nat) o, K[i]? = some o -> inBO K.length o = true /\ H1[id i]? = some (renO id o) := by
  intro i o hi
  rcases hk i o hi with ⟨h1, h2, h3⟩ | ⟨h4, h5⟩
  ·have hb := inBO_le hle ((hR.good i o h2).inBO hR.dom)
   exact ⟨hb, by rw [renO_id (n := K.length) (f := id) (fun _ _ => rfl) hb]; exact h3⟩
  ·exact ⟨h4, by rw [renO_id (n := K.length) (f := id) (fun _ _ => rfl) h4]; exact h5⟩
 refine ⟨Shade.sub K.length id m', u, he, fun i l hi => ?_, hR'.gc id hk' (fun _ _ _ _ h => h), VR_ren r u hb (by rw [ren_id (n := K.length) (f := id) (fun _ _ => rfl) _ hb]; exact hu)⟩
 have hlt := hR.dom i l hi
 simp only [Shade.sub, if_pos (Nat.lt_of_lt_of_le hlt hle)]
 exact hext i l hi
structure CutH (H0 H : Heap) (s p m : Nat) (room used sz : Int) (n0 c : Nat) (es : List Ent) : Prop where
 st : H[s]? = some (.row [.int .i64 room, .int .i64 (IntKind.wrap .i64 (used - ((n0 - es.length : Nat) : Int)))] false)
 bd : H[p]? = some (.row [.int .i64 sz, .map m] false)
 mp : H[m]? = some (.map es c)
 ne : s ≠ p /\ m ≠ s /\ m ≠ p
 lt : s < H0.length /\ p < H0.length /\ m < H0.length
 old : H0.length <= H.length /\ ∀ i, i < H0.length -> i ≠ s -> i ≠ m -> H[i]? = H0[i]?
theorem cut_nxt {I m c : Nat} {es : List Ent} {seen : List Nat} (hI : H[I]? = some (.iter (some m) c seen c)) (hM : H[m]? = some (.map es c)) (hc : ChOk es c) (hs : ∀ e ∈ es, e.2.2 ∉ seen) :
  ∃ l, stNxt H (.ptr I 0) = some l /\ ∀ r ∈ l, (es = [] /\ r = (.tuple [.bool false], H)) ∨ ∃ e ∈ es, r = (.tuple [.bool true, e.1, e.2.1], H.set I (.iter (some m) c (seen ++ [e.2.2]) c)) := by
 have hbf : ∀ e ∈ es, Nat.ble c e.2.2 = false := fun e he => by
  have := hc.id e he
  cases hx : Nat.ble c e.2.2 with
  | false => rfl
  | true => have := nble hx; omega
 have hno : (!seen.isEmpty && (!es.isEmpty && es.all fun e => Nat.ble c e.2.2)) = false := by
  cases es with
  | nil => simp
  | cons e es => simp [hbf e (by simp)]
 unfold stNxt
 simp only [hI, hM]
 unfold nxtC
 rw [hno]
 refine ⟨_, rfl, fun r hr => ?_⟩
 obtain ⟨o, ho, rfl⟩ := List.mem_map.1 hr
 rcases List.mem_append.1 ho with ho | ho
 ·split at ho
  ·rename_i hemp
   rw [List.mem_singleton] at ho; subst ho
   refine .inl ⟨?_, rfl⟩
   rw [List.isEmpty_iff] at hemp
   cases es with
   | nil => rfl
   | cons e es =>
    have := List.filter_eq_nil_iff.1 hemp e (by simp)
    rw [hbf e (by simp)] at this
    have h2 := hs e (by simp)
    simp [h2] at this
  ·cases ho
 ·obtain ⟨e, he, rfl⟩ := List.mem_map.1 ho
  refine .inr ⟨e, ?_, rfl⟩
  rcases List.mem_append.1 he with he | he <;> exact (List.mem_filter.1 he).1
def gFour (a b c d : IV) (H : Heap) : Option (IV × Heap) := some (.tuple [a, b, c, d], H)
def cutRs : List LRes := [(.tmp 6), (.tmp 0), (.tmp 1), (.tmp 7), (.tmp 22)]
def cutK : KT (IV × Heap) := fun x σ H => match x with
 | .normal => gFour (lk σ 0) (lk σ 1) (lk σ 7) (lk σ 22) H
 | .ret => resK cutRs [] σ H
 | .exit _ => none
theorem cutK_nor {σ : Sg} {r : Out} (h : cutK .normal σ H = some r) : r = (.tuple [lk σ 0, lk σ 1, lk σ 7, lk σ 22], H) := by cases h; rfl
theorem cutK_ret {σ : Sg} {r : Out} (h : cutK .ret σ H = some r) : r = (.tuple [lk σ 6, lk σ 0, lk σ 1, lk σ 7, lk σ 22], H) := by cases h; rfl
theorem wrap_sub1 (x : Int) : IntKind.wrap .i64 (IntKind.wrap .i64 x - 1) = IntKind.wrap .i64 (x - 1) := by
 have h : ∀ x : Int, IntKind.wrap .i64 x = if x % 18446744073709551616 ≥ 9223372036854775808 then x % 18446744073709551616 - 18446744073709551616 else x % 18446744073709551616 := by
  intro x; unfold IntKind.wrap; simp [IntKind.bits, IntKind.signed]
 rw [h (IntKind.wrap .i64 x - 1), h x, h (x - 1)]
 split <;> split <;> split <;> omega
theorem nodup_inj {α β : Type} {f : α -> β} : ∀ {l : List α}, (l.map f).Nodup -> ∀ {a b : α}, a ∈ l -> b ∈ l -> f a = f b -> a = b
 | [], _, a, b, ha, _, _ => by cases ha
 | x :: l, h, a, b, ha, hb, e => by
  simp only [List.map_cons, List.nodup_cons] at h
  rcases List.mem_cons.1 ha with ea | ha'
  ·rcases List.mem_cons.1 hb with eb | hb'
   ·rw [ea, eb]
   ·exact (h.1 (List.mem_map.2 ⟨b, hb', by rw [← e, ea]⟩)).elim
  ·rcases List.mem_cons.1 hb with eb | hb'
   ·exact (h.1 (List.mem_map.2 ⟨a, ha', by rw [e, eb]⟩)).elim
   ·exact nodup_inj h.2 ha' hb' e
section
variable {cal : FuncId -> Bool} {φ : Oracle} {N : Nat}
theorem cut_b {H0 H : Heap} {s p m I n0 c : Nat} {room used sz : Int} {es : List Ent} {seen : List Nat} {e : Ent} (h : CutH H0 H s p m room used sz n0 c es) (hn : es.length <= n0) (hI : H[I]? = some (.iter (some m) c (seen ++ [e.2.2]) c)) (hIn : I = H0.length) (hc : ChOk es c) (he : e ∈ es) :
  Wp (BsCutXC1S cal φ N gFour (.ptr s 0) (.ptr p 0) (.int .i64 0) (.ptr I 0) H) fun r => r.1 = .tuple [.ptr s 0, .ptr p 0, .int .i64 0, .ptr I 0] /\ ∃ es', es'.length + 1 = es.length /\ CutH H0 r.2 s p m room used sz n0 c es' /\ ChOk es' c /\ (∀ q ∈ es', q ∈ es /\ q.2.2 ≠ e.2.2) /\ r.2[I]? = H[I]? := by
 unfold BsCutXC1S
 have hent : ientry H (.ptr I 0) = some (.tuple [e.1, e.2.1]) := by
  have hf : es.find? (fun q => Nat.beq q.2.2 e.2.2) = some e := by
   cases hq : es.find? (fun q => Nat.beq q.2.2 e.2.2) with
   | none =>
    have := List.find?_eq_none.1 hq e he
    simp at this
   | some q =>
    have hm := List.mem_of_find?_eq_some hq
    have hp := List.find?_some hq
    have hp := Nat.eq_of_beq_eq_true hp
    congr 1
    exact nodup_inj (f := fun e : Ent => e.2.2) hc.idup hm he hp
  simp only [ientry, hI, h.mp, Nat.beq_refl, if_true, List.getLast?_concat, hf, Option.map_some]
 obtain ⟨k, hk, hk0, hk1⟩ := hc.key e he
 obtain ⟨cs, hv, hl, h1⟩ := hc.val e he
 rw [hent, ob_some, iextract_tuple, iextract_tuple]
 simp only [List.getElem?_cons_zero, List.getElem?_cons_succ, ob_some, lzbox_eq, cells_agg, hv, hk]
 rw [stn (n := 16) newRow h1 hl rfl, ob_some, setRow]
 simp only
 have k1 : Frame NoF H (H ++ [IObj.row cs false]) := Frame.push _ _ _
 have st1' := k1.get (fun h => h) h.st
 have bd1 := k1.get (fun h => h) h.bd
 have mp1 := k1.get (fun h => h) h.mp
 have i1 := k1.get (fun h => h) hI
 have old1 : H0.length <= (H ++ [IObj.row cs false]).length /\ ∀ i, i < H0.length -> i ≠ s -> i ≠ m -> (H ++ [IObj.row cs false])[i]? = H0[i]? := ⟨Nat.le_trans h.old.1 k1.1, fun i a b d => by rw [← h.old.2 i a b d]; exact k1.2 i (by have := h.old.1; omega) (fun h => h)⟩
 have hIl : I < H.length := (ges hI).1
 generalize H ++ [IObj.row cs false] = K at *
 have e6 : lbin .mul (.int .i64 k) (.int .i64 16) = some (.int .i64 (k * 16)) := by rw [lbin_mul, wrap_i64 (by omega) (by omega)]
 have e7 : lload1 K (.ptr p 1) = some (.map m) := ld1 bd1
 rw [e6, ob_some, jn_eq, lbin_geq, ob_some, decide_eq_true (by omega), cnd_true]
 simp only [lchk_ptr, loff_ptr, ob_some, Nat.zero_add, e7]
 have hdel : ∃ j, es[j]? = some e /\ ldelV K .int (.map m) (.int .i64 k) = some (.tuple [], K.set m (.map (es.eraseIdx j) c)) := by
  rcases ifind_int k 0 hc.keyI with ⟨g1, g2⟩ | ⟨j, q, g1, g2, g3⟩
  ·exact absurd hk (g2 e he)
  ·have : q = e := nodup_inj (f := fun e : Ent => e.1) hc.nodup (List.mem_of_getElem? g1) he (by rw [g2, hk])
   subst this
   refine ⟨j, g1, ?_⟩
   unfold ldelV ldelete
   simp only [mp1, isLS, if_true, g3, Option.bind_some, Nat.zero_add]
 obtain ⟨j, hj, hdel⟩ := hdel
 rw [hdel, ob_some]
 simp only
 have hjl := (ges hj).1
 have hlen : (es.eraseIdx j).length + 1 = es.length := by rw [List.length_eraseIdx, if_pos hjl]; omega
 obtain ⟨n1, n2, n3⟩ := h.ne
 have km : Frame (fun i => i = m) K (K.set m (.map (es.eraseIdx j) c)) := Frame.set _ _ rfl
 have st2 := km.get (fun e => n2 e.symm) st1'
 have bd2 := km.get (fun e => n3 e.symm) bd1
 have mp2 := setAt (o' := IObj.map (es.eraseIdx j) c) mp1
 have hlt := h.lt
 have i2 := km.get (show ¬ I = m by omega) i1
 have e8 : lload1 (K.set m (.map (es.eraseIdx j) c)) (.ptr s 1) = some (.int .i64 (IntKind.wrap .i64 (used - ((n0 - es.length : Nat) : Int)))) := ld1 st2
 rw [e8, ob_some, lbin_sub, ob_some, st1 st2 (by simp only [one_int]) (by simp), ob_some, wrap_sub1]
 have ks : Frame (fun i => i = s) (K.set m (.map (es.eraseIdx j) c)) ((K.set m (.map (es.eraseIdx j) c)).set s (.row ([.int .i64 room, .int .i64 (IntKind.wrap .i64 (used - ((n0 - es.length : Nat) : Int)))].set 1 (.int .i64 (IntKind.wrap .i64 (used - ((n0 - es.length : Nat) : Int) - 1)))) false)) := Frame.set _ _ rfl
 have hmemE : ∀ q ∈ es.eraseIdx j, q ∈ es := fun q hq => List.mem_of_mem_eraseIdx hq
 have hsub : (es.eraseIdx j).Sublist es := List.eraseIdx_sublist es j
 refine Wp.ret ⟨rfl, es.eraseIdx j, hlen, ⟨?_, ks.get (fun e => n1 e.symm) bd2, ks.get n2 mp2, h.ne, h.lt, ?_⟩, ⟨fun q hq => hc.key q (hmemE q hq), fun q hq => hc.val q (hmemE q hq), fun q hq => hc.id q (hmemE q hq), hc.nodup.sublist (hsub.map _), hc.idup.sublist (hsub.map _)⟩, fun q hq => ⟨hmemE q hq, ?_⟩, ?_⟩
 ·rw [setAt st2]
  simp only [List.set_cons_succ, List.set_cons_zero]
  rw [show used - ((n0 - es.length : Nat) : Int) - 1 = used - ((n0 - (es.eraseIdx j).length : Nat) : Int) by omega]
 ·refine ⟨by simpa using old1.1, fun i a b d => ?_⟩
  simp only
  rw [List.getElem?_set_ne (fun e => b e.symm), List.getElem?_set_ne (fun e => d e.symm)]
  exact old1.2 i a b d
 ·intro e2
  obtain ⟨i, hi⟩ := List.mem_iff_getElem?.1 hq
  have hne : ∀ a b : Nat, es[a]? = some q -> es[b]? = some e -> a = b := by
   intro a b ha hb
   have la := (ges ha).1
   have lb := (ges hb).1
   have := (List.getElem_inj (xs := es.map (·.2.2)) (h₀ := by simpa using la) (h₁ := by simpa using lb) hc.idup).1 (by
    simp only [List.getElem_map, (ges ha).2, (ges hb).2]; exact e2)
   exact this
  rw [List.getElem?_eraseIdx] at hi
  split at hi
  ·have := hne _ _ hi hj; omega
  ·have := hne _ _ hi hj; omega
 ·simp only
  rw [ks.get (show ¬ I = s by omega) i2, hI]
def cutL : LC := .seq (.reg [⟨some 23, .nxt (.t 22), none⟩, ⟨some 24, .ext (.t 23) 0, none⟩]) (.seq (.cond (.t 24) .skip (.exit 1)) (.block 2 BsCutXC1))
theorem cut_loop {H0 : Heap} {s p m n0 c : Nat} {room used sz : Int} {kk : IX -> Sg -> Heap -> Prop} (hQ : ∀ σ H, lk σ 0 = .ptr s 0 -> lk σ 1 = .ptr p 0 -> lk σ 7 = .int .i64 0 -> lk σ 22 = .ptr H0.length 0 -> CutH H0 H s p m room used sz n0 c [] -> kk (.exit 1) σ H) :
  ∀ (n : Nat) (σ : Sg) (H : Heap) (es : List Ent) (seen : List Nat), es.length < n -> es.length <= n0 -> CutH H0 H s p m room used sz n0 c es -> H[H0.length]? = some (.iter (some m) c seen c) -> ChOk es c -> (∀ e ∈ es, e.2.2 ∉ seen) ->
   lk σ 0 = .ptr s 0 -> lk σ 1 = .ptr p 0 -> lk σ 7 = .int .i64 0 -> lk σ 22 = .ptr H0.length 0 -> itW (lxW cal φ N cutL) n σ H kk := by
 intro n
 induction n with
 | zero => intro σ H es seen hn; omega
 | succ n ih =>
  intro σ H es seen hn hn0 hC hI hc hs h0 h1 h7 h22
  obtain ⟨l, hl, hout⟩ := cut_nxt hI hC.mp hc hs
  simp only [itW]
  unfold cutL
  simp only [lxW, lopsW]
  refine ⟨l, by unfold lopW; simp only [lwanted, la, if_true, h22]; exact hl, fun r hr => ?_⟩
  rcases hout r hr with ⟨rfl, rfl⟩ | ⟨en, he, rfl⟩
  ·refine ⟨[(.bool false, H)], rfl, fun r hr => ?_⟩
   rw [List.mem_singleton] at hr; subst hr
   exact hQ _ _ h0 h1 h7 h22 hC
  ·refine ⟨[(.bool true, H.set H0.length (.iter (some m) c (seen ++ [en.2.2]) c))], rfl, fun r hr => ?_⟩
   rw [List.mem_singleton] at hr; subst hr
   simp only
   have hlt := hC.lt
   have k1 : Frame (fun i => i = H0.length) H (H.set H0.length (.iter (some m) c (seen ++ [en.2.2]) c)) := Frame.set _ _ rfl
   have hI1 := setAt (o' := IObj.iter (some m) c (seen ++ [en.2.2]) c) hI
   have hC1 : CutH H0 (H.set H0.length (.iter (some m) c (seen ++ [en.2.2]) c)) s p m room used sz n0 c es := ⟨k1.get (show ¬ s = H0.length by omega) hC.st, k1.get (show ¬ p = H0.length by omega) hC.bd, k1.get (show ¬ m = H0.length by omega) hC.mp, hC.ne, hC.lt, Nat.le_trans hC.old.1 k1.1, fun i a b d => by rw [← hC.old.2 i a b d]; exact k1.2 i (by have := hC.old.1; omega) (by omega)⟩
   generalize H.set H0.length (.iter (some m) c (seen ++ [en.2.2]) c) = H1 at *
   show lxW cal φ N BsCutXC1 _ H1 _
   refine lxK_W (k := cutK) (Q := fun r => r.1 = .tuple [.ptr s 0, .ptr p 0, .int .i64 0, .ptr H0.length 0] /\ ∃ es', es'.length + 1 = es.length /\ CutH H0 r.2 s p m room used sz n0 c es' /\ ChOk es' c /\ (∀ q ∈ es', q ∈ es /\ q.2.2 ≠ en.2.2) /\ r.2[H0.length]? = H1[H0.length]?) ?_ ?_
   ·rw [BsCutXC1Eq cal φ N (k := cutK) gFour (fun _ _ => rfl)]
    have a0 : ∀ v w, lk ((24, v) :: (23, w) :: σ) 0 = lk σ 0 := fun _ _ => rfl
    have a1 : ∀ v w, lk ((24, v) :: (23, w) :: σ) 1 = lk σ 1 := fun _ _ => rfl
    have a7 : ∀ v w, lk ((24, v) :: (23, w) :: σ) 7 = lk σ 7 := fun _ _ => rfl
    have a22 : ∀ v w, lk ((24, v) :: (23, w) :: σ) 22 = lk σ 22 := fun _ _ => rfl
    simp only [pput, a0, a1, a7, a22, h0, h1, h7, h22]
    exact cut_b hC1 hn0 hI1 rfl hc he
   ·rintro x σ' H' r hx ⟨hr1, es', g1, g2, g3, g4, g5⟩
    cases x with
    | exit id => cases hx
    | ret =>
     rw [cutK_ret hx] at hr1
     simp at hr1
    | normal =>
     rw [cutK_nor hx] at hr1 g2 g5
     simp only [IV.tuple.injEq, List.cons.injEq, and_true] at hr1
     obtain ⟨b0, b1, b7, b22⟩ := hr1
     simp only at g2 g5 ⊢
     refine ih σ' H' es' (seen ++ [en.2.2]) (by omega) (by omega) g2 (g5.trans hI1) g3 (fun q hq => ?_) b0 b1 b7 b22
     obtain ⟨z1, z2⟩ := g4 q hq
     intro hm
     rcases List.mem_append.1 hm with hm | hm
     ·exact hs q z1 hm
     ·exact z2 (List.mem_singleton.1 hm)
theorem cut_w {H : Heap} {s p m c : Nat} {room used sz : Int} {es : List Ent} (hN : es.length < N) (hst : H[s]? = some (.row [.int .i64 room, .int .i64 used] false)) (hwu : IntKind.wrap .i64 used = used) (hbd : H[p]? = some (.row [.int .i64 sz, .map m] false)) (hmp : H[m]? = some (.map es c)) (hne : s ≠ p /\ m ≠ s /\ m ≠ p) (hc : ChOk es c) :
  lrunW cal φ N BsCut [.ptr s 0, .ptr p 0, .int .i64 0] H fun r K => r = .int .i64 0 /\ ∃ K', CutH H K' s p m room used sz es.length c [] /\ K = K'.set p (.row [.int .i64 0, .map m] false) := by
 unfold lrunW
 have hl1 := (ges hst).1
 have hl2 := (ges hbd).1
 have hl3 := (ges hmp).1
 show lxW cal φ N (lappN 2 BsCutXC0 (.seq (.seq (.reg [⟨some 18, .mv (.t 1), none⟩, ⟨some 19, .chk (.t 18), none⟩, ⟨some 20, .off (.t 19) 1, none⟩, ⟨some 21, .ld1 (.t 20), none⟩, ⟨some 22, .rng (.t 21), none⟩]) (.block 1 (.loop cutL))) BsCutXC2)) _ H _
 refine lappN_W ?_
 show lxW cal φ N BsCutXC0 _ H _
 refine lxK_W (k := cutK) (Q := fun r => ∃ v, r = (.tuple [.ptr s 0, .ptr p 0, .int .i64 0, v], H)) ?_ ?_
 ·rw [BsCutXC0Eq cal φ N (k := cutK) gFour (fun _ _ => rfl) (fun _ _ => rfl)]
  unfold BsCutXC0S
  have e0 : lk (initFrom 0 [IV.ptr s 0, .ptr p 0, .int .i64 0]) 2 = .int .i64 0 := rfl
  have e1 : lbin .lss (.int .i64 0) (.int .i64 0) = some (.bool false) := rfl
  have e2 : lbin .gtr (.int .i64 0) (.int .i64 65536) = some (.bool false) := rfl
  rw [e0, e1, ob_some, cnd_false, e2, ob_some, cnd_false]
  exact ⟨_, rfl, _, rfl⟩
 ·rintro x σ K r hx ⟨v, rfl⟩
  cases x with
  | exit id => cases hx
  | ret =>
   have := cutK_ret hx
   simp at this
  | normal =>
   have hr := cutK_nor hx
   simp only [Prod.mk.injEq, IV.tuple.injEq, List.cons.injEq, and_true] at hr
   obtain ⟨⟨b0, b1, b7, b22⟩, rfl⟩ := hr
   simp only [lxW, lopsW]
   refine ⟨[(lk σ 1, H)], rfl, fun r hr => ?_⟩
   rw [List.mem_singleton] at hr; subst hr
   refine ⟨[(.ptr p 0, H)], lopW_q rfl (by show lchk (lk σ 1) = _; rw [← b1]; rfl), fun r hr => ?_⟩
   rw [List.mem_singleton] at hr; subst hr
   refine ⟨[(.ptr p 1, H)], rfl, fun r hr => ?_⟩
   rw [List.mem_singleton] at hr; subst hr
   refine ⟨[(.map m, H)], lopW_q rfl (ld1 hbd), fun r hr => ?_⟩
   rw [List.mem_singleton] at hr; subst hr
   have hrng : stRng H (.map m) = some (.ptr H.length 0, H ++ [.iter (some m) c [] c]) := by simp only [stRng, hmp]
   refine ⟨[(.ptr H.length 0, H ++ [.iter (some m) c [] c])], ?_, fun r hr => ?_⟩
   ·show ((stRng H (.map m)).bind fun r => some [r]) = _
    rw [hrng]; rfl
   rw [List.mem_singleton] at hr; subst hr
   simp only [pput]
   have k1 : Frame NoF H (H ++ [IObj.iter (some m) c [] c]) := Frame.push _ _ _
   have hC0 : CutH H (H ++ [.iter (some m) c [] c]) s p m room used sz es.length c es := ⟨by rw [k1.get (fun h => h) hst, Nat.sub_self]; simp only [Int.natCast_zero, Int.sub_zero, hwu], k1.get (fun h => h) hbd, k1.get (fun h => h) hmp, hne, ⟨hl1, hl2, hl3⟩, k1.1, fun i a _ _ => k1.2 i a (fun h => h)⟩
   refine cut_loop (fun σ' H' c0 c1 c7 c22 hC' => ?_) N _ _ es [] hN (Nat.le_refl _) hC0 newRow hc (fun _ _ h => by cases h) b0.symm b1.symm b7.symm rfl
   show lxW cal φ N BsCutXC2 σ' H' _
   refine lxK_W (k := fun x σ H => match x with | .ret => resK cutRs [] σ H | _ => none) (Q := fun r => r.1 = .tuple [.int .i64 0, .ptr s 0, .ptr p 0, .int .i64 0, .ptr H.length 0] /\ r.2 = H'.set p (.row [.int .i64 0, .map m] false)) ?_ ?_
   ·rw [BsCutXC2Eq cal φ N (k := fun x σ H => match x with | .ret => resK cutRs [] σ H | _ => none) (fun _ _ => rfl)]
    rw [c0, c1, c7, c22]
    unfold BsCutXC2S
    rw [lchk_ptr, ob_some, loff_ptr, ob_some, Nat.zero_add, st1 hC'.bd (by simp only [one_int]) (by simp), ob_some]
    exact ⟨_, rfl, rfl, rfl⟩
   ·rintro x σ2 H2 r hx ⟨hr1, hr2⟩
    cases x with
    | exit id => cases hx
    | normal => cases hx
    | ret =>
     have : r = (.tuple [lk σ2 6, lk σ2 0, lk σ2 1, lk σ2 7, lk σ2 22], H2) := cutK_ret hx
     rw [this] at hr1 hr2
     simp only [IV.tuple.injEq, List.cons.injEq] at hr1 hr2
     exact ⟨[lk σ2 6], rfl, hr1.1, H', hC', hr2⟩
end
theorem keysI_at : ∀ {es : List Ent}, keysI es = true -> ∀ e ∈ es, ∃ k : Int, e.1 = .int .i64 k /\ 0 <= k /\ k <= 65536
 | [], _, e, he => by cases he
 | (.int .i64 k, v, d) :: es, h, e, he => by
  simp only [keysI, Bool.and_eq_true, decide_eq_true_eq] at h
  rcases List.mem_cons.1 he with rfl | he
  ·exact ⟨k, rfl, h.1⟩
  ·exact keysI_at h.2 e he
theorem intIn_not : ∀ {es : List Ent} {k : Int}, intIn k es = false -> .int .i64 k ∉ es.map (·.1)
 | [], _, _ => by simp
 | (x, v, d) :: es, k, h => by
  simp only [List.map_cons, List.mem_cons, not_or]
  by_cases hx : ∃ j, x = .int .i64 j
  ·obtain ⟨j, rfl⟩ := hx
   simp only [intIn, Bool.or_eq_false_iff, decide_eq_false_iff_not] at h
   exact ⟨fun e => h.1 (by injection e with _ e; exact e.symm), intIn_not h.2⟩
  ·refine ⟨fun e => hx ⟨k, e.symm⟩, intIn_not (es := es) ?_⟩
   cases x with
   | int kd j =>
    cases kd with
    | i64 => exact absurd ⟨j, rfl⟩ hx
    | _ => exact h
   | _ => exact h
theorem keysD_at : ∀ {es : List Ent}, keysD es = true -> (es.map (·.1)).Nodup
 | [], _ => List.nodup_nil
 | (.int .i64 k, v, d) :: es, h => by
  simp only [keysD, Bool.and_eq_true, Bool.not_eq_true'] at h
  simp only [List.map_cons, List.nodup_cons]
  exact ⟨intIn_not h.1, keysD_at h.2⟩
theorem nodN_nd : ∀ {l : List Nat}, nodN l = true -> l.Nodup
 | [], _ => List.nodup_nil
 | i :: l, h => by
  simp only [nodN, Bool.and_eq_true, List.all_eq_true, Bool.not_eq_true'] at h
  simp only [List.nodup_cons]
  exact ⟨(fun hm => by have := h.1 i hm; rw [Nat.beq_refl] at this; exact absurd this (by simp)), nodN_nd h.2⟩
theorem sound_cutT {P : Program} {φ : Oracle} (hφ : Sound P φ) (hm : P.follows .mixedOrders = true) {f : FuncId} (hlo : LoF P f BsCut) (args : List IV) (H : Heap) (r : IV) (H' : Heap) (e : cutT args H = some (r, H')) : SimCall P f args H r H' := by
 unfold cutT at e
 split at e
 ·rename_i s p
  split at e
  ·rename_i room used sz m hst hbd
   split at e
   ·rename_i es c hmp
    split at e
    ·rename_i hc
     simp only [Bool.and_eq_true, Bool.not_eq_true', decide_eq_true_eq, List.all_eq_true] at hc
     obtain ⟨c0, c1, c2, c3, c4, c5, c6, c7, c8⟩ := hc
     cases e
     have ne : ∀ {a b : Nat}, Nat.beq a b = false -> a ≠ b := fun h e => by rw [e, Nat.beq_refl] at h; cases h
     have hval : ∀ e ∈ es, ∃ cs, e.2.1 = .agg cs /\ cs.length = 16 /\ cs.all IV.one = true := by
      intro e he
      have := c4 e he
      split at this
      ·rename_i cs hv
       simp only [Bool.and_eq_true] at this
       exact ⟨cs, hv, Nat.eq_of_beq_eq_true this.1, this.2⟩
      ·cases this
     have hid : ∀ e ∈ es, e.2.2 < c := by
      intro e he
      have := c3 e he
      have h2 : e.2.2 + 1 <= c := by simpa [Nat.blt] using this
      omega
     have hC : ChOk es c := ⟨keysI_at c1, hval, hid, keysD_at c2, nodN_nd c5⟩
     obtain ⟨⟨fn, q1, q2⟩, _⟩ := hlo
     have hW := sim_W hφ (fun _ h => h) hm q1 q2 (nble rfl) (cut_w (cal := callable P) (φ := φ) (N := es.length + 1) (by omega) hst c0 hbd hmp ⟨ne c6, ne c7, ne c8⟩ hC)
     have l1 := (ges hst).1
     have l2 := (ges hbd).1
     have l3 := (ges hmp).1
     refine hW.oneOf (by simp) (fun r H1 hq => ?_) rfl
     obtain ⟨rfl, K', hK, rfl⟩ := hq
     refine ⟨rfl, fun i o hi => ?_⟩
     have hlK : p < K'.length := (ges hK.bd).1
     by_cases e1 : i = p
     ·subst e1
      rw [List.getElem?_set_self (by simpa using l2)] at hi
      cases hi
      exact .inr ⟨by simp [inBO, inBs, inB]; exact l3, by rw [List.getElem?_set_self hlK]⟩
     ·rw [List.getElem?_set_ne (fun h => e1 h.symm)] at hi
      rw [List.getElem?_set_ne (fun h => e1 h.symm)]
      by_cases e2 : i = m
      ·subst e2
       rw [List.getElem?_set_self (by simpa using l3)] at hi
       cases hi
       exact .inr ⟨rfl, hK.mp⟩
      ·rw [List.getElem?_set_ne (fun h => e2 h.symm)] at hi
       by_cases e3 : i = s
       ·subst e3
        rw [List.getElem?_set_self l1] at hi
        cases hi
        exact .inr ⟨rfl, by rw [hK.st]; simp⟩
       ·rw [List.getElem?_set_ne (fun h => e3 h.symm)] at hi
        have hil := (ges hi).1
        exact .inl ⟨hil, hi, by rw [hK.old.2 i hil e3 e2]; exact hi⟩
    ·cases e
   ·cases e
  ·cases e
 ·cases e
end Go.Shade
