/- DESC, part 14: 'DescDoes'. -/
import Derived.Test.YtbcekfagnajooaaM4
import Derived.Test.YtbcekfagnajooaaM5
import Derived.Test.YtbcekfagnajooaaM3
namespace Go.Shade
set_option linter.unusedVariables false
set_option linter.unusedSimpArgs false
def lk2 (tab : Tab) (fd : Int) : Dsc × Int := match look tab fd with
  | some d => (d, 0)
  | none => (Dsc.zero, 9)
theorem look_bound {G : Nat → Prop} {H : Heap} {t : Nat} {tab : Tab} {fd : Int} {d : Dsc} (hT : TabOk G H t tab) (h : look tab fd = some d) : d.names.length ≤ 1000000 := by
  obtain ⟨i, rfl, hi, hti⟩ := look_lt h
  obtain ⟨cs, c, e, g1, g2, g3, g4, g5⟩ := hT.get hi
  rw [hti] at g4; cases g4
  rcases g5 with ⟨h, _⟩ | ⟨d', b, nv, h1, _, _, _, _, h5⟩
  · cases h
  · cases h1; exact h5
theorem lk2_bound {G : Nat → Prop} {H : Heap} {t : Nat} {tab : Tab} {fd : Int} (hT : TabOk G H t tab) : (lk2 tab fd).1.names.length ≤ 1000000 := by
  unfold lk2
  cases h : look tab fd with
  | none => simp [Dsc.zero]
  | some d => exact look_bound hT h
theorem zeroDV (F : Nat → Prop) (H : Heap) : DV F H (.agg (Dsc.zero.cells .nilSlice)) Dsc.zero := ⟨.nilSlice, rfl, Sl.nil _ _, At.nil⟩
theorem getRes {H : Heap} {tab : Tab} {fd : Int} {r : Out} (h : GetP H tab fd r) : Frame NoF H r.2 ∧ ∃ nv, r.1 = .tuple [.agg ((lk2 tab fd).1.cells nv), .int .i64 (lk2 tab fd).2] ∧ Buf H.length 1 r.2 nv (strs (lk2 tab fd).1.names) := by
  obtain ⟨h0, ⟨d, x, h1, h2, h3, nv, rfl, h4⟩ | ⟨h1, h2⟩⟩ := h
  · unfold lk2; rw [h1]; exact ⟨h0, nv, h2, h4⟩
  · unfold lk2; rw [h1]; exact ⟨h0, .nilSlice, h2, .inl ⟨rfl, rfl⟩⟩
theorem rgetRes {H : Heap} {tab : Tab} {fd : Int} {r : Out} (h : RGetP H tab fd r) : Frame NoF H r.2 ∧ ∃ x, r.1 = .tuple [x, .int .i64 (lk2 tab fd).2] ∧ DV (New H) r.2 x (lk2 tab fd).1 := by
  obtain ⟨h0, ⟨d, x, h1, h2, h3⟩ | ⟨h1, h2⟩⟩ := h
  · unfold lk2; rw [h1]; exact ⟨h0, x, h2, h3⟩
  · unfold lk2; rw [h1]; exact ⟨h0, _, h2, zeroDV _ _⟩
theorem closeRes {G : Nat → Prop} {H : Heap} {t : Nat} {tab : Tab} {fd : Int} {r : Out} (h : CloseP G H t tab fd r) : Frame (fun i => i = t) H r.2 ∧ (∃ x, r.1 = .tuple [x, .int .i64 (lk2 tab fd).2] ∧ DV (New H) r.2 x (lk2 tab fd).1) ∧ TabOk G r.2 t (if (look tab fd).isSome then put' tab fd none else tab) := by
  obtain ⟨h0, ⟨d, x, h1, h2, h3, h4⟩ | ⟨h1, h2, h4⟩⟩ := h
  · unfold lk2; rw [h1]; exact ⟨h0, ⟨x, h2, h3⟩, h4⟩
  · unfold lk2; rw [h1]; exact ⟨h0, ⟨_, h2, zeroDV _ _⟩, h4⟩
theorem rcloseRes {G : Nat → Prop} {H : Heap} {t : Nat} {tab : Tab} {fd : Int} {r : Out} (h : RCloseP G H t tab fd r) : Frame (fun i => i = t) H r.2 ∧ (∃ x, r.1 = .tuple [x, .int .i64 (lk2 tab fd).2] ∧ DV (New H) r.2 x (lk2 tab fd).1) ∧ RTab G r.2 t (if (look tab fd).isSome then put' tab fd none else tab) := by
  obtain ⟨h0, ⟨d, x, h1, h2, h3, h4⟩ | ⟨h1, h2, h4⟩⟩ := h
  · unfold lk2; rw [h1]; exact ⟨h0, ⟨x, h2, h3⟩, h4⟩
  · unfold lk2; rw [h1]; exact ⟨h0, ⟨_, h2, zeroDV _ _⟩, h4⟩
/-- The row of a slice. -/
def rowOf (nv : IV) : Nat → Prop := fun i => ∃ o n lb ex sz, nv = .slice i o n lb ex sz
theorem Buf.rowOf_ge {B s : Nat} {H : Heap} {v : IV} {cs : List IV} (h : Buf B s H v cs) : ∀ i, rowOf v i → B ≤ i ∧ i < H.length := by
  rintro i ⟨o, n, lb, ex, sz, rfl⟩
  rcases h with ⟨e, _⟩ | ⟨r, k, ex', e, h1, h2, _⟩
  · cases e
  · cases e; exact ⟨h1, (List.getElem?_eq_some_iff.1 h2).1⟩
/-- Both tables, told alike; rows of X are nobody's. -/
structure Both (X : Nat → Prop) (L : Nat) (H0 H : Heap) (t r : Nat) (tab : Tab) : Prop where
  fr : Frame (L ≤ ·) H0 H
  ex : ∃ G R, TabOk G H t tab ∧ RTab R H r tab ∧ ¬ G r ∧ ¬ R t ∧ ∀ i, X i → ¬ G i ∧ ¬ R i ∧ i ≠ t ∧ i ≠ r
  ne : t ≠ r
  lt : L ≤ t
  lr : L ≤ r
theorem Both.kp {X : Nat → Prop} {L : Nat} {H0 H H' : Heap} {t r : Nat} {tab : Tab} (h : Both X L H0 H t r tab) (k : Frame NoF H H') : Both X L H0 H' t r tab := by
  obtain ⟨G, R, h1, h2, h3⟩ := h.ex
  exact ⟨h.fr.tr k.no, ⟨G, R, h1.kp k, h2.kp k, h3⟩, h.ne, h.lt, h.lr⟩
/-- New rows are nobody's. -/
theorem Both.fresh {X : Nat → Prop} {L : Nat} {H0 H H' : Heap} {t r : Nat} {tab : Tab} (h : Both X L H0 H t r tab) (k : Frame NoF H H') {Y : Nat → Prop} (hY : ∀ i, Y i → X i ∨ H.length ≤ i) : Both Y L H0 H' t r tab := by
  obtain ⟨G, R, h1, h2, h3, h4, h5⟩ := h.ex
  refine ⟨h.fr.tr k.no, ⟨G, R, h1.kp k, h2.kp k, h3, h4, fun i hi => ?_⟩, h.ne, h.lt, h.lr⟩
  rcases hY i hi with hx | hx
  · exact h5 i hx
  · exact ⟨fun e => by have := h1.lt i e; omega, fun e => by have := h2.lt i e; omega, by have := h1.ltT; omega, by have := h2.ltT; omega⟩
theorem Both.mut {X Y : Nat → Prop} {L : Nat} {H0 H H' : Heap} {t r : Nat} {tab : Tab} (h : Both X L H0 H t r tab) (k : Frame Y H H') (hY : ∀ i, Y i → X i ∧ L ≤ i) : Both X L H0 H' t r tab := by
  obtain ⟨G, R, h1, h2, h3, h4, h5⟩ := h.ex
  refine ⟨h.fr.trans k fun i _ hi => (hY i hi).2, ⟨G, R, h1.frame k (fun e => (h5 _ (hY _ e).1).2.2.1 rfl) fun i hi e => (h5 _ (hY _ e).1).1 hi, h2.frame k (fun e => (h5 _ (hY _ e).1).2.2.2 rfl) fun i hi e => (h5 _ (hY _ e).1).2.1 hi, h3, h4, h5⟩, h.ne, h.lt, h.lr⟩
section
variable {cal : FuncId → Bool} {φ : Oracle} {N : Nat} {aw nw ow op rop cl rcl sm st rst gt rgt al ral it fu : FuncId}
variable (ha : ∀ H : Heap, φ aw [] H = some (.bool true, H)) (hnw : NewOk φ nw) (how : ROwnOk φ ow) (hop : OpenOk φ op) (hrop : ROpenOk φ rop) (hcl : CloseOk φ cl) (hrcl : RCloseOk φ rcl) (hsm : Same7Ok φ sm) (hst : SetOk φ st) (hrst : RSetOk φ rst) (hgt : GetOk φ gt) (hrgt : RGetOk φ rgt) (hal : AllOk φ al) (hral : RAllOk φ ral) (hit : IntsOk φ it) (hfu : FullOk φ fu)
/-- Names are overwritten. -/
theorem mut1 {B q : Nat} {d : Dsc} {nv : IV} {v0 v3 v4 v5 v6 : IV} {m : Nat} {gE : IV → IV → IV → IV → IV → Heap → Option Out} {Q : Out → Prop} {H0 : Heap} (hq : H0[q]? = some (.row (d.cells nv) false)) (hqr : ¬ rowOf nv q) (hm : m ≤ 1000000)
    (hQ : ∀ H, Frame (rowOf nv) H0 H → Wp (gE v0 v3 v4 v5 v6 H) Q) : ∀ (k i n : Nat) (H : Heap) (cs : List IV), i + k = m → k < n → Frame (rowOf nv) H0 H → Buf B 1 H nv cs → cs.length = m →
      Wp (veneerlaw07DescDoesC0S cal φ N aw nw ow op rop cl rcl sm st rst gt rgt al ral it fu gE n v0 v3 v4 v5 v6 (.ptr q 0) (.int .i64 (m : Nat)) (.int .i64 (i : Nat)) H) Q := by
  intro k
  induction k with
  | zero =>
    intro i n H cs hi hn hK hb hl
    obtain ⟨n, rfl⟩ : ∃ j, n = j + 1 := ⟨n - 1, by omega⟩
    rw [veneerlaw07DescDoesC0S, lbin_lss, ob_some, decide_eq_false (by omega), cnd_false]
    exact hQ H hK
  | succ k ih =>
    intro i n H cs hi hn hK hb hl
    obtain ⟨n, rfl⟩ : ∃ j, n = j + 1 := ⟨n - 1, by omega⟩
    rw [veneerlaw07DescDoesC0S, lbin_lss, ob_some, decide_eq_true (by omega), cnd_true]
    have hq2 := hK.get hqr hq
    have c4 : (d.cells nv)[0 + 4]? = some nv := rfl
    rw [loff_ptr, ob_some, ld1 hq2, c4, ob_some]
    rcases hb with ⟨rfl, rfl⟩ | ⟨r, j, ex, rfl, g1, g2, g3⟩
    · simp at hl; omega
    · have hj : j = m := by omega
      subst hj
      rw [lix_slice, if_pos (by omega), ob_some, Int.toNat_natCast, Nat.mul_one, Nat.zero_add, st1 g2 rfl (by omega), ob_some]
      simp only
      rw [lbin_add, ob_some, wrap_i64 (by omega) (by omega), show ((i : Nat) : Int) + 1 = ((i + 1 : Nat) : Int) by omega]
      refine ih (i + 1) n _ (cs.set i (.str [120])) (by omega) (by omega) (hK.tr (Frame.set _ _ ⟨_, _, _, _, _, rfl⟩)) (.inr ⟨r, j, ex, rfl, g1, setAt g2, by rw [List.length_set]; exact g3⟩) (by rw [List.length_set]; exact hl)
theorem mut2 {B q : Nat} {d : Dsc} {nv : IV} {v0 v3 v4 v5 : IV} {m : Nat} {gE : IV → IV → IV → IV → Heap → Option Out} {Q : Out → Prop} {H0 : Heap} (hq : H0[q]? = some (.row (d.cells nv) false)) (hqr : ¬ rowOf nv q) (hm : m ≤ 1000000)
    (hQ : ∀ H, Frame (rowOf nv) H0 H → Wp (gE v0 v3 v4 v5 H) Q) : ∀ (k i n : Nat) (H : Heap) (cs : List IV), i + k = m → k < n → Frame (rowOf nv) H0 H → Buf B 1 H nv cs → cs.length = m →
      Wp (veneerlaw07DescDoesC3S cal φ N aw nw ow op rop cl rcl sm st rst gt rgt al ral it fu gE n v0 v3 v4 v5 (.ptr q 0) (.int .i64 (m : Nat)) (.int .i64 (i : Nat)) H) Q := by
  intro k
  induction k with
  | zero =>
    intro i n H cs hi hn hK hb hl
    obtain ⟨n, rfl⟩ : ∃ j, n = j + 1 := ⟨n - 1, by omega⟩
    rw [veneerlaw07DescDoesC3S, lbin_lss, ob_some, decide_eq_false (by omega), cnd_false]
    exact hQ H hK
  | succ k ih =>
    intro i n H cs hi hn hK hb hl
    obtain ⟨n, rfl⟩ : ∃ j, n = j + 1 := ⟨n - 1, by omega⟩
    rw [veneerlaw07DescDoesC3S, lbin_lss, ob_some, decide_eq_true (by omega), cnd_true]
    have hq2 := hK.get hqr hq
    have c4 : (d.cells nv)[0 + 4]? = some nv := rfl
    rw [loff_ptr, ob_some, ld1 hq2, c4, ob_some]
    rcases hb with ⟨rfl, rfl⟩ | ⟨r, j, ex, rfl, g1, g2, g3⟩
    · simp at hl; omega
    · have hj : j = m := by omega
      subst hj
      rw [lix_slice, if_pos (by omega), ob_some, Int.toNat_natCast, Nat.mul_one, Nat.zero_add, st1 g2 rfl (by omega), ob_some]
      simp only
      rw [lbin_add, ob_some, wrap_i64 (by omega) (by omega), show ((i : Nat) : Int) + 1 = ((i + 1 : Nat) : Int) by omega]
      refine ih (i + 1) n _ (cs.set i (.str [121])) (by omega) (by omega) (hK.tr (Frame.set _ _ ⟨_, _, _, _, _, rfl⟩)) (.inr ⟨r, j, ex, rfl, g1, setAt g2, by rw [List.length_set]; exact g3⟩) (by rw [List.length_set]; exact hl)
include hgt hrgt hsm
/-- The last look: every number, and one on each side. -/
theorem does_end {L : Nat} {X : Nat → Prop} {H0 : Heap} {t r : Nat} {tab : Tab} : ∀ (k : Nat) (fd : Int) (n : Nat) (H : Heap), fd + k = 33 → -1 ≤ fd → k < n → Both X L H0 H t r tab →
    Wp (veneerlaw07DescDoesC20S cal φ N aw nw ow op rop cl rcl sm st rst gt rgt al ral it fu (fun H => some (.bool true, H)) n (.ptr t 0) (.ptr r 0) (.int .i64 fd) H) fun r => r.1 = .bool true := by
  intro k
  induction k with
  | zero =>
    intro fd n H hi h1 hn hB
    obtain ⟨n, rfl⟩ : ∃ j, n = j + 1 := ⟨n - 1, by omega⟩
    rw [veneerlaw07DescDoesC20S, lbin_leq, ob_some, decide_eq_false (by omega), cnd_false]
    exact Wp.ret rfl
  | succ k ih =>
    intro fd n H hi h1 hn hB
    obtain ⟨n, rfl⟩ : ∃ j, n = j + 1 := ⟨n - 1, by omega⟩
    rw [veneerlaw07DescDoesC20S, lbin_leq, ob_some, decide_eq_true (by omega), cnd_true]
    obtain ⟨G, R, hT, hR, _⟩ := hB.ex
    refine Wp.call (hgt G H t tab fd hT) ?_
    rintro ⟨x, K1⟩ hx
    obtain ⟨f1, nv, e1, b1⟩ := getRes hx
    simp only at f1 e1 b1 ⊢
    subst e1
    rw [iextract_tuple, iextract_tuple]
    simp only [List.getElem?_cons_zero, List.getElem?_cons_succ, ob_some]
    rw [lzbox_eq, ob_some]
    simp only [cells_agg]
    rw [stn (n := 6) newRow (Dsc.cells_one _ b1.one) rfl rfl, ob_some, setRow]
    simp only
    have k2 : Frame NoF K1 (K1 ++ [IObj.row ((lk2 tab fd).1.cells nv) false]) := Frame.push _ _ _
    have r2 := newRow (H := K1) (o := IObj.row ((lk2 tab fd).1.cells nv) false)
    have hR2 := hR.kp (f1.tr k2)
    have n2 := (bufNm b1).kp k2
    have fB := f1.tr k2
    generalize K1 ++ [IObj.row ((lk2 tab fd).1.cells nv) false] = K2 at *
    refine Wp.call (hrgt R K2 r tab fd hR2) ?_
    rintro ⟨y, K3⟩ hy
    obtain ⟨f3, y', e3, b3⟩ := rgetRes hy
    simp only at f3 e3 b3 ⊢
    subst e3
    rw [iextract_tuple, iextract_tuple]
    simp only [List.getElem?_cons_zero, List.getElem?_cons_succ, ob_some]
    obtain ⟨nv', rfl, b3'⟩ := b3
    rw [lzbox_eq, ob_some]
    simp only [cells_agg]
    rw [stn (n := 6) newRow (Dsc.cells_one _ b3'.one) rfl rfl, ob_some, setRow]
    simp only
    have k4 : Frame NoF K3 (K3 ++ [IObj.row ((lk2 tab fd).1.cells nv') false]) := Frame.push _ _ _
    have r4 := newRow (H := K3) (o := IObj.row ((lk2 tab fd).1.cells nv') false)
    have r4' := (f3.tr k4).get (fun h => h) r2
    rw [ldn (n := 6) r4' rfl, ob_some, ldn (n := 6) r4 rfl, ob_some]
    have m1 := n2.kp (f3.tr k4)
    have m2 := b3'.kp k4
    refine Wp.call (hsm _ _ _ _ _ _ _ ⟨nv, rfl, m1⟩ ⟨nv', rfl, m2⟩ (lk2_bound hT)) ?_
    rintro ⟨z, K5⟩ ⟨w1, w2⟩
    simp only at w1 ⊢
    subst w1
    simp only [decide_true, iun_not, ob_some, Bool.not_true, isB_ff, gq_true, lbin_neq, lpick_false]
    rw [cnd_false, lbin_add, ob_some, wrap_i64 (by omega) (by omega)]
    exact ih (fd + 1) n K5 (by omega) (by omega) (by omega) (hB.kp ((fB.tr (f3.tr k4)).tr w2))
/-- What one looks at behind each act, and what is spoilt of it. -/
theorem does_look {L X : Nat} {W : Nat → Prop} {H0 H : Heap} {t r i : Nat} {tab : Tab} {v0 : IV} {a : Ac} {nv : IV} {gN : IV → IV → IV → IV → Heap → Option Out} (hal : AllOk φ al) (hral : RAllOk φ ral) (hit : IntsOk φ it) (hfu : FullOk φ fu) (hN : 1000000 < N) (hB : Both W L H0 H t r tab) (hLH : L ≤ H.length) (hX : H[X]? = some (.row (a.cells nv) false))
    (hQ : ∀ H', Both NoF L H0 H' t r tab → Wp (gN v0 (.ptr t 0) (.ptr r 0) (.int .i64 (i : Nat)) H') fun r => r.1 = .bool true) :
    Wp (veneerlaw07DescDoesC8S cal φ N aw nw ow op rop cl rcl sm st rst gt rgt al ral it fu gN v0 (.ptr t 0) (.ptr r 0) (.int .i64 (i : Nat)) (.ptr X 0) H) fun r => r.1 = .bool true := by
  have c1 : (a.cells nv)[0 + 1]? = some (.int .i64 a.fd) := rfl
  obtain ⟨G, R, hT, hR, _⟩ := hB.ex
  unfold veneerlaw07DescDoesC8S
  rw [loff_ptr, ob_some, ld1 hX, c1, ob_some]
  refine Wp.call (hgt G H t tab a.fd hT) ?_
  rintro ⟨x, K1⟩ hx
  obtain ⟨f1, mv, e1, b1⟩ := getRes hx
  simp only at f1 e1 b1 ⊢
  subst e1
  rw [iextract_tuple, iextract_tuple]
  simp only [List.getElem?_cons_zero, List.getElem?_cons_succ, ob_some]
  have hbound := lk2_bound (fd := a.fd) hT
  rw [lzbox_eq, ob_some]
  simp only [cells_agg]
  rw [stn (n := 6) newRow (Dsc.cells_one _ b1.one) rfl rfl, ob_some, setRow]
  simp only
  have k2 : Frame NoF K1 (K1 ++ [IObj.row ((lk2 tab a.fd).1.cells mv) false]) := Frame.push _ _ _
  have r2 := newRow (H := K1) (o := IObj.row ((lk2 tab a.fd).1.cells mv) false)
  have f2 := f1.tr k2
  have b2 := b1.frame k2 fun i h => h.elim
  have hrow := b1.rowOf_ge
  have hqr : ¬ rowOf mv K1.length := fun h => by have := (hrow _ h).2; omega
  have X2 := f2.get (fun h => h) hX
  have B2 : Both (rowOf mv) L H0 (K1 ++ [IObj.row ((lk2 tab a.fd).1.cells mv) false]) t r tab := hB.fresh f2 fun i hi => .inr (hrow i hi).1
  have l1 := f1.1
  generalize K1 ++ [IObj.row ((lk2 tab a.fd).1.cells mv) false] = K2 at *
  generalize K1.length = q at *
  unfold veneerlaw07DescDoesC7S
  rw [loff_ptr, ob_some, ld1 X2, c1, ob_some]
  obtain ⟨G2, R2, hT2, hR2, _⟩ := B2.ex
  refine Wp.call (hrgt R2 K2 r tab a.fd hR2) ?_
  rintro ⟨y, K3⟩ hy
  obtain ⟨f3, y', e3, b3⟩ := rgetRes hy
  simp only at f3 e3 b3 ⊢
  subst e3
  rw [iextract_tuple, iextract_tuple]
  simp only [List.getElem?_cons_zero, List.getElem?_cons_succ, ob_some]
  obtain ⟨nv', rfl, b3'⟩ := b3
  rw [lzbox_eq, ob_some]
  simp only [cells_agg]
  rw [stn (n := 6) newRow (Dsc.cells_one _ b3'.one) rfl rfl, ob_some, setRow]
  simp only
  have k4 : Frame NoF K3 (K3 ++ [IObj.row ((lk2 tab a.fd).1.cells nv') false]) := Frame.push _ _ _
  have r4 := newRow (H := K3) (o := IObj.row ((lk2 tab a.fd).1.cells nv') false)
  have f4 := f3.tr k4
  have r4' := f4.get (fun h => h) r2
  have m1 := (bufNm b2).kp f4
  have m2 := b3'.kp k4
  have b4 := b2.frame f4 fun i h => h.elim
  have B4 := B2.kp f4
  generalize K3 ++ [IObj.row ((lk2 tab a.fd).1.cells nv') false] = K4 at *
  generalize K3.length = q' at *
  unfold veneerlaw07DescDoesC6S
  rw [ldn (n := 6) r4' rfl, ob_some, ldn (n := 6) r4 rfl, ob_some]
  refine Wp.call (hsm _ _ _ _ _ _ _ ⟨mv, rfl, m1⟩ ⟨nv', rfl, m2⟩ hbound) ?_
  rintro ⟨z, K5⟩ ⟨w1, f5⟩
  simp only at w1 f5 ⊢
  subst w1
  have B5 := B4.kp f5
  obtain ⟨G5, R5, hT5, hR5, _⟩ := B5.ex
  simp only [decide_true, iun_not, ob_some, Bool.not_true, isB_ff, gq_true, ge_true, lbin_neq, lpick_false]
  refine Wp.call (hal G5 K5 t tab hT5) ?_
  rintro ⟨w, K6⟩ ⟨f6, s6, _⟩
  simp only at f6 s6 ⊢
  refine Wp.call (hral R5 K6 r tab (hR5.kp f6)) ?_
  rintro ⟨w', K7⟩ ⟨f7, s7, _⟩
  simp only at f7 s7 ⊢
  have hle : (opens tab).length ≤ 32 := by rw [opens_cnt tab hT5.len]; have := cnt_le tab; rw [hT5.len] at this; exact this
  rw [hit K7 w w' (opens tab) (s6.kp f7) s7 hle, ob_some]
  simp only [iun_not, ob_some, Bool.not_true, lpick_false, isB_ff, gq_true, ge_true]
  have hT7 := (hT5.kp f6).kp f7
  rw [hfu G5 K7 t tab hT7, ob_some]
  simp only
  refine Wp.call (hral R5 K7 r tab ((hR5.kp f6).kp f7)) ?_
  rintro ⟨w8, K8⟩ ⟨f8, s8, _⟩
  simp only at f8 s8 ⊢
  rw [s8.len, ob_some, lbin_eql, ob_some, leq_bool, leqv_t, ob_some]
  have hfull : (!decide (none ∈ tab)) = decide ((((opens tab).length : Nat) : Int) = 32) := by
    rw [← decide_not]
    refine decide_eq_decide.2 ?_
    rw [opens_cnt tab hT5.len, ← cnt_full, hT5.len]; omega
  rw [hfull, beq_self_eq_true, Bool.not_true, cnd_false]
  have fz := ((f5.tr f6).tr f7).tr f8
  have B8 := B4.kp fz
  have b8 := b4.frame fz fun i h => h.elim
  have r8 := fz.get (fun h => h) r4'
  unfold veneerlaw07DescDoesC5S veneerlaw07DescDoesC4S
  have c4 : ((lk2 tab a.fd).1.cells mv)[0 + 4]? = some mv := rfl
  rw [loff_ptr, ob_some, ld1 r8, c4, ob_some, (bufNm b8).1.len, ob_some]
  refine mut2 r8 hqr hbound (fun H' hf => ?_) (lk2 tab a.fd).1.names.length 0 N K8 _ (by omega) (by omega) (Frame.refl _ _) b8 (strs_length _)
  exact hQ H' ((B8.mut hf fun i hi => ⟨hi, Nat.le_trans hLH (hrow i hi).1⟩).fresh (Frame.refl _ _) fun i h => h.elim)
end
end Go.Shade
/- DESC, part 15: 'DescDoes', whole. -/
namespace Go.Shade
set_option linter.unusedVariables false
set_option linter.unusedSimpArgs false
theorem first_eq {tab : Tab} {i j : Nat} (h1 : tab[i]? = some none) (h2 : ∀ k, k < i → tab[k]? ≠ some none) (h3 : tab[j]? = some none) (h4 : ∀ k, k < j → tab[k]? ≠ some none) : i = j := by
  rcases Nat.lt_trichotomy i j with h | h | h
  · exact absurd h1 (h4 i h)
  · exact h
  · exact absurd h3 (h2 j h)
section
variable {cal : FuncId → Bool} {φ : Oracle} {N : Nat} {aw nw ow op rop cl rcl sm st rst gt rgt al ral it fu : FuncId}
variable (ha : ∀ H : Heap, φ aw [] H = some (.bool true, H)) (hnw : NewOk φ nw) (how : ROwnOk φ ow) (hop : OpenOk φ op) (hrop : ROpenOk φ rop) (hcl : CloseOk φ cl) (hrcl : RCloseOk φ rcl) (hsm : Same7Ok φ sm) (hst : SetOk φ st) (hrst : RSetOk φ rst) (hgt : GetOk φ gt) (hrgt : RGetOk φ rgt) (hal : AllOk φ al) (hral : RAllOk φ ral) (hit : IntsOk φ it) (hfu : FullOk φ fu)
include how hop hrop hcl hrcl hsm hst hrst hgt hrgt hal hral hit hfu
theorem does_act {L X : Nat} {H0 H : Heap} {t r i : Nat} {tab : Tab} {v0 : IV} {a : Ac} {nv : IV} {gN : IV → IV → IV → IV → Heap → Option Out} (hN : 1000000 < N) (hB : Both NoF L H0 H t r tab) (hLH : L ≤ X) (hX : H[X]? = some (.row (a.cells nv) false)) (hXt : X ≠ t ∧ X ≠ r) (hn : Nm (· < L) H nv a.d.names)
    (hQ : ∀ H' tab', Both NoF L H0 H' t r tab' → Wp (gN v0 (.ptr t 0) (.ptr r 0) (.int .i64 (i : Nat)) H') fun r => r.1 = .bool true) :
    Wp (veneerlaw07DescDoesC12S cal φ N aw nw ow op rop cl rcl sm st rst gt rgt al ral it fu gN v0 (.ptr t 0) (.ptr r 0) (.int .i64 (i : Nat)) (.ptr X 0) H) fun r => r.1 = .bool true := by
  have lX := (List.getElem?_eq_some_iff.1 hX).1
  have c0 : (a.cells nv)[0]? = some (.int .i64 a.kind) := rfl
  have c1 : (a.cells nv)[1]? = some (.int .i64 a.fd) := rfl
  have c6 : (a.cells nv)[2 + 4]? = some nv := rfl
  unfold veneerlaw07DescDoesC12S
  simp only [loff_ptr, ob_some, Nat.zero_add, ld1 hX, c6, hn.1.len, lbin_gtr]
  refine Wp.dec (fun _ => Wp.ret rfl) (fun hb => ?_)
  unfold veneerlaw07DescDoesC11S
  have l6 : ∀ {K : Heap}, K[X]? = some (.row (a.cells nv) false) → lloadn K 6 (.ptr X 2) = some (.agg (a.d.cells nv)) := by
    intro K h; rw [lloadn_ptr, h, ogn_row]; rfl
  rw [loff_ptr, ob_some, Nat.zero_add, l6 hX, ob_some]
  refine Wp.call (how _ H _ a.d ⟨nv, rfl, hn⟩ (by omega)) ?_
  rintro ⟨o, K1⟩ ⟨mv, e1, b1, f1⟩
  simp only at e1 b1 f1 ⊢
  subst e1
  rw [lzbox_eq, ob_some]
  simp only [cells_agg]
  rw [stn (n := 6) newRow (a.d.cells_one b1.one) rfl rfl, ob_some, setRow]
  simp only
  have k2 : Frame NoF K1 (K1 ++ [IObj.row (a.d.cells mv) false]) := Frame.push _ _ _
  have r2 := newRow (H := K1) (o := IObj.row (a.d.cells mv) false)
  have f2 := f1.tr k2
  have b2 := b1.frame k2 fun i h => h.elim
  have hrow := b1.rowOf_ge
  have hqr : ¬ rowOf mv K1.length := fun h => by have := (hrow _ h).2; omega
  have hXr : ¬ rowOf mv X := fun h => by have := (hrow _ h).1; omega
  have X2 := f2.get (fun h => h) hX
  have n2 := hn.kp f2
  have B2 : Both (rowOf mv) L H0 (K1 ++ [IObj.row (a.d.cells mv) false]) t r tab := hB.fresh f2 fun i hi => .inr (hrow i hi).1
  have hq : K1.length ≠ t ∧ K1.length ≠ r := by
    obtain ⟨G, R, p1, p2, _⟩ := hB.ex
    have := p1.ltT; have := p2.ltT; have := f1.1
    omega
  have lK2 : (K1 ++ [IObj.row (a.d.cells mv) false]).length = K1.length + 1 := by simp
  have l1 := f1.1
  generalize K1 ++ [IObj.row (a.d.cells mv) false] = K2 at *
  generalize hqq : K1.length = q at *
  unfold veneerlaw07DescDoesC10S
  rw [loff_ptr, ob_some, Nat.zero_add, ld1 X2, c0, ob_some, jn_eq]
  -- behind the act itself: the names are spoilt, then one looks
  have next : ∀ (K3 : Heap) (tab' : Tab), Both (rowOf mv) L H0 K3 t r tab' → Frame (fun i => i = t ∨ i = r) K2 K3 →
      Wp (veneerlaw07DescDoesC9S cal φ N aw nw ow op rop cl rcl sm st rst gt rgt al ral it fu (fun v0 v3 v4 v5 H => gN v0 v3 v4 v5 H) v0 (.ptr t 0) (.ptr r 0) (.int .i64 (i : Nat)) (.ptr X 0) (.ptr q 0) K3) fun r => r.1 = .bool true := by
    intro K3 tab' hB3 f3
    have r3 := f3.get (by omega) r2
    have X3 := f3.get (by omega) X2
    have lt2 : t < K2.length := by obtain ⟨G, R, p1, _⟩ := B2.ex; exact p1.ltT
    have lr2 : r < K2.length := by obtain ⟨G, R, _, p2, _⟩ := B2.ex; exact p2.ltT
    have hXB : ∀ i, rowOf mv i → i ≠ t ∧ i ≠ r := by obtain ⟨G, R, _, _, _, _, p⟩ := B2.ex; exact fun i hi => (p i hi).2.2
    have b3 : Buf H.length 1 K3 mv (strs a.d.names) := by
      rcases b2 with h | ⟨k, n, ex, rfl, g1, g2, g3⟩
      · exact .inl h
      · exact .inr ⟨k, n, ex, rfl, g1, f3.get (fun h => by have := hXB k ⟨_, _, _, _, _, rfl⟩; omega) g2, g3⟩
    unfold veneerlaw07DescDoesC9S veneerlaw07DescDoesC2S veneerlaw07DescDoesC1S
    have c4 : (a.d.cells mv)[0 + 4]? = some mv := rfl
    rw [loff_ptr, ob_some, ld1 r3, c4, ob_some, (bufNm b3).1.len, ob_some]
    refine mut1 r3 hqr (by omega) (fun K4 hf => ?_) a.d.names.length 0 N K3 _ (by omega) (by omega) (Frame.refl _ _) b3 (strs_length _)
    have hB4 := hB3.mut hf fun i hi => ⟨hi, by have := (hrow i hi).1; omega⟩
    exact does_look hsm hgt hrgt hal hral hit hfu hN hB4 (by have := hf.1; have := f3.1; omega) (hf.get hXr X3) (fun H' h => hQ H' tab' h)
  obtain ⟨G, R, hT, hR, hGr, hRt, hXX⟩ := B2.ex
  have ltT := hT.ltT
  have ltR := hR.ltT
  have hnt := hB.ne
  -- what becomes of both
  have both : ∀ {K3 K4 : Heap} {tab' : Tab} {G' R' : Nat → Prop}, Frame (fun i => i = t) K2 K3 → Frame (fun i => i = r) K3 K4 → TabOk G' K3 t tab' → RTab R' K4 r tab' → (∀ j, G' j → G j ∨ K2.length ≤ j) → (∀ j, R' j → R j ∨ K3.length ≤ j) → Both (rowOf mv) L H0 K4 t r tab' ∧ Frame (fun i => i = t ∨ i = r) K2 K4 := by
    intro K3 K4 tab' G' R' f3 f4 h1 h2 h3 h4
    have hG'r : ¬ G' r := fun h => by rcases h3 r h with h | h; exact hGr h; omega
    have l3 := f3.1
    refine ⟨⟨(B2.fr.trans f3 fun i _ e => by subst e; exact B2.lt).trans f4 fun i _ e => by subst e; exact B2.lr, ⟨G', R', h1.frame f4 hnt fun i hi e => hG'r (e ▸ hi), h2, hG'r, fun h => by rcases h4 t h with h | h; exact hRt h; omega, fun i hi => ?_⟩, hnt, B2.lt, B2.lr⟩, (f3.mono fun i e => .inl e).tr (f4.mono fun i e => .inr e)⟩
    obtain ⟨p1, p2, p3, p4⟩ := hXX i hi
    have hlt := (hrow i hi).2
    exact ⟨fun h => by rcases h3 i h with h | h; exact p1 h; omega, fun h => by rcases h4 i h with h | h; exact p2 h; omega, p3, p4⟩
  have hmvT : ∀ i, rowOf mv i → i ≠ t := fun i hi => (hXX i hi).2.2.1
  have bDV : DV (rowOf mv) K2 (.agg (a.d.cells mv)) a.d := ⟨mv, rfl, (bufNm b2).1, fun b o n lb ex sz e _ => ⟨o, n, lb, ex, sz, e⟩⟩
  rw [lbin_eql, ob_some]
  refine Wp.dec (fun h0 => ?_) (fun h0 => ?_)
  · -- opening
    rw [ldn (n := 6) r2 rfl, ob_some]
    refine Wp.call (hop _ G K2 t tab _ a.d hT bDV (by omega)) ?_
    rintro ⟨x, K3⟩ hx
    have f3 : Frame (fun i => i = t) K2 K3 := hx.1
    have n3 := n2.frame f3 fun i (hi : i < L) e => by have := hB.lt; omega
    have X3 := f3.get (by omega) X2
    have hR3 := hR.frame f3 (fun e => hnt e.symm) fun i hi e => hRt (e ▸ hi)
    obtain ⟨_, hx⟩ := hx
    have fin : ∀ {x1 y1 : Int} {z1 z2 : Int} {K4 : Heap} {tab' : Tab}, x1 = y1 → z1 = z2 → Both (rowOf mv) L H0 K4 t r tab' → Frame (fun i => i = t ∨ i = r) K2 K4 →
        Wp (ob (lbin .neq (.int .i64 x1) (.int .i64 y1)) fun t17 => ob (gq (isB t17 false) (some (.int .i64 z1))) fun t18 => ob (gq (isB t17 false) (some (.int .i64 z2))) fun t19 => ob (gq (isB t17 false) (lbin .neq t18 t19)) fun t20 => ob (lpick t17 (.bool true) t20) fun t21 => cnd t21 (some ((.bool false), K4)) (veneerlaw07DescDoesC9S cal φ N aw nw ow op rop cl rcl sm st rst gt rgt al ral it fu (fun v0 v3 v4 v5 H => gN v0 v3 v4 v5 H) v0 (.ptr t 0) (.ptr r 0) (.int .i64 (i : Nat)) (.ptr X 0) (.ptr q 0) K4)) fun r => r.1 = .bool true := by
      intro x1 y1 z1 z2 K4 tab' hx hz hB4 hf4
      subst hx hz
      simp only [lbin_neq, ob_some, decide_true, Bool.not_true, isB_ff, gq_true, lpick_false]
      rw [cnd_false]
      exact next K4 tab' hB4 hf4
    rcases hx with ⟨j, G', hj, g1, g2, g3, g4, g5⟩ | ⟨g1, g2, g3⟩
    · simp only at g3 g4
      subst g3
      rw [iextract_tuple, iextract_tuple]
      simp only [List.getElem?_cons_zero, List.getElem?_cons_succ, ob_some]
      rw [loff_ptr, ob_some, Nat.zero_add, l6 X3, ob_some]
      refine Wp.call (hrop _ R K3 r tab _ a.d hR3 ⟨nv, rfl, n3⟩ (fun i (hi : i < L) => by have := hB.lr; omega) (by omega)) ?_
      rintro ⟨y, K4⟩ hy
      have f4 : Frame (fun i => i = r) K3 K4 := hy.1
      obtain ⟨_, ⟨j', R', hj', p1, p2, p3, p4, p5⟩ | ⟨p1, p2, p3⟩⟩ := hy
      · simp only at p3 p4
        subst p3
        rw [iextract_tuple, iextract_tuple]
        simp only [List.getElem?_cons_zero, List.getElem?_cons_succ, ob_some]
        have hjj := first_eq g1 g2 p1 p2
        subst hjj
        obtain ⟨q1, q2⟩ := both f3 f4 g4 p4 g5 p5
        exact fin rfl rfl q1 q2
      · exact absurd g1 (p1 j hj)
    · simp only at g2 g3
      subst g2
      rw [iextract_tuple, iextract_tuple]
      simp only [List.getElem?_cons_zero, List.getElem?_cons_succ, ob_some]
      rw [loff_ptr, ob_some, Nat.zero_add, l6 X3, ob_some]
      refine Wp.call (hrop _ R K3 r tab _ a.d hR3 ⟨nv, rfl, n3⟩ (fun i (hi : i < L) => by have := hB.lr; omega) (by omega)) ?_
      rintro ⟨y, K4⟩ hy
      have f4 : Frame (fun i => i = r) K3 K4 := hy.1
      obtain ⟨_, ⟨j', R', hj', p1, p2, p3, p4, p5⟩ | ⟨p1, p2, p3⟩⟩ := hy
      · exact absurd p1 (g1 j' hj')
      · simp only at p2 p3
        subst p2
        rw [iextract_tuple, iextract_tuple]
        simp only [List.getElem?_cons_zero, List.getElem?_cons_succ, ob_some]
        obtain ⟨q1, q2⟩ := both f3 f4 g3 p3 (fun j h => .inl h) (fun j h => .inl h)
        exact fin rfl rfl q1 q2
  · rw [lbin_eql, ob_some]
    refine Wp.dec (fun h1 => ?_) (fun h1 => ?_)
    · -- closing
      rw [loff_ptr, ob_some, Nat.zero_add, ld1 X2, c1, ob_some]
      refine Wp.call (hcl G K2 t tab a.fd hT) ?_
      rintro ⟨x, K3⟩ hx
      obtain ⟨f3, ⟨x', e3, d3⟩, g3⟩ := closeRes hx
      simp only at f3 e3 d3 g3 ⊢
      subst e3
      have X3 := f3.get (by omega) X2
      have hR3 := hR.frame f3 (fun e => hnt e.symm) fun i hi e => hRt (e ▸ hi)
      rw [iextract_tuple, iextract_tuple]
      simp only [List.getElem?_cons_zero, List.getElem?_cons_succ, ob_some]
      obtain ⟨nv3, rfl, n3⟩ := d3
      rw [lzbox_eq, ob_some]
      simp only [cells_agg]
      rw [stn (n := 6) newRow (Dsc.cells_one _ n3.one) rfl rfl, ob_some, setRow]
      simp only
      have k4 : Frame NoF K3 (K3 ++ [IObj.row ((lk2 tab a.fd).1.cells nv3) false]) := Frame.push _ _ _
      have r4 := newRow (H := K3) (o := IObj.row ((lk2 tab a.fd).1.cells nv3) false)
      have X4 := k4.get (fun h => h) X3
      have n4 := n3.kp k4
      have g4 := g3.kp k4
      have hR4 := hR3.kp k4
      have f4 := f3.tr k4.no
      have l3 := f3.1
      generalize K3 ++ [IObj.row ((lk2 tab a.fd).1.cells nv3) false] = K4 at *
      rw [ld1 X4, c1, ob_some]
      refine Wp.call (hrcl R K4 r tab a.fd hR4) ?_
      rintro ⟨y, K5⟩ hy
      obtain ⟨f5, ⟨y', e5, d5⟩, g5⟩ := rcloseRes hy
      simp only at f5 e5 d5 g5 ⊢
      subst e5
      rw [iextract_tuple, iextract_tuple]
      simp only [List.getElem?_cons_zero, List.getElem?_cons_succ, ob_some]
      obtain ⟨nv5, rfl, n5⟩ := d5
      rw [lzbox_eq, ob_some]
      simp only [cells_agg]
      rw [stn (n := 6) newRow (Dsc.cells_one _ n5.one) rfl rfl, ob_some, setRow]
      simp only
      have k6 : Frame NoF K5 (K5 ++ [IObj.row ((lk2 tab a.fd).1.cells nv5) false]) := Frame.push _ _ _
      have r6 := newRow (H := K5) (o := IObj.row ((lk2 tab a.fd).1.cells nv5) false)
      have r4' := k6.get (fun h => h) (f5.get (by omega) r4)
      have n6 := n5.kp k6
      have n4' := (n4.frame f5 fun i (hi : K2.length ≤ i) e => by omega).kp k6
      obtain ⟨q1, q2⟩ := both f4 f5 g4 g5 (fun j h => .inl h) (fun j h => .inl h)
      have q1 := q1.kp k6
      have q2 := q2.tr k6.no
      generalize K5 ++ [IObj.row ((lk2 tab a.fd).1.cells nv5) false] = K6 at *
      rw [ldn (n := 6) r4' rfl, ob_some, ldn (n := 6) r6 rfl, ob_some]
      refine Wp.call (hsm _ _ _ _ _ _ _ ⟨nv3, rfl, n4'⟩ ⟨nv5, rfl, n6⟩ (lk2_bound hT)) ?_
      rintro ⟨z, K7⟩ ⟨w1, w2⟩
      simp only at w1 w2 ⊢
      subst w1
      simp only [decide_true, iun_not, ob_some, Bool.not_true, isB_ff, gq_true, lbin_neq, lpick_false]
      rw [cnd_false]
      exact next K7 _ (q1.kp w2) (q2.tr w2.no)
    · rw [lbin_eql, ob_some]
      refine Wp.dec (fun h2 => ?_) (fun h2 => next K2 tab B2 (Frame.refl _ _))
      -- setting
      rw [loff_ptr, ob_some, Nat.zero_add, ld1 X2, c1, ob_some, ldn (n := 6) r2 rfl, ob_some]
      refine Wp.call (hst _ G K2 t tab a.fd _ a.d hT bDV (by omega)) ?_
      rintro ⟨x, K3⟩ hx
      have f3 : Frame (fun i => i = t) K2 K3 := hx.1
      have n3 := n2.frame f3 fun i (hi : i < L) e => by have := hB.lt; omega
      have X3 := f3.get (by omega) X2
      have hR3 := hR.frame f3 (fun e => hnt e.symm) fun i hi e => hRt (e ▸ hi)
      simp only [ob_some, ld1 X3, c1, l6 X3, loff_ptr, Nat.zero_add]
      refine Wp.call (hrst _ R K3 r tab a.fd _ a.d hR3 ⟨nv, rfl, n3⟩ (by omega)) ?_
      rintro ⟨y, K4⟩ hy
      have f4 : Frame (fun i => i = r) K3 K4 := hy.1
      have fin : ∀ {z : Int} {tab' : Tab}, x = .int .i64 z → y = .int .i64 z → Both (rowOf mv) L H0 K4 t r tab' → Frame (fun i => i = t ∨ i = r) K2 K4 →
          Wp (ob (lbin .neq x y) fun t55 => ckd ((!(true) || ((!(false)) && ivo (lload1 K2 (.ptr X 1)) (.int .i64 a.fd) && ivo (some (.int .i64 a.fd)) (.int .i64 a.fd))) && ((!(true) || ((!(false)) && ivo (lloadn K2 6 (.ptr X 2)) (.agg (a.d.cells nv)) && ivo (some (.agg (a.d.cells nv))) (.agg (a.d.cells nv)))) && true)) <| cnd t55 (some ((.bool false), K4)) (veneerlaw07DescDoesC9S cal φ N aw nw ow op rop cl rcl sm st rst gt rgt al ral it fu (fun v0 v3 v4 v5 H => gN v0 v3 v4 v5 H) v0 (.ptr t 0) (.ptr r 0) (.int .i64 (i : Nat)) (.ptr X 0) (.ptr q 0) K4)) fun r => r.1 = .bool true := by
        intro z tab' hx hy hB4 hf4
        subst hx hy
        rw [lbin_neq, ob_some, decide_eq_true rfl, l6 X2, ld1 X2, c1]
        simp only [ivo_refl, Bool.not_false, Bool.not_true, Bool.false_or, Bool.true_and, Bool.and_true, ckd_true]
        rw [cnd_false]
        exact next K4 tab' hB4 hf4
      obtain ⟨_, hx⟩ := hx
      obtain ⟨_, hy⟩ := hy
      rcases hx with ⟨g1, g2, G', g3, g4⟩ | ⟨g1, g2, g3⟩
      · rcases hy with ⟨p1, p2, R', p3, p4⟩ | ⟨p1, p2, p3⟩
        · obtain ⟨q1, q2⟩ := both f3 f4 g3 p3 g4 p4
          exact fin g2 p2 q1 q2
        · rw [p1] at g1; cases g1
      · rcases hy with ⟨p1, p2, R', p3, p4⟩ | ⟨p1, p2, p3⟩
        · rw [g1] at p1; cases p1
        · obtain ⟨q1, q2⟩ := both f3 f4 g3 p3 (fun j h => .inl h) (fun j h => .inl h)
          exact fin g2 p2 q1 q2
end
end Go.Shade
/- DESC, part 16: 'DescDoes', from first to last. -/
namespace Go.Shade
set_option linter.unusedVariables false
set_option linter.unusedSimpArgs false
def rz : List IV := List.replicate 32 (.bool false) ++ (List.replicate 32 (Dsc.zero.cells .nilSlice)).flatten
theorem rz_len : rz.length = 224 := by decide +kernel
theorem rz_one : rz.all IV.one = true := by decide +kernel
theorem rz_tab {H : Heap} {t : Nat} (h : H[t]? = some (.row rz false)) : RTab NoF H t (List.replicate 32 none) := by
  refine ⟨by simp, fun h => h, fun i h => h.elim, rz, h, rz_len, fun i e he => ?_⟩
  have hi := (List.getElem?_eq_some_iff.1 he).1
  rw [List.length_replicate] at hi
  rw [List.getElem?_replicate, if_pos hi] at he
  cases he
  refine ⟨.bool false, ?_, .inl ⟨rfl, rfl⟩⟩
  unfold rz
  rw [List.getElem?_append_left (by simpa using hi), List.getElem?_replicate, if_pos hi]
section
variable {cal : FuncId → Bool} {φ : Oracle} {N : Nat} {aw nw ow op rop cl rcl sm st rst gt rgt al ral it fu : FuncId}
variable (ha : ∀ H : Heap, φ aw [] H = some (.bool true, H)) (hnw : NewOk φ nw) (how : ROwnOk φ ow) (hop : OpenOk φ op) (hrop : ROpenOk φ rop) (hcl : CloseOk φ cl) (hrcl : RCloseOk φ rcl) (hsm : Same7Ok φ sm) (hst : SetOk φ st) (hrst : RSetOk φ rst) (hgt : GetOk φ gt) (hrgt : RGetOk φ rgt) (hal : AllOk φ al) (hral : RAllOk φ ral) (hit : IntsOk φ it) (hfu : FullOk φ fu)
include how hop hrop hcl hrcl hsm hst hrst hgt hrgt hal hral hit hfu
theorem does_go (hN : 1000000 < N) {L t r : Nat} {v0 : IV} {l : List Ac} {H0 : Heap} (hv : AcsV L H0 v0 l) (hLH : L ≤ H0.length) :
    ∀ (k i n : Nat) (H : Heap) (tab : Tab), i + k = 120 → k < n → Both NoF L H0 H t r tab →
      Wp (veneerlaw07DescDoesC17S cal φ N aw nw ow op rop cl rcl sm st rst gt rgt al ral it fu (fun v3 v4 H => veneerlaw07DescDoesC23S cal φ N aw nw ow op rop cl rcl sm st rst gt rgt al ral it fu v3 v4 H) n v0 (.ptr t 0) (.ptr r 0) (.int .i64 (i : Nat)) H) fun r => r.1 = .bool true := by
  have fin : ∀ {H : Heap} {tab : Tab}, Both NoF L H0 H t r tab → Wp (veneerlaw07DescDoesC23S cal φ N aw nw ow op rop cl rcl sm st rst gt rgt al ral it fu (.ptr t 0) (.ptr r 0) H) fun r => r.1 = .bool true := by
    intro H tab hB
    unfold veneerlaw07DescDoesC23S veneerlaw07DescDoesC22S veneerlaw07DescDoesC21S
    exact does_end hsm hgt hrgt 34 (-1) N H (by omega) (by omega) (by omega) hB
  intro k
  induction k with
  | zero =>
    intro i n H tab hi hn hB
    obtain ⟨n, rfl⟩ : ∃ j, n = j + 1 := ⟨n - 1, by omega⟩
    have hvH := hv.frame hB.fr
    obtain ⟨_, cs, hsl, _⟩ := hvH
    rw [veneerlaw07DescDoesC17S]
    unfold veneerlaw07DescDoesC16S
    rw [hsl.len, ob_some, lbin_lss, ob_some]
    cases decide (((i : Nat) : Int) < (l.length : Nat))
    · simp only [isB_ft, gq_false, ob_some, lpick_false, cnd_false]
      exact fin hB
    · simp only [isB_tt, gq_true, ob_some, lbin_lss]
      rw [lpick_true, ob_some, decide_eq_false (by omega), cnd_false]
      exact fin hB
  | succ k ih =>
    intro i n H tab hi hn hB
    obtain ⟨n, rfl⟩ : ∃ j, n = j + 1 := ⟨n - 1, by omega⟩
    have hvH := hv.frame hB.fr
    obtain ⟨_, cs, hsl, _⟩ := id hvH
    rw [veneerlaw07DescDoesC17S]
    unfold veneerlaw07DescDoesC16S
    rw [hsl.len, ob_some, lbin_lss, ob_some]
    by_cases hlt : i < l.length
    · rw [decide_eq_true (by omega)]
      simp only [isB_tt, gq_true, ob_some, lbin_lss]
      rw [lpick_true, ob_some, decide_eq_true (by omega), cnd_true]
      obtain ⟨p, nv, e1, e2, e3⟩ := hvH.at (List.getElem?_eq_getElem hlt)
      generalize l[i] = a at *
      unfold veneerlaw07DescDoesC15S veneerlaw07DescDoesC14S veneerlaw07DescDoesC13S
      rw [e1, ob_some, e2, ob_some, lzbox_eq, ob_some]
      simp only [cells_agg]
      rw [stn (n := 8) newRow (a.cells_one e3.one) rfl rfl, ob_some, setRow]
      simp only
      have k1 : Frame NoF H (H ++ [IObj.row (a.cells nv) false]) := Frame.push _ _ _
      have r1 := newRow (H := H) (o := IObj.row (a.cells nv) false)
      have hXt : H.length ≠ t ∧ H.length ≠ r := by
        obtain ⟨G, R, p1, p2, _⟩ := hB.ex
        have := p1.ltT; have := p2.ltT
        omega
      have hl0 := hB.fr.1
      refine does_act how hop hrop hcl hrcl hsm hst hrst hgt hrgt hal hral hit hfu hN (hB.kp k1) (by omega) r1 hXt (e3.kp k1) (fun H' tab' hB' => ?_)
      rw [lbin_add, ob_some, wrap_i64 (by omega) (by omega), show ((i : Nat) : Int) + 1 = ((i + 1 : Nat) : Int) by omega]
      exact ih (i + 1) n H' tab' (by omega) (by omega) hB'
    · rw [decide_eq_false (by omega)]
      simp only [isB_ft, gq_false, ob_some, lpick_false, cnd_false]
      exact fin hB
include ha hnw
set_option maxRecDepth 100000 in
theorem does_l (hN : 1000000 < N) {H : Heap} {v0 : IV} {l : List Ac} (hv0 : AcsV H.length H v0 l) :
    Wp (veneerlaw07DescDoesS cal φ N aw nw ow op rop cl rcl sm st rst gt rgt al ral it fu v0 H) fun r => r.1 = .bool true := by
  unfold veneerlaw07DescDoesS veneerlaw07DescDoesC28S veneerlaw07DescDoesC27S
  rw [ha, ob_some]
  simp only
  rw [iun_not, ob_some, Bool.not_true, cnd_false]
  unfold veneerlaw07DescDoesC26S
  refine Wp.call (hnw H) ?_
  rintro ⟨x, K1⟩ ⟨t, rfl, ht, hT, k1⟩
  simp only at hT k1 ⊢
  unfold veneerlaw07DescDoesC25S
  refine Wp.of (a := .agg rz) rfl ?_
  rw [lbox_agg rz_one, ob_some]
  simp only
  have k2 : Frame NoF K1 (K1 ++ [IObj.row rz false]) := Frame.push _ _ _
  have r2 := newRow (H := K1) (o := IObj.row rz false)
  have l1 := hT.ltT
  have hv2 := hv0.frame (k1.tr k2).no
  have l2 := (k1.tr k2).1
  have hB : Both NoF H.length (K1 ++ [IObj.row rz false]) (K1 ++ [IObj.row rz false]) t K1.length (List.replicate 32 none) :=
    ⟨Frame.refl _ _, ⟨NoF, NoF, hT.kp k2, rz_tab r2, fun h => h, fun h => h, fun i h => h.elim⟩, by omega, ht, by omega⟩
  unfold veneerlaw07DescDoesC24S veneerlaw07DescDoesC19S veneerlaw07DescDoesC18S
  exact does_go how hop hrop hcl hrcl hsm hst hrst hgt hrgt hal hral hit hfu hN hv2 (by omega) 120 0 N _ _ (by omega) (by omega) hB
end
end Go.Shade
/- DESC, part 17: this seat's program: the document's table, the law DescDoes. -/
namespace Go.Proofs.Ytbcekfagnajooaa
open Go.Shade
theorem lo10 : LoF Try.prog 10 veneerref07Own := ⟨⟨Try.f10, Try.func10, by kernel_rfl⟩, by kernel_rfl⟩
theorem lo12 : LoF Try.prog 12 (VeneerVeneerref07TableOpen 10) := ⟨⟨Try.f12, Try.func12, by kernel_rfl⟩, by kernel_rfl⟩
theorem lo19 : LoF Try.prog 19 (VeneerVeneerref07TableGet 10) := ⟨⟨Try.f19, Try.func19, by kernel_rfl⟩, by kernel_rfl⟩
theorem lo14 : LoF Try.prog 14 (VeneerVeneerref07TableClose 19) := ⟨⟨Try.f14, Try.func14, by kernel_rfl⟩, by kernel_rfl⟩
theorem lo17 : LoF Try.prog 17 (VeneerVeneerref07TableSet 19 10) := ⟨⟨Try.f17, Try.func17, by kernel_rfl⟩, by kernel_rfl⟩
theorem lo22 : LoF Try.prog 22 VeneerVeneerref07TableAll := ⟨⟨Try.f22, Try.func22, by kernel_rfl⟩, by kernel_rfl⟩
theorem lo20 : LoF Try.prog 20 veneerlaw07Ints := ⟨⟨Try.f20, Try.func20, by kernel_rfl⟩, by kernel_rfl⟩
theorem lo3 : LoF Try.prog 3 (veneerlaw07DescDoes 8 9 10 11 12 13 14 15 16 17 18 19 21 22 20 23) := ⟨⟨Try.f3, Try.func3, by kernel_rfl⟩, by kernel_rfl⟩
theorem okROwn : ROwnOk dd 10 := fun F H x d h hb => denWp rfl lo10 0 (Nat.le_of_ble_eq_true rfl) (by rw [veneerref07OwnEq]; exact rown_s h hb)
theorem okROpen : ROpenOk dd 12 := fun F G H t tab x d hT hx hF hb => denWp rfl lo12 33 (Nat.le_of_ble_eq_true rfl) (by rw [VeneerVeneerref07TableOpenEq]; exact ropen_s (by omega) okROwn hT hx hF hb)
theorem okRGet : RGetOk dd 19 := fun G H t tab fd hT => denWp rfl lo19 0 (Nat.le_of_ble_eq_true rfl) (by rw [VeneerVeneerref07TableGetEq]; exact rget_s okROwn hT)
theorem okRClose : RCloseOk dd 14 := fun G H t tab fd hT => denWp rfl lo14 0 (Nat.le_of_ble_eq_true rfl) (by rw [VeneerVeneerref07TableCloseEq]; exact rclose_s okRGet hT)
theorem okRSet : RSetOk dd 17 := fun F G H t tab fd x d hT hx hb => denWp rfl lo17 0 (Nat.le_of_ble_eq_true rfl) (by rw [VeneerVeneerref07TableSetEq]; exact rset_s okRGet okROwn hT hx hb)
theorem okRAll : RAllOk dd 22 := fun G H t tab hT => denWp rfl lo22 33 (Nat.le_of_ble_eq_true rfl) (by rw [VeneerVeneerref07TableAllEq]; exact rall_s (by omega) hT)
theorem okInts : IntsOk dd 20 := fun H v w l hv hw hl => denLo rfl lo20 33 (Nat.le_of_ble_eq_true rfl) (by rw [veneerlaw07IntsEq]; exact ints_s (by omega) hv hw hl)
end Go.Proofs.Ytbcekfagnajooaa
