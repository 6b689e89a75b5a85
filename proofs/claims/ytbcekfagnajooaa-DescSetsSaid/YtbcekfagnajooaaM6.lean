/- DESC, part 14: 'DescDoes'. -/
import Derived.Test.YtbcekfagnajooaaM4
import Derived.Test.YtbcekfagnajooaaM3
import Derived.Test.YtbcekfagnajooaaM5
import Derived.Test.YtbcekfagnajooaaM2
import Derived.KernelRfl
namespace Go.Shade
set_option linter.unusedVariables false
set_option linter.unusedSimpArgs false
def lk2 (tab : Tab) (fd : Int) : Dsc × Int := match look tab fd with
  | some d => (d, 0)
  | none => (Dsc.zero, 9)
theorem look_bound {G : Nat → Prop} {H : Heap} {t : Nat} {tab : Tab} {fd : Int} {d : Dsc} (hT : TabOk G H t tab) (h : look tab fd = some d) : d.names.length ≤ 1000000 := by
  obtain ⟨i, rfl, hi, hti⟩ := look_lt h
  obtain ⟨cs, c, e, g1, g2, g3, g4, g5⟩ := hT.get hi
  rw [hti] at g4; cases g4
  rcases g5 with ⟨h, _⟩ | ⟨d', b, nv, h1, _, _, _, _, h5⟩
  · cases h
  · cases h1; exact h5
theorem lk2_bound {G : Nat → Prop} {H : Heap} {t : Nat} {tab : Tab} {fd : Int} (hT : TabOk G H t tab) : (lk2 tab fd).1.names.length ≤ 1000000 := by
  unfold lk2
  cases h : look tab fd with
  | none => simp [Dsc.zero]
  | some d => exact look_bound hT h
theorem zeroDV (F : Nat → Prop) (H : Heap) : DV F H (.agg (Dsc.zero.cells .nilSlice)) Dsc.zero := ⟨.nilSlice, rfl, Sl.nil _ _, At.nil⟩
theorem getRes {H : Heap} {tab : Tab} {fd : Int} {r : Out} (h : GetP H tab fd r) : Frame NoF H r.2 ∧ ∃ nv, r.1 = .tuple [.agg ((lk2 tab fd).1.cells nv), .int .i64 (lk2 tab fd).2] ∧ Buf H.length 1 r.2 nv (strs (lk2 tab fd).1.names) := by
  obtain ⟨h0, ⟨d, x, h1, h2, h3, nv, rfl, h4⟩ | ⟨h1, h2⟩⟩ := h
  · unfold lk2; rw [h1]; exact ⟨h0, nv, h2, h4⟩
  · unfold lk2; rw [h1]; exact ⟨h0, .nilSlice, h2, .inl ⟨rfl, rfl⟩⟩
theorem rgetRes {H : Heap} {tab : Tab} {fd : Int} {r : Out} (h : RGetP H tab fd r) : Frame NoF H r.2 ∧ ∃ x, r.1 = .tuple [x, .int .i64 (lk2 tab fd).2] ∧ DV (New H) r.2 x (lk2 tab fd).1 := by
  obtain ⟨h0, ⟨d, x, h1, h2, h3⟩ | ⟨h1, h2⟩⟩ := h
  · unfold lk2; rw [h1]; exact ⟨h0, x, h2, h3⟩
  · unfold lk2; rw [h1]; exact ⟨h0, _, h2, zeroDV _ _⟩
theorem closeRes {G : Nat → Prop} {H : Heap} {t : Nat} {tab : Tab} {fd : Int} {r : Out} (h : CloseP G H t tab fd r) : Frame (fun i => i = t) H r.2 ∧ (∃ x, r.1 = .tuple [x, .int .i64 (lk2 tab fd).2] ∧ DV (New H) r.2 x (lk2 tab fd).1) ∧ TabOk G r.2 t (if (look tab fd).isSome then put' tab fd none else tab) := by
  obtain ⟨h0, ⟨d, x, h1, h2, h3, h4⟩ | ⟨h1, h2, h4⟩⟩ := h
  · unfold lk2; rw [h1]; exact ⟨h0, ⟨x, h2, h3⟩, h4⟩
  · unfold lk2; rw [h1]; exact ⟨h0, ⟨_, h2, zeroDV _ _⟩, h4⟩
theorem rcloseRes {G : Nat → Prop} {H : Heap} {t : Nat} {tab : Tab} {fd : Int} {r : Out} (h : RCloseP G H t tab fd r) : Frame (fun i => i = t) H r.2 ∧ (∃ x, r.1 = .tuple [x, .int .i64 (lk2 tab fd).2] ∧ DV (New H) r.2 x (lk2 tab fd).1) ∧ RTab G r.2 t (if (look tab fd).isSome then put' tab fd none else tab) := by
  obtain ⟨h0, ⟨d, x, h1, h2, h3, h4⟩ | ⟨h1, h2, h4⟩⟩ := h
  · unfold lk2; rw [h1]; exact ⟨h0, ⟨x, h2, h3⟩, h4⟩
  · unfold lk2; rw [h1]; exact ⟨h0, ⟨_, h2, zeroDV _ _⟩, h4⟩
/-- The row of a slice. -/
def rowOf (nv : IV) : Nat → Prop := fun i => ∃ o n lb ex sz, nv = .slice i o n lb ex sz
theorem Buf.rowOf_ge {B s : Nat} {H : Heap} {v : IV} {cs : List IV} (h : Buf B s H v cs) : ∀ i, rowOf v i → B ≤ i ∧ i < H.length := by
  rintro i ⟨o, n, lb, ex, sz, rfl⟩
  rcases h with ⟨e, _⟩ | ⟨r, k, ex', e, h1, h2, _⟩
  · cases e
  · cases e; exact ⟨h1, (List.getElem?_eq_some_iff.1 h2).1⟩
/-- Both tables, told alike; rows of X are nobody's. -/
structure Both (X : Nat → Prop) (L : Nat) (H0 H : Heap) (t r : Nat) (tab : Tab) : Prop where
  fr : Frame (L ≤ ·) H0 H
  ex : ∃ G R, TabOk G H t tab ∧ RTab R H r tab ∧ ¬ G r ∧ ¬ R t ∧ ∀ i, X i → ¬ G i ∧ ¬ R i ∧ i ≠ t ∧ i ≠ r
  ne : t ≠ r
  lt : L ≤ t
  lr : L ≤ r
theorem Both.kp {X : Nat → Prop} {L : Nat} {H0 H H' : Heap} {t r : Nat} {tab : Tab} (h : Both X L H0 H t r tab) (k : Frame NoF H H') : Both X L H0 H' t r tab := by
  obtain ⟨G, R, h1, h2, h3⟩ := h.ex
  exact ⟨h.fr.tr k.no, ⟨G, R, h1.kp k, h2.kp k, h3⟩, h.ne, h.lt, h.lr⟩
/-- New rows are nobody's. -/
theorem Both.fresh {X : Nat → Prop} {L : Nat} {H0 H H' : Heap} {t r : Nat} {tab : Tab} (h : Both X L H0 H t r tab) (k : Frame NoF H H') {Y : Nat → Prop} (hY : ∀ i, Y i → X i ∨ H.length ≤ i) : Both Y L H0 H' t r tab := by
  obtain ⟨G, R, h1, h2, h3, h4, h5⟩ := h.ex
  refine ⟨h.fr.tr k.no, ⟨G, R, h1.kp k, h2.kp k, h3, h4, fun i hi => ?_⟩, h.ne, h.lt, h.lr⟩
  rcases hY i hi with hx | hx
  · exact h5 i hx
  · exact ⟨fun e => by have := h1.lt i e; omega, fun e => by have := h2.lt i e; omega, by have := h1.ltT; omega, by have := h2.ltT; omega⟩
theorem Both.mut {X Y : Nat → Prop} {L : Nat} {H0 H H' : Heap} {t r : Nat} {tab : Tab} (h : Both X L H0 H t r tab) (k : Frame Y H H') (hY : ∀ i, Y i → X i ∧ L ≤ i) : Both X L H0 H' t r tab := by
  obtain ⟨G, R, h1, h2, h3, h4, h5⟩ := h.ex
  refine ⟨h.fr.trans k fun i _ hi => (hY i hi).2, ⟨G, R, h1.frame k (fun e => (h5 _ (hY _ e).1).2.2.1 rfl) fun i hi e => (h5 _ (hY _ e).1).1 hi, h2.frame k (fun e => (h5 _ (hY _ e).1).2.2.2 rfl) fun i hi e => (h5 _ (hY _ e).1).2.1 hi, h3, h4, h5⟩, h.ne, h.lt, h.lr⟩
section
variable {cal : FuncId → Bool} {φ : Oracle} {N : Nat} {aw nw ow op rop cl rcl sm st rst gt rgt al ral it fu : FuncId}
variable (ha : ∀ H : Heap, φ aw [] H = some (.bool true, H)) (hnw : NewOk φ nw) (how : ROwnOk φ ow) (hop : OpenOk φ op) (hrop : ROpenOk φ rop) (hcl : CloseOk φ cl) (hrcl : RCloseOk φ rcl) (hsm : Same7Ok φ sm) (hst : SetOk φ st) (hrst : RSetOk φ rst) (hgt : GetOk φ gt) (hrgt : RGetOk φ rgt) (hal : AllOk φ al) (hral : RAllOk φ ral) (hit : IntsOk φ it) (hfu : FullOk φ fu)
/-- Names are overwritten. -/
theorem mut1 {B q : Nat} {d : Dsc} {nv : IV} {v0 v3 v4 v5 v6 : IV} {m : Nat} {gE : IV → IV → IV → IV → IV → Heap → Option Out} {Q : Out → Prop} {H0 : Heap} (hq : H0[q]? = some (.row (d.cells nv) false)) (hqr : ¬ rowOf nv q) (hm : m ≤ 1000000)
    (hQ : ∀ H, Frame (rowOf nv) H0 H → Wp (gE v0 v3 v4 v5 v6 H) Q) : ∀ (k i n : Nat) (H : Heap) (cs : List IV), i + k = m → k < n → Frame (rowOf nv) H0 H → Buf B 1 H nv cs → cs.length = m →
      Wp (veneerlaw07DescDoesC0S cal φ N aw nw ow op rop cl rcl sm st rst gt rgt al ral it fu gE n v0 v3 v4 v5 v6 (.ptr q 0) (.int .i64 (m : Nat)) (.int .i64 (i : Nat)) H) Q := by
  intro k
  induction k with
  | zero =>
    intro i n H cs hi hn hK hb hl
    obtain ⟨n, rfl⟩ : ∃ j, n = j + 1 := ⟨n - 1, by omega⟩
    rw [veneerlaw07DescDoesC0S, lbin_lss, ob_some, decide_eq_false (by omega), cnd_false]
    exact hQ H hK
  | succ k ih =>
    intro i n H cs hi hn hK hb hl
    obtain ⟨n, rfl⟩ : ∃ j, n = j + 1 := ⟨n - 1, by omega⟩
    rw [veneerlaw07DescDoesC0S, lbin_lss, ob_some, decide_eq_true (by omega), cnd_true]
    have hq2 := hK.get hqr hq
    have c4 : (d.cells nv)[0 + 4]? = some nv := rfl
    rw [loff_ptr, ob_some, ld1 hq2, c4, ob_some]
    rcases hb with ⟨rfl, rfl⟩ | ⟨r, j, ex, rfl, g1, g2, g3⟩
    · simp at hl; omega
    · have hj : j = m := by omega
      subst hj
      rw [lix_slice, if_pos (by omega), ob_some, Int.toNat_natCast, Nat.mul_one, Nat.zero_add, st1 g2 rfl (by omega), ob_some]
      simp only
      rw [lbin_add, ob_some, wrap_i64 (by omega) (by omega), show ((i : Nat) : Int) + 1 = ((i + 1 : Nat) : Int) by omega]
      refine ih (i + 1) n _ (cs.set i (.str [120])) (by omega) (by omega) (hK.tr (Frame.set _ _ ⟨_, _, _, _, _, rfl⟩)) (.inr ⟨r, j, ex, rfl, g1, setAt g2, by rw [List.length_set]; exact g3⟩) (by rw [List.length_set]; exact hl)
theorem mut2 {B q : Nat} {d : Dsc} {nv : IV} {v0 v3 v4 v5 : IV} {m : Nat} {gE : IV → IV → IV → IV → Heap → Option Out} {Q : Out → Prop} {H0 : Heap} (hq : H0[q]? = some (.row (d.cells nv) false)) (hqr : ¬ rowOf nv q) (hm : m ≤ 1000000)
    (hQ : ∀ H, Frame (rowOf nv) H0 H → Wp (gE v0 v3 v4 v5 H) Q) : ∀ (k i n : Nat) (H : Heap) (cs : List IV), i + k = m → k < n → Frame (rowOf nv) H0 H → Buf B 1 H nv cs → cs.length = m →
      Wp (veneerlaw07DescDoesC3S cal φ N aw nw ow op rop cl rcl sm st rst gt rgt al ral it fu gE n v0 v3 v4 v5 (.ptr q 0) (.int .i64 (m : Nat)) (.int .i64 (i : Nat)) H) Q := by
  intro k
  induction k with
  | zero =>
    intro i n H cs hi hn hK hb hl
    obtain ⟨n, rfl⟩ : ∃ j, n = j + 1 := ⟨n - 1, by omega⟩
    rw [veneerlaw07DescDoesC3S, lbin_lss, ob_some, decide_eq_false (by omega), cnd_false]
    exact hQ H hK
  | succ k ih =>
    intro i n H cs hi hn hK hb hl
    obtain ⟨n, rfl⟩ : ∃ j, n = j + 1 := ⟨n - 1, by omega⟩
    rw [veneerlaw07DescDoesC3S, lbin_lss, ob_some, decide_eq_true (by omega), cnd_true]
    have hq2 := hK.get hqr hq
    have c4 : (d.cells nv)[0 + 4]? = some nv := rfl
    rw [loff_ptr, ob_some, ld1 hq2, c4, ob_some]
    rcases hb with ⟨rfl, rfl⟩ | ⟨r, j, ex, rfl, g1, g2, g3⟩
    · simp at hl; omega
    · have hj : j = m := by omega
      subst hj
      rw [lix_slice, if_pos (by omega), ob_some, Int.toNat_natCast, Nat.mul_one, Nat.zero_add, st1 g2 rfl (by omega), ob_some]
      simp only
      rw [lbin_add, ob_some, wrap_i64 (by omega) (by omega), show ((i : Nat) : Int) + 1 = ((i + 1 : Nat) : Int) by omega]
      refine ih (i + 1) n _ (cs.set i (.str [121])) (by omega) (by omega) (hK.tr (Frame.set _ _ ⟨_, _, _, _, _, rfl⟩)) (.inr ⟨r, j, ex, rfl, g1, setAt g2, by rw [List.length_set]; exact g3⟩) (by rw [List.length_set]; exact hl)
include hgt hrgt hsm
/-- The last look: every number, and one on each side. -/
theorem does_end {L : Nat} {X : Nat → Prop} {H0 : Heap} {t r : Nat} {tab : Tab} : ∀ (k : Nat) (fd : Int) (n : Nat) (H : Heap), fd + k = 33 → -1 ≤ fd → k < n → Both X L H0 H t r tab →
    Wp (veneerlaw07DescDoesC20S cal φ N aw nw ow op rop cl rcl sm st rst gt rgt al ral it fu (fun H => some (.bool true, H)) n (.ptr t 0) (.ptr r 0) (.int .i64 fd) H) fun r => r.1 = .bool true := by
  intro k
  induction k with
  | zero =>
    intro fd n H hi h1 hn hB
    obtain ⟨n, rfl⟩ : ∃ j, n = j + 1 := ⟨n - 1, by omega⟩
    rw [veneerlaw07DescDoesC20S, lbin_leq, ob_some, decide_eq_false (by omega), cnd_false]
    exact Wp.ret rfl
  | succ k ih =>
    intro fd n H hi h1 hn hB
    obtain ⟨n, rfl⟩ : ∃ j, n = j + 1 := ⟨n - 1, by omega⟩
    rw [veneerlaw07DescDoesC20S, lbin_leq, ob_some, decide_eq_true (by omega), cnd_true]
    obtain ⟨G, R, hT, hR, _⟩ := hB.ex
    refine Wp.call (hgt G H t tab fd hT) ?_
    rintro ⟨x, K1⟩ hx
    obtain ⟨f1, nv, e1, b1⟩ := getRes hx
    simp only at f1 e1 b1 ⊢
    subst e1
    rw [iextract_tuple, iextract_tuple]
    simp only [List.getElem?_cons_zero, List.getElem?_cons_succ, ob_some]
    rw [lzbox_eq, ob_some]
    simp only [cells_agg]
    rw [stn (n := 6) newRow (Dsc.cells_one _ b1.one) rfl rfl, ob_some, setRow]
    simp only
    have k2 : Frame NoF K1 (K1 ++ [IObj.row ((lk2 tab fd).1.cells nv) false]) := Frame.push _ _ _
    have r2 := newRow (H := K1) (o := IObj.row ((lk2 tab fd).1.cells nv) false)
    have hR2 := hR.kp (f1.tr k2)
    have n2 := (bufNm b1).kp k2
    have fB := f1.tr k2
    generalize K1 ++ [IObj.row ((lk2 tab fd).1.cells nv) false] = K2 at *
    refine Wp.call (hrgt R K2 r tab fd hR2) ?_
    rintro ⟨y, K3⟩ hy
    obtain ⟨f3, y', e3, b3⟩ := rgetRes hy
    simp only at f3 e3 b3 ⊢
    subst e3
    rw [iextract_tuple, iextract_tuple]
    simp only [List.getElem?_cons_zero, List.getElem?_cons_succ, ob_some]
    obtain ⟨nv', rfl, b3'⟩ := b3
    rw [lzbox_eq, ob_some]
    simp only [cells_agg]
    rw [stn (n := 6) newRow (Dsc.cells_one _ b3'.one) rfl rfl, ob_some, setRow]
    simp only
    have k4 : Frame NoF K3 (K3 ++ [IObj.row ((lk2 tab fd).1.cells nv') false]) := Frame.push _ _ _
    have r4 := newRow (H := K3) (o := IObj.row ((lk2 tab fd).1.cells nv') false)
    have r4' := (f3.tr k4).get (fun h => h) r2
    rw [ldn (n := 6) r4' rfl, ob_some, ldn (n := 6) r4 rfl, ob_some]
    have m1 := n2.kp (f3.tr k4)
    have m2 := b3'.kp k4
    refine Wp.call (hsm _ _ _ _ _ _ _ ⟨nv, rfl, m1⟩ ⟨nv', rfl, m2⟩ (lk2_bound hT)) ?_
    rintro ⟨z, K5⟩ ⟨w1, w2⟩
    simp only at w1 ⊢
    subst w1
    simp only [decide_true, iun_not, ob_some, Bool.not_true, isB_ff, gq_true, lbin_neq, lpick_false]
    rw [cnd_false, lbin_add, ob_some, wrap_i64 (by omega) (by omega)]
    exact ih (fd + 1) n K5 (by omega) (by omega) (by omega) (hB.kp ((fB.tr (f3.tr k4)).tr w2))
/-- What one looks at behind each act, and what is spoilt of it. -/
theorem does_look {L X : Nat} {W : Nat → Prop} {H0 H : Heap} {t r i : Nat} {tab : Tab} {v0 : IV} {a : Ac} {nv : IV} {gN : IV → IV → IV → IV → Heap → Option Out} (hal : AllOk φ al) (hral : RAllOk φ ral) (hit : IntsOk φ it) (hfu : FullOk φ fu) (hN : 1000000 < N) (hB : Both W L H0 H t r tab) (hLH : L ≤ H.length) (hX : H[X]? = some (.row (a.cells nv) false))
    (hQ : ∀ H', Both NoF L H0 H' t r tab → Wp (gN v0 (.ptr t 0) (.ptr r 0) (.int .i64 (i : Nat)) H') fun r => r.1 = .bool true) :
    Wp (veneerlaw07DescDoesC8S cal φ N aw nw ow op rop cl rcl sm st rst gt rgt al ral it fu gN v0 (.ptr t 0) (.ptr r 0) (.int .i64 (i : Nat)) (.ptr X 0) H) fun r => r.1 = .bool true := by
  have c1 : (a.cells nv)[0 + 1]? = some (.int .i64 a.fd) := rfl
  obtain ⟨G, R, hT, hR, _⟩ := hB.ex
  unfold veneerlaw07DescDoesC8S
  rw [loff_ptr, ob_some, ld1 hX, c1, ob_some]
  refine Wp.call (hgt G H t tab a.fd hT) ?_
  rintro ⟨x, K1⟩ hx
  obtain ⟨f1, mv, e1, b1⟩ := getRes hx
  simp only at f1 e1 b1 ⊢
  subst e1
  rw [iextract_tuple, iextract_tuple]
  simp only [List.getElem?_cons_zero, List.getElem?_cons_succ, ob_some]
  have hbound := lk2_bound (fd := a.fd) hT
  rw [lzbox_eq, ob_some]
  simp only [cells_agg]
  rw [stn (n := 6) newRow (Dsc.cells_one _ b1.one) rfl rfl, ob_some, setRow]
  simp only
  have k2 : Frame NoF K1 (K1 ++ [IObj.row ((lk2 tab a.fd).1.cells mv) false]) := Frame.push _ _ _
  have r2 := newRow (H := K1) (o := IObj.row ((lk2 tab a.fd).1.cells mv) false)
  have f2 := f1.tr k2
  have b2 := b1.frame k2 fun i h => h.elim
  have hrow := b1.rowOf_ge
  have hqr : ¬ rowOf mv K1.length := fun h => by have := (hrow _ h).2; omega
  have X2 := f2.get (fun h => h) hX
  have B2 : Both (rowOf mv) L H0 (K1 ++ [IObj.row ((lk2 tab a.fd).1.cells mv) false]) t r tab := hB.fresh f2 fun i hi => .inr (hrow i hi).1
  have l1 := f1.1
  generalize K1 ++ [IObj.row ((lk2 tab a.fd).1.cells mv) false] = K2 at *
  generalize K1.length = q at *
  unfold veneerlaw07DescDoesC7S
  rw [loff_ptr, ob_some, ld1 X2, c1, ob_some]
  obtain ⟨G2, R2, hT2, hR2, _⟩ := B2.ex
  refine Wp.call (hrgt R2 K2 r tab a.fd hR2) ?_
  rintro ⟨y, K3⟩ hy
  obtain ⟨f3, y', e3, b3⟩ := rgetRes hy
  simp only at f3 e3 b3 ⊢
  subst e3
  rw [iextract_tuple, iextract_tuple]
  simp only [List.getElem?_cons_zero, List.getElem?_cons_succ, ob_some]
  obtain ⟨nv', rfl, b3'⟩ := b3
  rw [lzbox_eq, ob_some]
  simp only [cells_agg]
  rw [stn (n := 6) newRow (Dsc.cells_one _ b3'.one) rfl rfl, ob_some, setRow]
  simp only
  have k4 : Frame NoF K3 (K3 ++ [IObj.row ((lk2 tab a.fd).1.cells nv') false]) := Frame.push _ _ _
  have r4 := newRow (H := K3) (o := IObj.row ((lk2 tab a.fd).1.cells nv') false)
  have f4 := f3.tr k4
  have r4' := f4.get (fun h => h) r2
  have m1 := (bufNm b2).kp f4
  have m2 := b3'.kp k4
  have b4 := b2.frame f4 fun i h => h.elim
  have B4 := B2.kp f4
  generalize K3 ++ [IObj.row ((lk2 tab a.fd).1.cells nv') false] = K4 at *
  generalize K3.length = q' at *
  unfold veneerlaw07DescDoesC6S
  rw [ldn (n := 6) r4' rfl, ob_some, ldn (n := 6) r4 rfl, ob_some]
  refine Wp.call (hsm _ _ _ _ _ _ _ ⟨mv, rfl, m1⟩ ⟨nv', rfl, m2⟩ hbound) ?_
  rintro ⟨z, K5⟩ ⟨w1, f5⟩
  simp only at w1 f5 ⊢
  subst w1
  have B5 := B4.kp f5
  obtain ⟨G5, R5, hT5, hR5, _⟩ := B5.ex
  simp only [decide_true, iun_not, ob_some, Bool.not_true, isB_ff, gq_true, ge_true, lbin_neq, lpick_false]
  refine Wp.call (hal G5 K5 t tab hT5) ?_
  rintro ⟨w, K6⟩ ⟨f6, s6, _⟩
  simp only at f6 s6 ⊢
  refine Wp.call (hral R5 K6 r tab (hR5.kp f6)) ?_
  rintro ⟨w', K7⟩ ⟨f7, s7, _⟩
  simp only at f7 s7 ⊢
  have hle : (opens tab).length ≤ 32 := by rw [opens_cnt tab hT5.len]; have := cnt_le tab; rw [hT5.len] at this; exact this
  rw [hit K7 w w' (opens tab) (s6.kp f7) s7 hle, ob_some]
  simp only [iun_not, ob_some, Bool.not_true, lpick_false, isB_ff, gq_true, ge_true]
  have hT7 := (hT5.kp f6).kp f7
  rw [hfu G5 K7 t tab hT7, ob_some]
  simp only
  refine Wp.call (hral R5 K7 r tab ((hR5.kp f6).kp f7)) ?_
  rintro ⟨w8, K8⟩ ⟨f8, s8, _⟩
  simp only at f8 s8 ⊢
  rw [s8.len, ob_some, lbin_eql, ob_some, leq_bool, leqv_t, ob_some]
  have hfull : (!decide (none ∈ tab)) = decide ((((opens tab).length : Nat) : Int) = 32) := by
    rw [← decide_not]
    refine decide_eq_decide.2 ?_
    rw [opens_cnt tab hT5.len, ← cnt_full, hT5.len]; omega
  rw [hfull, beq_self_eq_true, Bool.not_true, cnd_false]
  have fz := ((f5.tr f6).tr f7).tr f8
  have B8 := B4.kp fz
  have b8 := b4.frame fz fun i h => h.elim
  have r8 := fz.get (fun h => h) r4'
  unfold veneerlaw07DescDoesC5S veneerlaw07DescDoesC4S
  have c4 : ((lk2 tab a.fd).1.cells mv)[0 + 4]? = some mv := rfl
  rw [loff_ptr, ob_some, ld1 r8, c4, ob_some, (bufNm b8).1.len, ob_some]
  refine mut2 r8 hqr hbound (fun H' hf => ?_) (lk2 tab a.fd).1.names.length 0 N K8 _ (by omega) (by omega) (Frame.refl _ _) b8 (strs_length _)
  exact hQ H' ((B8.mut hf fun i hi => ⟨hi, Nat.le_trans hLH (hrow i hi).1⟩).fresh (Frame.refl _ _) fun i h => h.elim)
end
end Go.Shade
/- DESC, part 18: low code of 'DescSets', its straight parts told apart (DescSetsXC12, C13, C14). Printed by gen.py. -/
namespace Go.Shade
set_option linter.unusedVariables false
def veneerlaw07DescSetsXC0 (cVeneerlaw07Awake cDescNew cVeneerlaw07Play cVeneerDescTableAll cVeneerDescTableGet cVeneerDescTableSet cVeneerref07Same cVeneerDescTableClose : FuncId) : LC := .loop (.seq (.seq (.reg [
    ⟨(some 30), (.mv (.t 8)), none⟩,
    ⟨(some 31), (.mv (.t 0)), none⟩,
    ⟨(some 32), (.len .slice (.t 31)), none⟩,
    ⟨(some 33), (.bin .lss (.t 30) (.t 32)), none⟩,
    ⟨(some 34), (.mv (.t 33)), none⟩,
    ⟨(some 35), (.mv (.t 8)), (some (34, true))⟩,
    ⟨(some 36), (.bin .lss (.t 35) (.k (.int .i64 120))), (some (34, true))⟩,
    ⟨(some 37), (.pick (.t 34) (.t 36) (.k (.bool false))), none⟩])
  (.cond (.t 37) .skip
  (.exit 0)))
  (.seq (.block 1 (.reg [
    ⟨(some 40), (.mv (.t 7)), none⟩,
    ⟨(some 41), (.mv (.t 0)), none⟩,
    ⟨(some 42), (.mv (.t 8)), none⟩,
    ⟨(some 43), (.ix 8 (.t 41) (.t 42)), none⟩,
    ⟨(some 44), (.ldn 8 (.t 43)), none⟩,
    ⟨(some 45), (.callF cVeneerlaw07Play [(.t 40), (.t 44)]), none⟩]))
  (.reg [
    ⟨(some 38), (.mv (.t 8)), none⟩,
    ⟨(some 39), (.bin .add (.t 38) (.k (.int .i64 1))), none⟩,
    ⟨(some 8), (.mv (.t 39)), none⟩])))
def veneerlaw07DescSetsXC1 (cVeneerlaw07Awake cDescNew cVeneerlaw07Play cVeneerDescTableAll cVeneerDescTableGet cVeneerDescTableSet cVeneerref07Same cVeneerDescTableClose : FuncId) : LC := .block 0 (veneerlaw07DescSetsXC0 cVeneerlaw07Awake cDescNew cVeneerlaw07Play cVeneerDescTableAll cVeneerDescTableGet cVeneerDescTableSet cVeneerref07Same cVeneerDescTableClose)
def veneerlaw07DescSetsXC2 (cVeneerlaw07Awake cDescNew cVeneerlaw07Play cVeneerDescTableAll cVeneerDescTableGet cVeneerDescTableSet cVeneerref07Same cVeneerDescTableClose : FuncId) : LC := .seq (.reg [
    ⟨(some 8), (.mv (.k (.int .i64 0))), none⟩]) (veneerlaw07DescSetsXC1 cVeneerlaw07Awake cDescNew cVeneerlaw07Play cVeneerDescTableAll cVeneerDescTableGet cVeneerDescTableSet cVeneerref07Same cVeneerDescTableClose)
def veneerlaw07DescSetsXC3 (cVeneerlaw07Awake cDescNew cVeneerlaw07Play cVeneerDescTableAll cVeneerDescTableGet cVeneerDescTableSet cVeneerref07Same cVeneerDescTableClose : FuncId) : LC := .loop (.seq (.reg [
    ⟨(some 51), (.bin .lss (.t 50) (.t 49)), none⟩])
  (.seq (.cond (.t 51) .skip
  (.exit 2))
  (.seq (.block 3 (.seq (.reg [
    ⟨(some 52), (.ix 1 (.t 48) (.t 50)), none⟩,
    ⟨(some 53), (.ld1 (.t 52)), none⟩,
    ⟨(some 11), (.mv (.t 53)), none⟩])
  (.reg [
    ⟨(some 55), (.mv (.t 9)), none⟩,
    ⟨(some 56), (.mv (.t 11)), none⟩,
    ⟨(some 57), (.mv (.t 7)), none⟩,
    ⟨(some 58), (.mv (.t 11)), none⟩,
    ⟨(some 59), (.callF cVeneerDescTableGet [(.t 57), (.t 58)]), none⟩,
    ⟨(some 54), (.mv (.t 59)), none⟩,
    ⟨(some 60), (.ext (.t 54) 0), none⟩,
    ⟨(some 61), (.ext (.t 54) 1), none⟩,
    ⟨none, (.upd .int (.t 55) (.t 56) (.t 60)), none⟩])))
  (.reg [
    ⟨(some 62), (.bin .add (.t 50) (.k (.int .i64 1))), none⟩,
    ⟨(some 50), (.mv (.t 62)), none⟩]))))
def veneerlaw07DescSetsXC4 (cVeneerlaw07Awake cDescNew cVeneerlaw07Play cVeneerDescTableAll cVeneerDescTableGet cVeneerDescTableSet cVeneerref07Same cVeneerDescTableClose : FuncId) : LC := .block 2 (veneerlaw07DescSetsXC3 cVeneerlaw07Awake cDescNew cVeneerlaw07Play cVeneerDescTableAll cVeneerDescTableGet cVeneerDescTableSet cVeneerref07Same cVeneerDescTableClose)
def veneerlaw07DescSetsXC5 (cVeneerlaw07Awake cDescNew cVeneerlaw07Play cVeneerDescTableAll cVeneerDescTableGet cVeneerDescTableSet cVeneerref07Same cVeneerDescTableClose : FuncId) : LC := .seq (.reg [
    ⟨(some 47), (.mv (.t 7)), none⟩,
    ⟨(some 48), (.callF cVeneerDescTableAll [(.t 47)]), none⟩,
    ⟨(some 49), (.len .slice (.t 48)), none⟩,
    ⟨(some 50), (.mv (.k (.int .i64 0))), none⟩]) (veneerlaw07DescSetsXC4 cVeneerlaw07Awake cDescNew cVeneerlaw07Play cVeneerDescTableAll cVeneerDescTableGet cVeneerDescTableSet cVeneerref07Same cVeneerDescTableClose)
def veneerlaw07DescSetsXC6 (cVeneerlaw07Awake cDescNew cVeneerlaw07Play cVeneerDescTableAll cVeneerDescTableGet cVeneerDescTableSet cVeneerref07Same cVeneerDescTableClose : FuncId) : LC := .seq (veneerlaw07DescSetsXC5 cVeneerlaw07Awake cDescNew cVeneerlaw07Play cVeneerDescTableAll cVeneerDescTableGet cVeneerDescTableSet cVeneerref07Same cVeneerDescTableClose) (.seq (.reg [
    ⟨(some 63), (.mv (.t 7)), none⟩,
    ⟨(some 64), (.mv (.t 1)), none⟩,
    ⟨(some 65), (.ldn 6 (.t 5)), none⟩,
    ⟨(some 66), (.callF cVeneerDescTableSet [(.t 63), (.t 64), (.t 65)]), none⟩,
    ⟨(some 12), (.mv (.t 66)), none⟩])
  (.seq (.reg [
    ⟨(some 68), (.mv (.t 9)), none⟩,
    ⟨(some 69), (.mv (.t 1)), none⟩,
    ⟨(some 70), (.lkp .int (.agg [(.int .i64 0), (.int .i64 0), (.int .i64 0), (.bool false), .nilSlice, (.int .i64 0)]) true (.t 68) (.t 69)), none⟩,
    ⟨(some 67), (.mv (.t 70)), none⟩,
    ⟨(some 71), (.ext (.t 67) 0), none⟩,
    ⟨(some 72), (.ext (.t 67) 1), none⟩,
    ⟨(some 13), (.zbox (.agg [(.int .i64 0), (.int .i64 0), (.int .i64 0), (.bool false), .nilSlice, (.int .i64 0)])), none⟩,
    ⟨none, (.st 6 (.t 13) (.t 71)), none⟩,
    ⟨(some 14), (.mv (.t 72)), none⟩])
  (.seq (.reg [
    ⟨(some 73), (.mv (.t 14)), none⟩,
    ⟨(some 74), (.mv (.t 12)), none⟩,
    ⟨(some 75), (.bin .eql (.t 74) (.k (.int .i64 0))), none⟩,
    ⟨(some 76), (.eqv true .bool (.t 73) (.t 75)), none⟩])
  (.cond (.t 76) (.seq (.reg [
    ⟨(some 6), (.mv (.k (.bool false))), none⟩])
  .ret)
  .skip))))
def veneerlaw07DescSetsXC7 (cVeneerlaw07Awake cDescNew cVeneerlaw07Play cVeneerDescTableAll cVeneerDescTableGet cVeneerDescTableSet cVeneerref07Same cVeneerDescTableClose : FuncId) : LC := .seq (.reg [
    ⟨(some 46), .mkM, none⟩,
    ⟨(some 9), (.mv (.t 46)), none⟩]) (veneerlaw07DescSetsXC6 cVeneerlaw07Awake cDescNew cVeneerlaw07Play cVeneerDescTableAll cVeneerDescTableGet cVeneerDescTableSet cVeneerref07Same cVeneerDescTableClose)
def veneerlaw07DescSetsXC8 (cVeneerlaw07Awake cDescNew cVeneerlaw07Play cVeneerDescTableAll cVeneerDescTableGet cVeneerDescTableSet cVeneerref07Same cVeneerDescTableClose : FuncId) : LC := .seq (veneerlaw07DescSetsXC2 cVeneerlaw07Awake cDescNew cVeneerlaw07Play cVeneerDescTableAll cVeneerDescTableGet cVeneerDescTableSet cVeneerref07Same cVeneerDescTableClose) (veneerlaw07DescSetsXC7 cVeneerlaw07Awake cDescNew cVeneerlaw07Play cVeneerDescTableAll cVeneerDescTableGet cVeneerDescTableSet cVeneerref07Same cVeneerDescTableClose)
def veneerlaw07DescSetsXC9 (cVeneerlaw07Awake cDescNew cVeneerlaw07Play cVeneerDescTableAll cVeneerDescTableGet cVeneerDescTableSet cVeneerref07Same cVeneerDescTableClose : FuncId) : LC := .seq (.seq (.reg [
    ⟨(some 26), (.off (.t 5) 4), none⟩,
    ⟨(some 27), (.ld1 (.t 26)), none⟩,
    ⟨(some 28), (.len .slice (.t 27)), none⟩,
    ⟨(some 29), (.bin .gtr (.t 28) (.k (.int .i64 100))), none⟩])
  (.cond (.t 29) (.seq (.reg [
    ⟨(some 6), (.mv (.k (.bool true))), none⟩])
  .ret)
  .skip)) (veneerlaw07DescSetsXC8 cVeneerlaw07Awake cDescNew cVeneerlaw07Play cVeneerDescTableAll cVeneerDescTableGet cVeneerDescTableSet cVeneerref07Same cVeneerDescTableClose)
def veneerlaw07DescSetsXC10 (cVeneerlaw07Awake cDescNew cVeneerlaw07Play cVeneerDescTableAll cVeneerDescTableGet cVeneerDescTableSet cVeneerref07Same cVeneerDescTableClose : FuncId) : LC := .seq (.reg [
    ⟨(some 25), (.callF cDescNew []), none⟩,
    ⟨(some 7), (.mv (.t 25)), none⟩]) (veneerlaw07DescSetsXC9 cVeneerlaw07Awake cDescNew cVeneerlaw07Play cVeneerDescTableAll cVeneerDescTableGet cVeneerDescTableSet cVeneerref07Same cVeneerDescTableClose)
def veneerlaw07DescSetsXC11 (cVeneerlaw07Awake cDescNew cVeneerlaw07Play cVeneerDescTableAll cVeneerDescTableGet cVeneerDescTableSet cVeneerref07Same cVeneerDescTableClose : FuncId) : LC := .seq (.seq (.reg [
    ⟨(some 23), (.callF cVeneerlaw07Awake []), none⟩,
    ⟨(some 24), (.un .not (.t 23)), none⟩])
  (.cond (.t 24) (.seq (.reg [
    ⟨(some 6), (.mv (.k (.bool false))), none⟩])
  .ret)
  .skip)) (veneerlaw07DescSetsXC10 cVeneerlaw07Awake cDescNew cVeneerlaw07Play cVeneerDescTableAll cVeneerDescTableGet cVeneerDescTableSet cVeneerref07Same cVeneerDescTableClose)
def veneerlaw07DescSetsXC12 (cVeneerlaw07Awake cDescNew cVeneerlaw07Play cVeneerDescTableAll cVeneerDescTableGet cVeneerDescTableSet cVeneerref07Same cVeneerDescTableClose : FuncId) : LC := .seq (.reg [
    ⟨(some 5), (.box (.t 2)), none⟩,
    ⟨(some 6), (.mv (.k (.bool false))), none⟩]) (veneerlaw07DescSetsXC11 cVeneerlaw07Awake cDescNew cVeneerlaw07Play cVeneerDescTableAll cVeneerDescTableGet cVeneerDescTableSet cVeneerref07Same cVeneerDescTableClose)
def veneerlaw07DescSetsXC13 (cVeneerlaw07Awake cDescNew cVeneerlaw07Play cVeneerDescTableAll cVeneerDescTableGet cVeneerDescTableSet cVeneerref07Same cVeneerDescTableClose : FuncId) : LC := .seq (.reg [
    ⟨(some 81), (.ent (.t 78)), none⟩,
    ⟨(some 82), (.ext (.t 81) 0), none⟩,
    ⟨(some 83), (.ext (.t 81) 1), none⟩,
    ⟨(some 16), (.zbox (.agg [(.int .i64 0), (.int .i64 0), (.int .i64 0), (.bool false), .nilSlice, (.int .i64 0)])), none⟩,
    ⟨(some 15), (.mv (.t 82)), none⟩,
    ⟨none, (.st 6 (.t 16) (.t 83)), none⟩]) (.seq (.reg [
    ⟨(some 85), (.mv (.t 7)), none⟩,
    ⟨(some 86), (.mv (.t 15)), none⟩,
    ⟨(some 87), (.callF cVeneerDescTableGet [(.t 85), (.t 86)]), none⟩,
    ⟨(some 84), (.mv (.t 87)), none⟩,
    ⟨(some 88), (.ext (.t 84) 0), none⟩,
    ⟨(some 89), (.ext (.t 84) 1), none⟩,
    ⟨(some 17), (.zbox (.agg [(.int .i64 0), (.int .i64 0), (.int .i64 0), (.bool false), .nilSlice, (.int .i64 0)])), none⟩,
    ⟨none, (.st 6 (.t 17) (.t 88)), none⟩,
    ⟨(some 18), (.mv (.t 89)), none⟩])
  (.seq (.reg [
    ⟨(some 90), (.mv (.t 15)), none⟩,
    ⟨(some 91), (.mv (.t 1)), none⟩,
    ⟨(some 92), (.bin .neq (.t 90) (.t 91)), none⟩,
    ⟨(some 93), (.mv (.t 92)), none⟩,
    ⟨(some 94), (.ldn 6 (.t 16)), (some (93, true))⟩,
    ⟨(some 95), (.ldn 6 (.t 17)), (some (93, true))⟩,
    ⟨(some 96), (.callF cVeneerref07Same [(.t 94), (.t 95)]), (some (93, true))⟩,
    ⟨(some 97), (.un .not (.t 96)), (some (93, true))⟩,
    ⟨(some 98), (.pick (.t 93) (.t 97) (.k (.bool false))), none⟩,
    ⟨(some 99), (.mv (.t 98)), none⟩,
    ⟨(some 100), (.mv (.t 15)), (some (99, false))⟩,
    ⟨(some 101), (.mv (.t 1)), (some (99, false))⟩,
    ⟨(some 102), (.bin .eql (.t 100) (.t 101)), (some (99, false))⟩,
    ⟨(some 103), (.mv (.t 102)), (some (99, false))⟩,
    ⟨(some 104), (.ldn 6 (.t 17)), (some (103, true))⟩,
    ⟨(some 105), (.ldn 6 (.t 5)), (some (103, true))⟩,
    ⟨(some 106), (.callF cVeneerref07Same [(.t 104), (.t 105)]), (some (103, true))⟩,
    ⟨(some 107), (.un .not (.t 106)), (some (103, true))⟩,
    ⟨(some 108), (.pick (.t 103) (.t 107) (.k (.bool false))), (some (99, false))⟩,
    ⟨(some 109), (.pick (.t 99) (.k (.bool true)) (.t 108)), none⟩])
  (.cond (.t 109) (.seq (.reg [
    ⟨(some 6), (.mv (.k (.bool false))), none⟩])
  .ret)
  .skip)))
def veneerlaw07DescSetsXC14 (cVeneerlaw07Awake cDescNew cVeneerlaw07Play cVeneerDescTableAll cVeneerDescTableGet cVeneerDescTableSet cVeneerref07Same cVeneerDescTableClose : FuncId) : LC := .seq (.reg [
    ⟨(some 111), (.mv (.t 7)), none⟩,
    ⟨(some 112), (.mv (.t 1)), none⟩,
    ⟨(some 113), (.callF cVeneerDescTableClose [(.t 111), (.t 112)]), none⟩,
    ⟨(some 110), (.mv (.t 113)), none⟩,
    ⟨(some 114), (.ext (.t 110) 0), none⟩,
    ⟨(some 115), (.ext (.t 110) 1), none⟩,
    ⟨(some 19), (.zbox (.agg [(.int .i64 0), (.int .i64 0), (.int .i64 0), (.bool false), .nilSlice, (.int .i64 0)])), none⟩,
    ⟨none, (.st 6 (.t 19) (.t 114)), none⟩,
    ⟨(some 20), (.mv (.t 115)), none⟩]) (.seq (.reg [
    ⟨(some 117), (.mv (.t 7)), none⟩,
    ⟨(some 118), (.mv (.t 1)), none⟩,
    ⟨(some 119), (.callF cVeneerDescTableClose [(.t 117), (.t 118)]), none⟩,
    ⟨(some 116), (.mv (.t 119)), none⟩,
    ⟨(some 120), (.ext (.t 116) 0), none⟩,
    ⟨(some 121), (.ext (.t 116) 1), none⟩,
    ⟨(some 21), (.zbox (.agg [(.int .i64 0), (.int .i64 0), (.int .i64 0), (.bool false), .nilSlice, (.int .i64 0)])), none⟩,
    ⟨none, (.st 6 (.t 21) (.t 120)), none⟩,
    ⟨(some 22), (.mv (.t 121)), none⟩])
  (.seq (.reg [
    ⟨(some 122), (.mv (.t 20)), none⟩,
    ⟨(some 123), (.mv (.t 12)), none⟩,
    ⟨(some 124), (.bin .eql (.t 122) (.t 123)), none⟩,
    ⟨(some 125), (.mv (.t 124)), none⟩,
    ⟨(some 126), (.mv (.t 22)), (some (125, true))⟩,
    ⟨(some 127), (.bin .eql (.t 126) (.k (.int .i64 9))), (some (125, true))⟩,
    ⟨(some 128), (.pick (.t 125) (.t 127) (.k (.bool false))), none⟩,
    ⟨(some 129), (.mv (.t 128)), none⟩,
    ⟨(some 130), (.ldn 6 (.t 21)), (some (129, true))⟩,
    ⟨(some 131), (.bld [(.int .i64 0), (.int .i64 0), (.int .i64 0), (.bool false), .nilSlice, (.int .i64 0)] []), (some (129, true))⟩,
    ⟨(some 132), (.callF cVeneerref07Same [(.t 130), (.t 131)]), (some (129, true))⟩,
    ⟨(some 133), (.pick (.t 129) (.t 132) (.k (.bool false))), none⟩,
    ⟨(some 134), (.mv (.t 133)), none⟩,
    ⟨(some 135), (.mv (.t 12)), (some (134, true))⟩,
    ⟨(some 136), (.bin .neq (.t 135) (.k (.int .i64 0))), (some (134, true))⟩,
    ⟨(some 137), (.mv (.t 136)), (some (134, true))⟩,
    ⟨(some 138), (.ldn 6 (.t 19)), (some (137, false))⟩,
    ⟨(some 139), (.ldn 6 (.t 5)), (some (137, false))⟩,
    ⟨(some 140), (.callF cVeneerref07Same [(.t 138), (.t 139)]), (some (137, false))⟩,
    ⟨(some 141), (.pick (.t 137) (.k (.bool true)) (.t 140)), (some (134, true))⟩,
    ⟨(some 142), (.pick (.t 134) (.t 141) (.k (.bool false))), none⟩,
    ⟨(some 6), (.mv (.t 142)), none⟩])
  .ret))
def veneerlaw07DescSetsXC15 (cVeneerlaw07Awake cDescNew cVeneerlaw07Play cVeneerDescTableAll cVeneerDescTableGet cVeneerDescTableSet cVeneerref07Same cVeneerDescTableClose : FuncId) : LC := .seq (veneerlaw07DescSetsXC13 cVeneerlaw07Awake cDescNew cVeneerlaw07Play cVeneerDescTableAll cVeneerDescTableGet cVeneerDescTableSet cVeneerref07Same cVeneerDescTableClose) (veneerlaw07DescSetsXC14 cVeneerlaw07Awake cDescNew cVeneerlaw07Play cVeneerDescTableAll cVeneerDescTableGet cVeneerDescTableSet cVeneerref07Same cVeneerDescTableClose)
def veneerlaw07DescSetsXC16 (cVeneerlaw07Awake cDescNew cVeneerlaw07Play cVeneerDescTableAll cVeneerDescTableGet cVeneerDescTableSet cVeneerref07Same cVeneerDescTableClose : FuncId) : LC := .seq (veneerlaw07DescSetsXC12 cVeneerlaw07Awake cDescNew cVeneerlaw07Play cVeneerDescTableAll cVeneerDescTableGet cVeneerDescTableSet cVeneerref07Same cVeneerDescTableClose) (veneerlaw07DescSetsXC15 cVeneerlaw07Awake cDescNew cVeneerlaw07Play cVeneerDescTableAll cVeneerDescTableGet cVeneerDescTableSet cVeneerref07Same cVeneerDescTableClose)
def veneerlaw07DescSetsXC14S (cal : FuncId → Bool) (φ : Oracle) (N : Nat) (cVeneerlaw07Awake cDescNew cVeneerlaw07Play cVeneerDescTableAll cVeneerDescTableGet cVeneerDescTableSet cVeneerref07Same cVeneerDescTableClose : FuncId) (v1 v5 v7 v9 v12 v78 : IV) (H : Heap) : Option (IV × Heap) :=
    ob (φ cVeneerDescTableClose [v7, v1] H) fun r1 =>
    ob (iextract r1.1 0) fun t2 =>
    ob (iextract r1.1 1) fun t3 =>
    ob (lzbox r1.2 (.agg [(.int .i64 0), (.int .i64 0), (.int .i64 0), (.bool false), .nilSlice, (.int .i64 0)])) fun r4 =>
    ob (lstV r4.2 6 r4.1 t2) fun r5 =>
    ob (φ cVeneerDescTableClose [v7, v1] r5.2) fun r6 =>
    ob (iextract r6.1 0) fun t7 =>
    ob (iextract r6.1 1) fun t8 =>
    ob (lzbox r6.2 (.agg [(.int .i64 0), (.int .i64 0), (.int .i64 0), (.bool false), .nilSlice, (.int .i64 0)])) fun r9 =>
    ob (lstV r9.2 6 r9.1 t7) fun r10 =>
    ob (lbin .eql t3 v12) fun t11 =>
    ob (gq (isB t11 true) (some t8)) fun t12 =>
    ob (gq (isB t11 true) (lbin .eql t12 (.int .i64 9))) fun t13 =>
    ob (lpick t11 t13 (.bool false)) fun t14 =>
    ob (gq (isB t14 true) (lloadn r10.2 6 r9.1)) fun t15 =>
    ob (gq (isB t14 true) (lbld [(.int .i64 0), (.int .i64 0), (.int .i64 0), (.bool false), .nilSlice, (.int .i64 0)] [])) fun t16 =>
    ob (ge (isB t14 true) r10.2 (φ cVeneerref07Same [t15, t16] r10.2)) fun r17 =>
    ob (lpick t14 r17.1 (.bool false)) fun t18 =>
    ob (gq (isB t18 true) (some v12)) fun t19 =>
    ob (gq (isB t18 true) (lbin .neq t19 (.int .i64 0))) fun t20 =>
    ob (gq (isB t18 true) (some t20)) fun t21 =>
    ob (gq (isB t21 false) (lloadn r17.2 6 r4.1)) fun t22 =>
    ob (gq (isB t21 false) (lloadn r17.2 6 v5)) fun t23 =>
    ob (ge (isB t21 false) r17.2 (φ cVeneerref07Same [t22, t23] r17.2)) fun r24 =>
    ob (gq (isB t18 true) (lpick t21 (.bool true) r24.1)) fun t25 =>
    ob (lpick t18 t25 (.bool false)) fun t26 =>
    some ((.tuple [t26, v1, v5, v7, v9, v12, v78]), r24.2)
theorem veneerlaw07DescSetsXC14Eq (cal : FuncId → Bool) (φ : Oracle) (N : Nat) (cVeneerlaw07Awake cDescNew cVeneerlaw07Play cVeneerDescTableAll cVeneerDescTableGet cVeneerDescTableSet cVeneerref07Same cVeneerDescTableClose : FuncId) {k : KT (IV × Heap)} (hR : ∀ σ H, k .ret σ H = resK [(.tmp 6), (.tmp 1), (.tmp 5), (.tmp 7), (.tmp 9), (.tmp 12), (.tmp 78)] [] σ H) : ∀ (σ : Sg) (H : Heap), lxK cal φ N (veneerlaw07DescSetsXC14 cVeneerlaw07Awake cDescNew cVeneerlaw07Play cVeneerDescTableAll cVeneerDescTableGet cVeneerDescTableSet cVeneerref07Same cVeneerDescTableClose) σ H k = veneerlaw07DescSetsXC14S cal φ N cVeneerlaw07Awake cDescNew cVeneerlaw07Play cVeneerDescTableAll cVeneerDescTableGet cVeneerDescTableSet cVeneerref07Same cVeneerDescTableClose (lk σ 1) (lk σ 5) (lk σ 7) (lk σ 9) (lk σ 12) (lk σ 78) H := by
  have hk : k = (kR (resK [(.tmp 6), (.tmp 1), (.tmp 5), (.tmp 7), (.tmp 9), (.tmp 12), (.tmp 78)] []) k) := (kR_mk hR rfl)
  intro σ H
  rw [hk]
  show lxK cal φ N (.reg [
    ⟨(some 111), (.mv (.t 7)), none⟩,
    ⟨(some 112), (.mv (.t 1)), none⟩,
    ⟨(some 113), (.callF cVeneerDescTableClose [(.t 111), (.t 112)]), none⟩,
    ⟨(some 110), (.mv (.t 113)), none⟩,
    ⟨(some 114), (.ext (.t 110) 0), none⟩,
    ⟨(some 115), (.ext (.t 110) 1), none⟩,
    ⟨(some 19), (.zbox (.agg [(.int .i64 0), (.int .i64 0), (.int .i64 0), (.bool false), .nilSlice, (.int .i64 0)])), none⟩,
    ⟨none, (.st 6 (.t 19) (.t 114)), none⟩,
    ⟨(some 20), (.mv (.t 115)), none⟩]) σ H (seqK (lxK cal φ N (.seq (.reg [
    ⟨(some 117), (.mv (.t 7)), none⟩,
    ⟨(some 118), (.mv (.t 1)), none⟩,
    ⟨(some 119), (.callF cVeneerDescTableClose [(.t 117), (.t 118)]), none⟩,
    ⟨(some 116), (.mv (.t 119)), none⟩,
    ⟨(some 120), (.ext (.t 116) 0), none⟩,
    ⟨(some 121), (.ext (.t 116) 1), none⟩,
    ⟨(some 21), (.zbox (.agg [(.int .i64 0), (.int .i64 0), (.int .i64 0), (.bool false), .nilSlice, (.int .i64 0)])), none⟩,
    ⟨none, (.st 6 (.t 21) (.t 120)), none⟩,
    ⟨(some 22), (.mv (.t 121)), none⟩])
  (.seq (.reg [
    ⟨(some 122), (.mv (.t 20)), none⟩,
    ⟨(some 123), (.mv (.t 12)), none⟩,
    ⟨(some 124), (.bin .eql (.t 122) (.t 123)), none⟩,
    ⟨(some 125), (.mv (.t 124)), none⟩,
    ⟨(some 126), (.mv (.t 22)), (some (125, true))⟩,
    ⟨(some 127), (.bin .eql (.t 126) (.k (.int .i64 9))), (some (125, true))⟩,
    ⟨(some 128), (.pick (.t 125) (.t 127) (.k (.bool false))), none⟩,
    ⟨(some 129), (.mv (.t 128)), none⟩,
    ⟨(some 130), (.ldn 6 (.t 21)), (some (129, true))⟩,
    ⟨(some 131), (.bld [(.int .i64 0), (.int .i64 0), (.int .i64 0), (.bool false), .nilSlice, (.int .i64 0)] []), (some (129, true))⟩,
    ⟨(some 132), (.callF cVeneerref07Same [(.t 130), (.t 131)]), (some (129, true))⟩,
    ⟨(some 133), (.pick (.t 129) (.t 132) (.k (.bool false))), none⟩,
    ⟨(some 134), (.mv (.t 133)), none⟩,
    ⟨(some 135), (.mv (.t 12)), (some (134, true))⟩,
    ⟨(some 136), (.bin .neq (.t 135) (.k (.int .i64 0))), (some (134, true))⟩,
    ⟨(some 137), (.mv (.t 136)), (some (134, true))⟩,
    ⟨(some 138), (.ldn 6 (.t 19)), (some (137, false))⟩,
    ⟨(some 139), (.ldn 6 (.t 5)), (some (137, false))⟩,
    ⟨(some 140), (.callF cVeneerref07Same [(.t 138), (.t 139)]), (some (137, false))⟩,
    ⟨(some 141), (.pick (.t 137) (.k (.bool true)) (.t 140)), (some (134, true))⟩,
    ⟨(some 142), (.pick (.t 134) (.t 141) (.k (.bool false))), none⟩,
    ⟨(some 6), (.mv (.t 142)), none⟩])
  .ret))) (kR (resK [(.tmp 6), (.tmp 1), (.tmp 5), (.tmp 7), (.tmp 9), (.tmp 12), (.tmp 78)] []) k)) = _
  kernel_rfl
def veneerlaw07DescSetsXC13S (cal : FuncId → Bool) (φ : Oracle) (N : Nat) (cVeneerlaw07Awake cDescNew cVeneerlaw07Play cVeneerDescTableAll cVeneerDescTableGet cVeneerDescTableSet cVeneerref07Same cVeneerDescTableClose : FuncId) (gN : IV → IV → IV → IV → IV → IV → Heap → Option (IV × Heap)) (v1 v5 v7 v9 v12 v78 : IV) (H : Heap) : Option (IV × Heap) :=
    ob (ientry H v78) fun t1 =>
    ob (iextract t1 0) fun t2 =>
    ob (iextract t1 1) fun t3 =>
    ob (lzbox H (.agg [(.int .i64 0), (.int .i64 0), (.int .i64 0), (.bool false), .nilSlice, (.int .i64 0)])) fun r4 =>
    ob (lstV r4.2 6 r4.1 t3) fun r5 =>
    ob (φ cVeneerDescTableGet [v7, t2] r5.2) fun r6 =>
    ob (iextract r6.1 0) fun t7 =>
    ob (iextract r6.1 1) fun t8 =>
    ob (lzbox r6.2 (.agg [(.int .i64 0), (.int .i64 0), (.int .i64 0), (.bool false), .nilSlice, (.int .i64 0)])) fun r9 =>
    ob (lstV r9.2 6 r9.1 t7) fun r10 =>
    ob (lbin .neq t2 v1) fun t11 =>
    ob (gq (isB t11 true) (lloadn r10.2 6 r4.1)) fun t12 =>
    ob (gq (isB t11 true) (lloadn r10.2 6 r9.1)) fun t13 =>
    ob (ge (isB t11 true) r10.2 (φ cVeneerref07Same [t12, t13] r10.2)) fun r14 =>
    ob (gq (isB t11 true) (iun .not r14.1)) fun t15 =>
    ob (lpick t11 t15 (.bool false)) fun t16 =>
    ob (gq (isB t16 false) (some t2)) fun t17 =>
    ob (gq (isB t16 false) (some v1)) fun t18 =>
    ob (gq (isB t16 false) (lbin .eql t17 t18)) fun t19 =>
    ob (gq (isB t16 false) (some t19)) fun t20 =>
    ob (gq (isB t20 true) (lloadn r14.2 6 r9.1)) fun t21 =>
    ob (gq (isB t20 true) (lloadn r14.2 6 v5)) fun t22 =>
    ob (ge (isB t20 true) r14.2 (φ cVeneerref07Same [t21, t22] r14.2)) fun r23 =>
    ob (gq (isB t20 true) (iun .not r23.1)) fun t24 =>
    ob (gq (isB t16 false) (lpick t20 t24 (.bool false))) fun t25 =>
    ob (lpick t16 (.bool true) t25) fun t26 =>
    cnd t26
    (some ((.tuple [(.bool false), v1, v5, v7, v9, v12, v78]), r23.2))
    (gN v1 v5 v7 v9 v12 v78 r23.2)
theorem veneerlaw07DescSetsXC13Eq (cal : FuncId → Bool) (φ : Oracle) (N : Nat) (cVeneerlaw07Awake cDescNew cVeneerlaw07Play cVeneerDescTableAll cVeneerDescTableGet cVeneerDescTableSet cVeneerref07Same cVeneerDescTableClose : FuncId) {k : KT (IV × Heap)} (gN : IV → IV → IV → IV → IV → IV → Heap → Option (IV × Heap)) (hgN : ∀ σ H, k .normal σ H = gN (lk σ 1) (lk σ 5) (lk σ 7) (lk σ 9) (lk σ 12) (lk σ 78) H) (hR : ∀ σ H, k .ret σ H = resK [(.tmp 6), (.tmp 1), (.tmp 5), (.tmp 7), (.tmp 9), (.tmp 12), (.tmp 78)] [] σ H) : ∀ (σ : Sg) (H : Heap), lxK cal φ N (veneerlaw07DescSetsXC13 cVeneerlaw07Awake cDescNew cVeneerlaw07Play cVeneerDescTableAll cVeneerDescTableGet cVeneerDescTableSet cVeneerref07Same cVeneerDescTableClose) σ H k = veneerlaw07DescSetsXC13S cal φ N cVeneerlaw07Awake cDescNew cVeneerlaw07Play cVeneerDescTableAll cVeneerDescTableGet cVeneerDescTableSet cVeneerref07Same cVeneerDescTableClose gN (lk σ 1) (lk σ 5) (lk σ 7) (lk σ 9) (lk σ 12) (lk σ 78) H := by
  have hk : k = (kN (fun σ H => gN (lk σ 1) (lk σ 5) (lk σ 7) (lk σ 9) (lk σ 12) (lk σ 78) H) (kR (resK [(.tmp 6), (.tmp 1), (.tmp 5), (.tmp 7), (.tmp 9), (.tmp 12), (.tmp 78)] []) k)) := (kN_mk hgN (kR_mk hR rfl))
  intro σ H
  rw [hk]
  show lxK cal φ N (.reg [
    ⟨(some 81), (.ent (.t 78)), none⟩,
    ⟨(some 82), (.ext (.t 81) 0), none⟩,
    ⟨(some 83), (.ext (.t 81) 1), none⟩,
    ⟨(some 16), (.zbox (.agg [(.int .i64 0), (.int .i64 0), (.int .i64 0), (.bool false), .nilSlice, (.int .i64 0)])), none⟩,
    ⟨(some 15), (.mv (.t 82)), none⟩,
    ⟨none, (.st 6 (.t 16) (.t 83)), none⟩]) σ H (seqK (lxK cal φ N (.seq (.reg [
    ⟨(some 85), (.mv (.t 7)), none⟩,
    ⟨(some 86), (.mv (.t 15)), none⟩,
    ⟨(some 87), (.callF cVeneerDescTableGet [(.t 85), (.t 86)]), none⟩,
    ⟨(some 84), (.mv (.t 87)), none⟩,
    ⟨(some 88), (.ext (.t 84) 0), none⟩,
    ⟨(some 89), (.ext (.t 84) 1), none⟩,
    ⟨(some 17), (.zbox (.agg [(.int .i64 0), (.int .i64 0), (.int .i64 0), (.bool false), .nilSlice, (.int .i64 0)])), none⟩,
    ⟨none, (.st 6 (.t 17) (.t 88)), none⟩,
    ⟨(some 18), (.mv (.t 89)), none⟩])
  (.seq (.reg [
    ⟨(some 90), (.mv (.t 15)), none⟩,
    ⟨(some 91), (.mv (.t 1)), none⟩,
    ⟨(some 92), (.bin .neq (.t 90) (.t 91)), none⟩,
    ⟨(some 93), (.mv (.t 92)), none⟩,
    ⟨(some 94), (.ldn 6 (.t 16)), (some (93, true))⟩,
    ⟨(some 95), (.ldn 6 (.t 17)), (some (93, true))⟩,
    ⟨(some 96), (.callF cVeneerref07Same [(.t 94), (.t 95)]), (some (93, true))⟩,
    ⟨(some 97), (.un .not (.t 96)), (some (93, true))⟩,
    ⟨(some 98), (.pick (.t 93) (.t 97) (.k (.bool false))), none⟩,
    ⟨(some 99), (.mv (.t 98)), none⟩,
    ⟨(some 100), (.mv (.t 15)), (some (99, false))⟩,
    ⟨(some 101), (.mv (.t 1)), (some (99, false))⟩,
    ⟨(some 102), (.bin .eql (.t 100) (.t 101)), (some (99, false))⟩,
    ⟨(some 103), (.mv (.t 102)), (some (99, false))⟩,
    ⟨(some 104), (.ldn 6 (.t 17)), (some (103, true))⟩,
    ⟨(some 105), (.ldn 6 (.t 5)), (some (103, true))⟩,
    ⟨(some 106), (.callF cVeneerref07Same [(.t 104), (.t 105)]), (some (103, true))⟩,
    ⟨(some 107), (.un .not (.t 106)), (some (103, true))⟩,
    ⟨(some 108), (.pick (.t 103) (.t 107) (.k (.bool false))), (some (99, false))⟩,
    ⟨(some 109), (.pick (.t 99) (.k (.bool true)) (.t 108)), none⟩])
  (.cond (.t 109) (.seq (.reg [
    ⟨(some 6), (.mv (.k (.bool false))), none⟩])
  .ret)
  .skip)))) (kN (fun σ H => gN (lk σ 1) (lk σ 5) (lk σ 7) (lk σ 9) (lk σ 12) (lk σ 78) H) (kR (resK [(.tmp 6), (.tmp 1), (.tmp 5), (.tmp 7), (.tmp 9), (.tmp 12), (.tmp 78)] []) k))) = _
  kernel_rfl
def veneerlaw07DescSetsXC15S (cal : FuncId → Bool) (φ : Oracle) (N : Nat) (cVeneerlaw07Awake cDescNew cVeneerlaw07Play cVeneerDescTableAll cVeneerDescTableGet cVeneerDescTableSet cVeneerref07Same cVeneerDescTableClose : FuncId) (v1 v5 v7 v9 v12 v78 : IV) (H : Heap) : Option (IV × Heap) :=
    veneerlaw07DescSetsXC13S cal φ N cVeneerlaw07Awake cDescNew cVeneerlaw07Play cVeneerDescTableAll cVeneerDescTableGet cVeneerDescTableSet cVeneerref07Same cVeneerDescTableClose (fun v1 v5 v7 v9 v12 v78 H => veneerlaw07DescSetsXC14S cal φ N cVeneerlaw07Awake cDescNew cVeneerlaw07Play cVeneerDescTableAll cVeneerDescTableGet cVeneerDescTableSet cVeneerref07Same cVeneerDescTableClose v1 v5 v7 v9 v12 v78 H) v1 v5 v7 v9 v12 v78 H
theorem veneerlaw07DescSetsXC15Eq (cal : FuncId → Bool) (φ : Oracle) (N : Nat) (cVeneerlaw07Awake cDescNew cVeneerlaw07Play cVeneerDescTableAll cVeneerDescTableGet cVeneerDescTableSet cVeneerref07Same cVeneerDescTableClose : FuncId) {k : KT (IV × Heap)} (hR : ∀ σ H, k .ret σ H = resK [(.tmp 6), (.tmp 1), (.tmp 5), (.tmp 7), (.tmp 9), (.tmp 12), (.tmp 78)] [] σ H) : ∀ (σ : Sg) (H : Heap), lxK cal φ N (veneerlaw07DescSetsXC15 cVeneerlaw07Awake cDescNew cVeneerlaw07Play cVeneerDescTableAll cVeneerDescTableGet cVeneerDescTableSet cVeneerref07Same cVeneerDescTableClose) σ H k = veneerlaw07DescSetsXC15S cal φ N cVeneerlaw07Awake cDescNew cVeneerlaw07Play cVeneerDescTableAll cVeneerDescTableGet cVeneerDescTableSet cVeneerref07Same cVeneerDescTableClose (lk σ 1) (lk σ 5) (lk σ 7) (lk σ 9) (lk σ 12) (lk σ 78) H := by
  have hk : k = (kR (resK [(.tmp 6), (.tmp 1), (.tmp 5), (.tmp 7), (.tmp 9), (.tmp 12), (.tmp 78)] []) k) := (kR_mk hR rfl)
  intro σ H
  rw [hk]
  show lxK cal φ N (veneerlaw07DescSetsXC13 cVeneerlaw07Awake cDescNew cVeneerlaw07Play cVeneerDescTableAll cVeneerDescTableGet cVeneerDescTableSet cVeneerref07Same cVeneerDescTableClose) σ H (seqK (lxK cal φ N (veneerlaw07DescSetsXC14 cVeneerlaw07Awake cDescNew cVeneerlaw07Play cVeneerDescTableAll cVeneerDescTableGet cVeneerDescTableSet cVeneerref07Same cVeneerDescTableClose)) (kR (resK [(.tmp 6), (.tmp 1), (.tmp 5), (.tmp 7), (.tmp 9), (.tmp 12), (.tmp 78)] []) k)) = _
  rw [seqK_mk (g := fun σ H => veneerlaw07DescSetsXC14S cal φ N cVeneerlaw07Awake cDescNew cVeneerlaw07Play cVeneerDescTableAll cVeneerDescTableGet cVeneerDescTableSet cVeneerref07Same cVeneerDescTableClose (lk σ 1) (lk σ 5) (lk σ 7) (lk σ 9) (lk σ 12) (lk σ 78) H) (veneerlaw07DescSetsXC14Eq cal φ N cVeneerlaw07Awake cDescNew cVeneerlaw07Play cVeneerDescTableAll cVeneerDescTableGet cVeneerDescTableSet cVeneerref07Same cVeneerDescTableClose (k := (kR (resK [(.tmp 6), (.tmp 1), (.tmp 5), (.tmp 7), (.tmp 9), (.tmp 12), (.tmp 78)] []) k)) (fun _ _ => rfl))]
  exact veneerlaw07DescSetsXC13Eq cal φ N cVeneerlaw07Awake cDescNew cVeneerlaw07Play cVeneerDescTableAll cVeneerDescTableGet cVeneerDescTableSet cVeneerref07Same cVeneerDescTableClose (k := (kN (fun σ H => veneerlaw07DescSetsXC14S cal φ N cVeneerlaw07Awake cDescNew cVeneerlaw07Play cVeneerDescTableAll cVeneerDescTableGet cVeneerDescTableSet cVeneerref07Same cVeneerDescTableClose (lk σ 1) (lk σ 5) (lk σ 7) (lk σ 9) (lk σ 12) (lk σ 78) H) (kR (resK [(.tmp 6), (.tmp 1), (.tmp 5), (.tmp 7), (.tmp 9), (.tmp 12), (.tmp 78)] []) k))) (fun v1 v5 v7 v9 v12 v78 H => veneerlaw07DescSetsXC14S cal φ N cVeneerlaw07Awake cDescNew cVeneerlaw07Play cVeneerDescTableAll cVeneerDescTableGet cVeneerDescTableSet cVeneerref07Same cVeneerDescTableClose v1 v5 v7 v9 v12 v78 H) (fun _ _ => rfl) (fun _ _ => rfl) σ H
def veneerlaw07DescSetsXC3S (cal : FuncId → Bool) (φ : Oracle) (N : Nat) (cVeneerlaw07Awake cDescNew cVeneerlaw07Play cVeneerDescTableAll cVeneerDescTableGet cVeneerDescTableSet cVeneerref07Same cVeneerDescTableClose : FuncId) (gE2 : IV → IV → IV → IV → IV → Heap → Option (IV × Heap)) : Nat → IV → IV → IV → IV → IV → IV → IV → IV → Heap → Option (IV × Heap)
  | 0, _, _, _, _, _, _, _, _, _ => none
  | n + 1, v1, v5, v7, v9, v48, v49, v50, v78, H =>
    ob (lbin .lss v50 v49) fun t1 =>
    cnd t1
    (ob (lix 1 v48 v50) fun t2 =>
    ob (lload1 H t2) fun t3 =>
    ob (φ cVeneerDescTableGet [v7, t3] H) fun r4 =>
    ob (iextract r4.1 0) fun t5 =>
    ob (iextract r4.1 1) fun t6 =>
    ob (lupdV r4.2 .int v9 t3 t5) fun r7 =>
    ob (lbin .add v50 (.int .i64 1)) fun t8 =>
    veneerlaw07DescSetsXC3S cal φ N cVeneerlaw07Awake cDescNew cVeneerlaw07Play cVeneerDescTableAll cVeneerDescTableGet cVeneerDescTableSet cVeneerref07Same cVeneerDescTableClose gE2 n v1 v5 v7 v9 v48 v49 t8 v78 r7.2)
    (gE2 v1 v5 v7 v9 v78 H)
theorem veneerlaw07DescSetsXC3Eq (cal : FuncId → Bool) (φ : Oracle) (N : Nat) (cVeneerlaw07Awake cDescNew cVeneerlaw07Play cVeneerDescTableAll cVeneerDescTableGet cVeneerDescTableSet cVeneerref07Same cVeneerDescTableClose : FuncId) {k : KT (IV × Heap)} (gE2 : IV → IV → IV → IV → IV → Heap → Option (IV × Heap)) (hgE2 : ∀ σ H, k (.exit 2) σ H = gE2 (lk σ 1) (lk σ 5) (lk σ 7) (lk σ 9) (lk σ 78) H) : ∀ (n : Nat) (σ : Sg) (H : Heap), itK (lxK cal φ N (.seq (.reg [
    ⟨(some 51), (.bin .lss (.t 50) (.t 49)), none⟩])
  (.seq (.cond (.t 51) .skip
  (.exit 2))
  (.seq (.block 3 (.seq (.reg [
    ⟨(some 52), (.ix 1 (.t 48) (.t 50)), none⟩,
    ⟨(some 53), (.ld1 (.t 52)), none⟩,
    ⟨(some 11), (.mv (.t 53)), none⟩])
  (.reg [
    ⟨(some 55), (.mv (.t 9)), none⟩,
    ⟨(some 56), (.mv (.t 11)), none⟩,
    ⟨(some 57), (.mv (.t 7)), none⟩,
    ⟨(some 58), (.mv (.t 11)), none⟩,
    ⟨(some 59), (.callF cVeneerDescTableGet [(.t 57), (.t 58)]), none⟩,
    ⟨(some 54), (.mv (.t 59)), none⟩,
    ⟨(some 60), (.ext (.t 54) 0), none⟩,
    ⟨(some 61), (.ext (.t 54) 1), none⟩,
    ⟨none, (.upd .int (.t 55) (.t 56) (.t 60)), none⟩])))
  (.reg [
    ⟨(some 62), (.bin .add (.t 50) (.k (.int .i64 1))), none⟩,
    ⟨(some 50), (.mv (.t 62)), none⟩]))))) n σ H k = veneerlaw07DescSetsXC3S cal φ N cVeneerlaw07Awake cDescNew cVeneerlaw07Play cVeneerDescTableAll cVeneerDescTableGet cVeneerDescTableSet cVeneerref07Same cVeneerDescTableClose gE2 n (lk σ 1) (lk σ 5) (lk σ 7) (lk σ 9) (lk σ 48) (lk σ 49) (lk σ 50) (lk σ 78) H := by
  have hk : k = (kE 2 (fun σ H => gE2 (lk σ 1) (lk σ 5) (lk σ 7) (lk σ 9) (lk σ 78) H) k) := (kE_mk hgE2 rfl)
  intro n
  induction n with
  | zero => intro σ H; rfl
  | succ n ih =>
    intro σ H
    rw [itK_succ, seqK_mk (g := fun σ H => veneerlaw07DescSetsXC3S cal φ N cVeneerlaw07Awake cDescNew cVeneerlaw07Play cVeneerDescTableAll cVeneerDescTableGet cVeneerDescTableSet cVeneerref07Same cVeneerDescTableClose gE2 n (lk σ 1) (lk σ 5) (lk σ 7) (lk σ 9) (lk σ 48) (lk σ 49) (lk σ 50) (lk σ 78) H) ih, hk]
    kernel_rfl
def veneerlaw07DescSetsXC4S (cal : FuncId → Bool) (φ : Oracle) (N : Nat) (cVeneerlaw07Awake cDescNew cVeneerlaw07Play cVeneerDescTableAll cVeneerDescTableGet cVeneerDescTableSet cVeneerref07Same cVeneerDescTableClose : FuncId) (gN : IV → IV → IV → IV → IV → Heap → Option (IV × Heap)) (v1 v5 v7 v9 v48 v49 v50 v78 : IV) (H : Heap) : Option (IV × Heap) :=
    veneerlaw07DescSetsXC3S cal φ N cVeneerlaw07Awake cDescNew cVeneerlaw07Play cVeneerDescTableAll cVeneerDescTableGet cVeneerDescTableSet cVeneerref07Same cVeneerDescTableClose (fun v1 v5 v7 v9 v78 H => gN v1 v5 v7 v9 v78 H) N v1 v5 v7 v9 v48 v49 v50 v78 H
theorem veneerlaw07DescSetsXC4Eq (cal : FuncId → Bool) (φ : Oracle) (N : Nat) (cVeneerlaw07Awake cDescNew cVeneerlaw07Play cVeneerDescTableAll cVeneerDescTableGet cVeneerDescTableSet cVeneerref07Same cVeneerDescTableClose : FuncId) {k : KT (IV × Heap)} (gN : IV → IV → IV → IV → IV → Heap → Option (IV × Heap)) (hgN : ∀ σ H, k .normal σ H = gN (lk σ 1) (lk σ 5) (lk σ 7) (lk σ 9) (lk σ 78) H) : ∀ (σ : Sg) (H : Heap), lxK cal φ N (veneerlaw07DescSetsXC4 cVeneerlaw07Awake cDescNew cVeneerlaw07Play cVeneerDescTableAll cVeneerDescTableGet cVeneerDescTableSet cVeneerref07Same cVeneerDescTableClose) σ H k = veneerlaw07DescSetsXC4S cal φ N cVeneerlaw07Awake cDescNew cVeneerlaw07Play cVeneerDescTableAll cVeneerDescTableGet cVeneerDescTableSet cVeneerref07Same cVeneerDescTableClose gN (lk σ 1) (lk σ 5) (lk σ 7) (lk σ 9) (lk σ 48) (lk σ 49) (lk σ 50) (lk σ 78) H := by
  have hk : k = (kN (fun σ H => gN (lk σ 1) (lk σ 5) (lk σ 7) (lk σ 9) (lk σ 78) H) k) := (kN_mk hgN rfl)
  intro σ H
  rw [hk]
  show lxK cal φ N (veneerlaw07DescSetsXC3 cVeneerlaw07Awake cDescNew cVeneerlaw07Play cVeneerDescTableAll cVeneerDescTableGet cVeneerDescTableSet cVeneerref07Same cVeneerDescTableClose) σ H (blockK 2 (kN (fun σ H => gN (lk σ 1) (lk σ 5) (lk σ 7) (lk σ 9) (lk σ 78) H) k)) = _
  exact veneerlaw07DescSetsXC3Eq cal φ N cVeneerlaw07Awake cDescNew cVeneerlaw07Play cVeneerDescTableAll cVeneerDescTableGet cVeneerDescTableSet cVeneerref07Same cVeneerDescTableClose (k := (blockK 2 (kN (fun σ H => gN (lk σ 1) (lk σ 5) (lk σ 7) (lk σ 9) (lk σ 78) H) k))) (fun v1 v5 v7 v9 v78 H => gN v1 v5 v7 v9 v78 H) (fun _ _ => rfl) N σ H
def veneerlaw07DescSetsXC5S (cal : FuncId → Bool) (φ : Oracle) (N : Nat) (cVeneerlaw07Awake cDescNew cVeneerlaw07Play cVeneerDescTableAll cVeneerDescTableGet cVeneerDescTableSet cVeneerref07Same cVeneerDescTableClose : FuncId) (gN : IV → IV → IV → IV → IV → Heap → Option (IV × Heap)) (v1 v5 v7 v9 v78 : IV) (H : Heap) : Option (IV × Heap) :=
    ob (φ cVeneerDescTableAll [v7] H) fun r1 =>
    ob (llen r1.2 .slice r1.1) fun t2 =>
    veneerlaw07DescSetsXC4S cal φ N cVeneerlaw07Awake cDescNew cVeneerlaw07Play cVeneerDescTableAll cVeneerDescTableGet cVeneerDescTableSet cVeneerref07Same cVeneerDescTableClose (fun v1 v5 v7 v9 v78 H => gN v1 v5 v7 v9 v78 H) v1 v5 v7 v9 r1.1 t2 (.int .i64 0) v78 r1.2
theorem veneerlaw07DescSetsXC5Eq (cal : FuncId → Bool) (φ : Oracle) (N : Nat) (cVeneerlaw07Awake cDescNew cVeneerlaw07Play cVeneerDescTableAll cVeneerDescTableGet cVeneerDescTableSet cVeneerref07Same cVeneerDescTableClose : FuncId) {k : KT (IV × Heap)} (gN : IV → IV → IV → IV → IV → Heap → Option (IV × Heap)) (hgN : ∀ σ H, k .normal σ H = gN (lk σ 1) (lk σ 5) (lk σ 7) (lk σ 9) (lk σ 78) H) : ∀ (σ : Sg) (H : Heap), lxK cal φ N (veneerlaw07DescSetsXC5 cVeneerlaw07Awake cDescNew cVeneerlaw07Play cVeneerDescTableAll cVeneerDescTableGet cVeneerDescTableSet cVeneerref07Same cVeneerDescTableClose) σ H k = veneerlaw07DescSetsXC5S cal φ N cVeneerlaw07Awake cDescNew cVeneerlaw07Play cVeneerDescTableAll cVeneerDescTableGet cVeneerDescTableSet cVeneerref07Same cVeneerDescTableClose gN (lk σ 1) (lk σ 5) (lk σ 7) (lk σ 9) (lk σ 78) H := by
  have hk : k = (kN (fun σ H => gN (lk σ 1) (lk σ 5) (lk σ 7) (lk σ 9) (lk σ 78) H) k) := (kN_mk hgN rfl)
  intro σ H
  rw [hk]
  show lxK cal φ N (.reg [
    ⟨(some 47), (.mv (.t 7)), none⟩,
    ⟨(some 48), (.callF cVeneerDescTableAll [(.t 47)]), none⟩,
    ⟨(some 49), (.len .slice (.t 48)), none⟩,
    ⟨(some 50), (.mv (.k (.int .i64 0))), none⟩]) σ H (seqK (lxK cal φ N (veneerlaw07DescSetsXC4 cVeneerlaw07Awake cDescNew cVeneerlaw07Play cVeneerDescTableAll cVeneerDescTableGet cVeneerDescTableSet cVeneerref07Same cVeneerDescTableClose)) (kN (fun σ H => gN (lk σ 1) (lk σ 5) (lk σ 7) (lk σ 9) (lk σ 78) H) k)) = _
  rw [seqK_mk (g := fun σ H => veneerlaw07DescSetsXC4S cal φ N cVeneerlaw07Awake cDescNew cVeneerlaw07Play cVeneerDescTableAll cVeneerDescTableGet cVeneerDescTableSet cVeneerref07Same cVeneerDescTableClose (fun v1 v5 v7 v9 v78 H => gN v1 v5 v7 v9 v78 H) (lk σ 1) (lk σ 5) (lk σ 7) (lk σ 9) (lk σ 48) (lk σ 49) (lk σ 50) (lk σ 78) H) (veneerlaw07DescSetsXC4Eq cal φ N cVeneerlaw07Awake cDescNew cVeneerlaw07Play cVeneerDescTableAll cVeneerDescTableGet cVeneerDescTableSet cVeneerref07Same cVeneerDescTableClose (k := (kN (fun σ H => gN (lk σ 1) (lk σ 5) (lk σ 7) (lk σ 9) (lk σ 78) H) k)) (fun v1 v5 v7 v9 v78 H => gN v1 v5 v7 v9 v78 H) (fun _ _ => rfl))]
  kernel_rfl
def veneerlaw07DescSetsXC6S (cal : FuncId → Bool) (φ : Oracle) (N : Nat) (cVeneerlaw07Awake cDescNew cVeneerlaw07Play cVeneerDescTableAll cVeneerDescTableGet cVeneerDescTableSet cVeneerref07Same cVeneerDescTableClose : FuncId) (gN : IV → IV → IV → IV → IV → IV → Heap → Option (IV × Heap)) (v1 v5 v7 v9 v78 : IV) (H : Heap) : Option (IV × Heap) :=
    veneerlaw07DescSetsXC5S cal φ N cVeneerlaw07Awake cDescNew cVeneerlaw07Play cVeneerDescTableAll cVeneerDescTableGet cVeneerDescTableSet cVeneerref07Same cVeneerDescTableClose (fun v1 v5 v7 v9 v78 H => ob (lloadn H 6 v5) fun t1 =>
    ob (φ cVeneerDescTableSet [v7, v1, t1] H) fun r2 =>
    ob (llookup r2.2 .int (.agg [(.int .i64 0), (.int .i64 0), (.int .i64 0), (.bool false), .nilSlice, (.int .i64 0)]) true v9 v1) fun t3 =>
    ob (iextract t3 0) fun t4 =>
    ob (iextract t3 1) fun t5 =>
    ob (lzbox r2.2 (.agg [(.int .i64 0), (.int .i64 0), (.int .i64 0), (.bool false), .nilSlice, (.int .i64 0)])) fun r6 =>
    ob (lstV r6.2 6 r6.1 t4) fun r7 =>
    ob (lbin .eql r2.1 (.int .i64 0)) fun t8 =>
    ob (leqv true (leq .bool t5 t8)) fun t9 =>
    cnd t9
    (some ((.tuple [(.bool false), v1, v5, v7, v9, r2.1, v78]), r7.2))
    (gN v1 v5 v7 v9 r2.1 v78 r7.2)) v1 v5 v7 v9 v78 H
theorem veneerlaw07DescSetsXC6Eq (cal : FuncId → Bool) (φ : Oracle) (N : Nat) (cVeneerlaw07Awake cDescNew cVeneerlaw07Play cVeneerDescTableAll cVeneerDescTableGet cVeneerDescTableSet cVeneerref07Same cVeneerDescTableClose : FuncId) {k : KT (IV × Heap)} (gN : IV → IV → IV → IV → IV → IV → Heap → Option (IV × Heap)) (hgN : ∀ σ H, k .normal σ H = gN (lk σ 1) (lk σ 5) (lk σ 7) (lk σ 9) (lk σ 12) (lk σ 78) H) (hR : ∀ σ H, k .ret σ H = resK [(.tmp 6), (.tmp 1), (.tmp 5), (.tmp 7), (.tmp 9), (.tmp 12), (.tmp 78)] [] σ H) : ∀ (σ : Sg) (H : Heap), lxK cal φ N (veneerlaw07DescSetsXC6 cVeneerlaw07Awake cDescNew cVeneerlaw07Play cVeneerDescTableAll cVeneerDescTableGet cVeneerDescTableSet cVeneerref07Same cVeneerDescTableClose) σ H k = veneerlaw07DescSetsXC6S cal φ N cVeneerlaw07Awake cDescNew cVeneerlaw07Play cVeneerDescTableAll cVeneerDescTableGet cVeneerDescTableSet cVeneerref07Same cVeneerDescTableClose gN (lk σ 1) (lk σ 5) (lk σ 7) (lk σ 9) (lk σ 78) H := by
  have hk : k = (kN (fun σ H => gN (lk σ 1) (lk σ 5) (lk σ 7) (lk σ 9) (lk σ 12) (lk σ 78) H) (kR (resK [(.tmp 6), (.tmp 1), (.tmp 5), (.tmp 7), (.tmp 9), (.tmp 12), (.tmp 78)] []) k)) := (kN_mk hgN (kR_mk hR rfl))
  intro σ H
  rw [hk]
  show lxK cal φ N (veneerlaw07DescSetsXC5 cVeneerlaw07Awake cDescNew cVeneerlaw07Play cVeneerDescTableAll cVeneerDescTableGet cVeneerDescTableSet cVeneerref07Same cVeneerDescTableClose) σ H (seqK (lxK cal φ N (.seq (.reg [
    ⟨(some 63), (.mv (.t 7)), none⟩,
    ⟨(some 64), (.mv (.t 1)), none⟩,
    ⟨(some 65), (.ldn 6 (.t 5)), none⟩,
    ⟨(some 66), (.callF cVeneerDescTableSet [(.t 63), (.t 64), (.t 65)]), none⟩,
    ⟨(some 12), (.mv (.t 66)), none⟩])
  (.seq (.reg [
    ⟨(some 68), (.mv (.t 9)), none⟩,
    ⟨(some 69), (.mv (.t 1)), none⟩,
    ⟨(some 70), (.lkp .int (.agg [(.int .i64 0), (.int .i64 0), (.int .i64 0), (.bool false), .nilSlice, (.int .i64 0)]) true (.t 68) (.t 69)), none⟩,
    ⟨(some 67), (.mv (.t 70)), none⟩,
    ⟨(some 71), (.ext (.t 67) 0), none⟩,
    ⟨(some 72), (.ext (.t 67) 1), none⟩,
    ⟨(some 13), (.zbox (.agg [(.int .i64 0), (.int .i64 0), (.int .i64 0), (.bool false), .nilSlice, (.int .i64 0)])), none⟩,
    ⟨none, (.st 6 (.t 13) (.t 71)), none⟩,
    ⟨(some 14), (.mv (.t 72)), none⟩])
  (.seq (.reg [
    ⟨(some 73), (.mv (.t 14)), none⟩,
    ⟨(some 74), (.mv (.t 12)), none⟩,
    ⟨(some 75), (.bin .eql (.t 74) (.k (.int .i64 0))), none⟩,
    ⟨(some 76), (.eqv true .bool (.t 73) (.t 75)), none⟩])
  (.cond (.t 76) (.seq (.reg [
    ⟨(some 6), (.mv (.k (.bool false))), none⟩])
  .ret)
  .skip))))) (kN (fun σ H => gN (lk σ 1) (lk σ 5) (lk σ 7) (lk σ 9) (lk σ 12) (lk σ 78) H) (kR (resK [(.tmp 6), (.tmp 1), (.tmp 5), (.tmp 7), (.tmp 9), (.tmp 12), (.tmp 78)] []) k))) = _
  exact veneerlaw07DescSetsXC5Eq cal φ N cVeneerlaw07Awake cDescNew cVeneerlaw07Play cVeneerDescTableAll cVeneerDescTableGet cVeneerDescTableSet cVeneerref07Same cVeneerDescTableClose (k := (seqK (lxK cal φ N (.seq (.reg [
    ⟨(some 63), (.mv (.t 7)), none⟩,
    ⟨(some 64), (.mv (.t 1)), none⟩,
    ⟨(some 65), (.ldn 6 (.t 5)), none⟩,
    ⟨(some 66), (.callF cVeneerDescTableSet [(.t 63), (.t 64), (.t 65)]), none⟩,
    ⟨(some 12), (.mv (.t 66)), none⟩])
  (.seq (.reg [
    ⟨(some 68), (.mv (.t 9)), none⟩,
    ⟨(some 69), (.mv (.t 1)), none⟩,
    ⟨(some 70), (.lkp .int (.agg [(.int .i64 0), (.int .i64 0), (.int .i64 0), (.bool false), .nilSlice, (.int .i64 0)]) true (.t 68) (.t 69)), none⟩,
    ⟨(some 67), (.mv (.t 70)), none⟩,
    ⟨(some 71), (.ext (.t 67) 0), none⟩,
    ⟨(some 72), (.ext (.t 67) 1), none⟩,
    ⟨(some 13), (.zbox (.agg [(.int .i64 0), (.int .i64 0), (.int .i64 0), (.bool false), .nilSlice, (.int .i64 0)])), none⟩,
    ⟨none, (.st 6 (.t 13) (.t 71)), none⟩,
    ⟨(some 14), (.mv (.t 72)), none⟩])
  (.seq (.reg [
    ⟨(some 73), (.mv (.t 14)), none⟩,
    ⟨(some 74), (.mv (.t 12)), none⟩,
    ⟨(some 75), (.bin .eql (.t 74) (.k (.int .i64 0))), none⟩,
    ⟨(some 76), (.eqv true .bool (.t 73) (.t 75)), none⟩])
  (.cond (.t 76) (.seq (.reg [
    ⟨(some 6), (.mv (.k (.bool false))), none⟩])
  .ret)
  .skip))))) (kN (fun σ H => gN (lk σ 1) (lk σ 5) (lk σ 7) (lk σ 9) (lk σ 12) (lk σ 78) H) (kR (resK [(.tmp 6), (.tmp 1), (.tmp 5), (.tmp 7), (.tmp 9), (.tmp 12), (.tmp 78)] []) k)))) (fun v1 v5 v7 v9 v78 H => ob (lloadn H 6 v5) fun t1 =>
ob (φ cVeneerDescTableSet [v7, v1, t1] H) fun r2 =>
ob (llookup r2.2 .int (.agg [(.int .i64 0), (.int .i64 0), (.int .i64 0), (.bool false), .nilSlice, (.int .i64 0)]) true v9 v1) fun t3 =>
ob (iextract t3 0) fun t4 =>
ob (iextract t3 1) fun t5 =>
ob (lzbox r2.2 (.agg [(.int .i64 0), (.int .i64 0), (.int .i64 0), (.bool false), .nilSlice, (.int .i64 0)])) fun r6 =>
ob (lstV r6.2 6 r6.1 t4) fun r7 =>
ob (lbin .eql r2.1 (.int .i64 0)) fun t8 =>
ob (leqv true (leq .bool t5 t8)) fun t9 =>
cnd t9
(some ((.tuple [(.bool false), v1, v5, v7, v9, r2.1, v78]), r7.2))
(gN v1 v5 v7 v9 r2.1 v78 r7.2)) (fun _ _ => rfl) σ H
def veneerlaw07DescSetsXC7S (cal : FuncId → Bool) (φ : Oracle) (N : Nat) (cVeneerlaw07Awake cDescNew cVeneerlaw07Play cVeneerDescTableAll cVeneerDescTableGet cVeneerDescTableSet cVeneerref07Same cVeneerDescTableClose : FuncId) (gN : IV → IV → IV → IV → IV → IV → Heap → Option (IV × Heap)) (v1 v5 v7 v9 v12 v78 : IV) (H : Heap) : Option (IV × Heap) :=
    ob (lmkM H) fun r1 =>
    veneerlaw07DescSetsXC6S cal φ N cVeneerlaw07Awake cDescNew cVeneerlaw07Play cVeneerDescTableAll cVeneerDescTableGet cVeneerDescTableSet cVeneerref07Same cVeneerDescTableClose (fun v1 v5 v7 v9 v12 v78 H => gN v1 v5 v7 v9 v12 v78 H) v1 v5 v7 r1.1 v78 r1.2
theorem veneerlaw07DescSetsXC7Eq (cal : FuncId → Bool) (φ : Oracle) (N : Nat) (cVeneerlaw07Awake cDescNew cVeneerlaw07Play cVeneerDescTableAll cVeneerDescTableGet cVeneerDescTableSet cVeneerref07Same cVeneerDescTableClose : FuncId) {k : KT (IV × Heap)} (gN : IV → IV → IV → IV → IV → IV → Heap → Option (IV × Heap)) (hgN : ∀ σ H, k .normal σ H = gN (lk σ 1) (lk σ 5) (lk σ 7) (lk σ 9) (lk σ 12) (lk σ 78) H) (hR : ∀ σ H, k .ret σ H = resK [(.tmp 6), (.tmp 1), (.tmp 5), (.tmp 7), (.tmp 9), (.tmp 12), (.tmp 78)] [] σ H) : ∀ (σ : Sg) (H : Heap), lxK cal φ N (veneerlaw07DescSetsXC7 cVeneerlaw07Awake cDescNew cVeneerlaw07Play cVeneerDescTableAll cVeneerDescTableGet cVeneerDescTableSet cVeneerref07Same cVeneerDescTableClose) σ H k = veneerlaw07DescSetsXC7S cal φ N cVeneerlaw07Awake cDescNew cVeneerlaw07Play cVeneerDescTableAll cVeneerDescTableGet cVeneerDescTableSet cVeneerref07Same cVeneerDescTableClose gN (lk σ 1) (lk σ 5) (lk σ 7) (lk σ 9) (lk σ 12) (lk σ 78) H := by
  have hk : k = (kN (fun σ H => gN (lk σ 1) (lk σ 5) (lk σ 7) (lk σ 9) (lk σ 12) (lk σ 78) H) (kR (resK [(.tmp 6), (.tmp 1), (.tmp 5), (.tmp 7), (.tmp 9), (.tmp 12), (.tmp 78)] []) k)) := (kN_mk hgN (kR_mk hR rfl))
  intro σ H
  rw [hk]
  show lxK cal φ N (.reg [
    ⟨(some 46), .mkM, none⟩,
    ⟨(some 9), (.mv (.t 46)), none⟩]) σ H (seqK (lxK cal φ N (veneerlaw07DescSetsXC6 cVeneerlaw07Awake cDescNew cVeneerlaw07Play cVeneerDescTableAll cVeneerDescTableGet cVeneerDescTableSet cVeneerref07Same cVeneerDescTableClose)) (kN (fun σ H => gN (lk σ 1) (lk σ 5) (lk σ 7) (lk σ 9) (lk σ 12) (lk σ 78) H) (kR (resK [(.tmp 6), (.tmp 1), (.tmp 5), (.tmp 7), (.tmp 9), (.tmp 12), (.tmp 78)] []) k))) = _
  rw [seqK_mk (g := fun σ H => veneerlaw07DescSetsXC6S cal φ N cVeneerlaw07Awake cDescNew cVeneerlaw07Play cVeneerDescTableAll cVeneerDescTableGet cVeneerDescTableSet cVeneerref07Same cVeneerDescTableClose (fun v1 v5 v7 v9 v12 v78 H => gN v1 v5 v7 v9 v12 v78 H) (lk σ 1) (lk σ 5) (lk σ 7) (lk σ 9) (lk σ 78) H) (veneerlaw07DescSetsXC6Eq cal φ N cVeneerlaw07Awake cDescNew cVeneerlaw07Play cVeneerDescTableAll cVeneerDescTableGet cVeneerDescTableSet cVeneerref07Same cVeneerDescTableClose (k := (kN (fun σ H => gN (lk σ 1) (lk σ 5) (lk σ 7) (lk σ 9) (lk σ 12) (lk σ 78) H) (kR (resK [(.tmp 6), (.tmp 1), (.tmp 5), (.tmp 7), (.tmp 9), (.tmp 12), (.tmp 78)] []) k))) (fun v1 v5 v7 v9 v12 v78 H => gN v1 v5 v7 v9 v12 v78 H) (fun _ _ => rfl) (fun _ _ => rfl))]
  kernel_rfl
def veneerlaw07DescSetsXC0S (cal : FuncId → Bool) (φ : Oracle) (N : Nat) (cVeneerlaw07Awake cDescNew cVeneerlaw07Play cVeneerDescTableAll cVeneerDescTableGet cVeneerDescTableSet cVeneerref07Same cVeneerDescTableClose : FuncId) (gE0 : IV → IV → IV → IV → IV → IV → Heap → Option (IV × Heap)) : Nat → IV → IV → IV → IV → IV → IV → IV → IV → Heap → Option (IV × Heap)
  | 0, _, _, _, _, _, _, _, _, _ => none
  | n + 1, v0, v1, v5, v7, v8, v9, v12, v78, H =>
    ob (llen H .slice v0) fun t1 =>
    ob (lbin .lss v8 t1) fun t2 =>
    ob (gq (isB t2 true) (some v8)) fun t3 =>
    ob (gq (isB t2 true) (lbin .lss t3 (.int .i64 120))) fun t4 =>
    ob (lpick t2 t4 (.bool false)) fun t5 =>
    cnd t5
    (ob (lix 8 v0 v8) fun t6 =>
    ob (lloadn H 8 t6) fun t7 =>
    ob (φ cVeneerlaw07Play [v7, t7] H) fun r8 =>
    ob (lbin .add v8 (.int .i64 1)) fun t9 =>
    veneerlaw07DescSetsXC0S cal φ N cVeneerlaw07Awake cDescNew cVeneerlaw07Play cVeneerDescTableAll cVeneerDescTableGet cVeneerDescTableSet cVeneerref07Same cVeneerDescTableClose gE0 n v0 v1 v5 v7 t9 v9 v12 v78 r8.2)
    (gE0 v1 v5 v7 v9 v12 v78 H)
theorem veneerlaw07DescSetsXC0Eq (cal : FuncId → Bool) (φ : Oracle) (N : Nat) (cVeneerlaw07Awake cDescNew cVeneerlaw07Play cVeneerDescTableAll cVeneerDescTableGet cVeneerDescTableSet cVeneerref07Same cVeneerDescTableClose : FuncId) {k : KT (IV × Heap)} (gE0 : IV → IV → IV → IV → IV → IV → Heap → Option (IV × Heap)) (hgE0 : ∀ σ H, k (.exit 0) σ H = gE0 (lk σ 1) (lk σ 5) (lk σ 7) (lk σ 9) (lk σ 12) (lk σ 78) H) : ∀ (n : Nat) (σ : Sg) (H : Heap), itK (lxK cal φ N (.seq (.seq (.reg [
    ⟨(some 30), (.mv (.t 8)), none⟩,
    ⟨(some 31), (.mv (.t 0)), none⟩,
    ⟨(some 32), (.len .slice (.t 31)), none⟩,
    ⟨(some 33), (.bin .lss (.t 30) (.t 32)), none⟩,
    ⟨(some 34), (.mv (.t 33)), none⟩,
    ⟨(some 35), (.mv (.t 8)), (some (34, true))⟩,
    ⟨(some 36), (.bin .lss (.t 35) (.k (.int .i64 120))), (some (34, true))⟩,
    ⟨(some 37), (.pick (.t 34) (.t 36) (.k (.bool false))), none⟩])
  (.cond (.t 37) .skip
  (.exit 0)))
  (.seq (.block 1 (.reg [
    ⟨(some 40), (.mv (.t 7)), none⟩,
    ⟨(some 41), (.mv (.t 0)), none⟩,
    ⟨(some 42), (.mv (.t 8)), none⟩,
    ⟨(some 43), (.ix 8 (.t 41) (.t 42)), none⟩,
    ⟨(some 44), (.ldn 8 (.t 43)), none⟩,
    ⟨(some 45), (.callF cVeneerlaw07Play [(.t 40), (.t 44)]), none⟩]))
  (.reg [
    ⟨(some 38), (.mv (.t 8)), none⟩,
    ⟨(some 39), (.bin .add (.t 38) (.k (.int .i64 1))), none⟩,
    ⟨(some 8), (.mv (.t 39)), none⟩])))) n σ H k = veneerlaw07DescSetsXC0S cal φ N cVeneerlaw07Awake cDescNew cVeneerlaw07Play cVeneerDescTableAll cVeneerDescTableGet cVeneerDescTableSet cVeneerref07Same cVeneerDescTableClose gE0 n (lk σ 0) (lk σ 1) (lk σ 5) (lk σ 7) (lk σ 8) (lk σ 9) (lk σ 12) (lk σ 78) H := by
  have hk : k = (kE 0 (fun σ H => gE0 (lk σ 1) (lk σ 5) (lk σ 7) (lk σ 9) (lk σ 12) (lk σ 78) H) k) := (kE_mk hgE0 rfl)
  intro n
  induction n with
  | zero => intro σ H; rfl
  | succ n ih =>
    intro σ H
    rw [itK_succ, seqK_mk (g := fun σ H => veneerlaw07DescSetsXC0S cal φ N cVeneerlaw07Awake cDescNew cVeneerlaw07Play cVeneerDescTableAll cVeneerDescTableGet cVeneerDescTableSet cVeneerref07Same cVeneerDescTableClose gE0 n (lk σ 0) (lk σ 1) (lk σ 5) (lk σ 7) (lk σ 8) (lk σ 9) (lk σ 12) (lk σ 78) H) ih, hk]
    kernel_rfl
def veneerlaw07DescSetsXC1S (cal : FuncId → Bool) (φ : Oracle) (N : Nat) (cVeneerlaw07Awake cDescNew cVeneerlaw07Play cVeneerDescTableAll cVeneerDescTableGet cVeneerDescTableSet cVeneerref07Same cVeneerDescTableClose : FuncId) (gN : IV → IV → IV → IV → IV → IV → Heap → Option (IV × Heap)) (v0 v1 v5 v7 v8 v9 v12 v78 : IV) (H : Heap) : Option (IV × Heap) :=
    veneerlaw07DescSetsXC0S cal φ N cVeneerlaw07Awake cDescNew cVeneerlaw07Play cVeneerDescTableAll cVeneerDescTableGet cVeneerDescTableSet cVeneerref07Same cVeneerDescTableClose (fun v1 v5 v7 v9 v12 v78 H => gN v1 v5 v7 v9 v12 v78 H) N v0 v1 v5 v7 v8 v9 v12 v78 H
theorem veneerlaw07DescSetsXC1Eq (cal : FuncId → Bool) (φ : Oracle) (N : Nat) (cVeneerlaw07Awake cDescNew cVeneerlaw07Play cVeneerDescTableAll cVeneerDescTableGet cVeneerDescTableSet cVeneerref07Same cVeneerDescTableClose : FuncId) {k : KT (IV × Heap)} (gN : IV → IV → IV → IV → IV → IV → Heap → Option (IV × Heap)) (hgN : ∀ σ H, k .normal σ H = gN (lk σ 1) (lk σ 5) (lk σ 7) (lk σ 9) (lk σ 12) (lk σ 78) H) : ∀ (σ : Sg) (H : Heap), lxK cal φ N (veneerlaw07DescSetsXC1 cVeneerlaw07Awake cDescNew cVeneerlaw07Play cVeneerDescTableAll cVeneerDescTableGet cVeneerDescTableSet cVeneerref07Same cVeneerDescTableClose) σ H k = veneerlaw07DescSetsXC1S cal φ N cVeneerlaw07Awake cDescNew cVeneerlaw07Play cVeneerDescTableAll cVeneerDescTableGet cVeneerDescTableSet cVeneerref07Same cVeneerDescTableClose gN (lk σ 0) (lk σ 1) (lk σ 5) (lk σ 7) (lk σ 8) (lk σ 9) (lk σ 12) (lk σ 78) H := by
  have hk : k = (kN (fun σ H => gN (lk σ 1) (lk σ 5) (lk σ 7) (lk σ 9) (lk σ 12) (lk σ 78) H) k) := (kN_mk hgN rfl)
  intro σ H
  rw [hk]
  show lxK cal φ N (veneerlaw07DescSetsXC0 cVeneerlaw07Awake cDescNew cVeneerlaw07Play cVeneerDescTableAll cVeneerDescTableGet cVeneerDescTableSet cVeneerref07Same cVeneerDescTableClose) σ H (blockK 0 (kN (fun σ H => gN (lk σ 1) (lk σ 5) (lk σ 7) (lk σ 9) (lk σ 12) (lk σ 78) H) k)) = _
  exact veneerlaw07DescSetsXC0Eq cal φ N cVeneerlaw07Awake cDescNew cVeneerlaw07Play cVeneerDescTableAll cVeneerDescTableGet cVeneerDescTableSet cVeneerref07Same cVeneerDescTableClose (k := (blockK 0 (kN (fun σ H => gN (lk σ 1) (lk σ 5) (lk σ 7) (lk σ 9) (lk σ 12) (lk σ 78) H) k))) (fun v1 v5 v7 v9 v12 v78 H => gN v1 v5 v7 v9 v12 v78 H) (fun _ _ => rfl) N σ H
def veneerlaw07DescSetsXC2S (cal : FuncId → Bool) (φ : Oracle) (N : Nat) (cVeneerlaw07Awake cDescNew cVeneerlaw07Play cVeneerDescTableAll cVeneerDescTableGet cVeneerDescTableSet cVeneerref07Same cVeneerDescTableClose : FuncId) (gN : IV → IV → IV → IV → IV → IV → Heap → Option (IV × Heap)) (v0 v1 v5 v7 v9 v12 v78 : IV) (H : Heap) : Option (IV × Heap) :=
    veneerlaw07DescSetsXC1S cal φ N cVeneerlaw07Awake cDescNew cVeneerlaw07Play cVeneerDescTableAll cVeneerDescTableGet cVeneerDescTableSet cVeneerref07Same cVeneerDescTableClose (fun v1 v5 v7 v9 v12 v78 H => gN v1 v5 v7 v9 v12 v78 H) v0 v1 v5 v7 (.int .i64 0) v9 v12 v78 H
theorem veneerlaw07DescSetsXC2Eq (cal : FuncId → Bool) (φ : Oracle) (N : Nat) (cVeneerlaw07Awake cDescNew cVeneerlaw07Play cVeneerDescTableAll cVeneerDescTableGet cVeneerDescTableSet cVeneerref07Same cVeneerDescTableClose : FuncId) {k : KT (IV × Heap)} (gN : IV → IV → IV → IV → IV → IV → Heap → Option (IV × Heap)) (hgN : ∀ σ H, k .normal σ H = gN (lk σ 1) (lk σ 5) (lk σ 7) (lk σ 9) (lk σ 12) (lk σ 78) H) : ∀ (σ : Sg) (H : Heap), lxK cal φ N (veneerlaw07DescSetsXC2 cVeneerlaw07Awake cDescNew cVeneerlaw07Play cVeneerDescTableAll cVeneerDescTableGet cVeneerDescTableSet cVeneerref07Same cVeneerDescTableClose) σ H k = veneerlaw07DescSetsXC2S cal φ N cVeneerlaw07Awake cDescNew cVeneerlaw07Play cVeneerDescTableAll cVeneerDescTableGet cVeneerDescTableSet cVeneerref07Same cVeneerDescTableClose gN (lk σ 0) (lk σ 1) (lk σ 5) (lk σ 7) (lk σ 9) (lk σ 12) (lk σ 78) H := by
  have hk : k = (kN (fun σ H => gN (lk σ 1) (lk σ 5) (lk σ 7) (lk σ 9) (lk σ 12) (lk σ 78) H) k) := (kN_mk hgN rfl)
  intro σ H
  rw [hk]
  show lxK cal φ N (.reg [
    ⟨(some 8), (.mv (.k (.int .i64 0))), none⟩]) σ H (seqK (lxK cal φ N (veneerlaw07DescSetsXC1 cVeneerlaw07Awake cDescNew cVeneerlaw07Play cVeneerDescTableAll cVeneerDescTableGet cVeneerDescTableSet cVeneerref07Same cVeneerDescTableClose)) (kN (fun σ H => gN (lk σ 1) (lk σ 5) (lk σ 7) (lk σ 9) (lk σ 12) (lk σ 78) H) k)) = _
  rw [seqK_mk (g := fun σ H => veneerlaw07DescSetsXC1S cal φ N cVeneerlaw07Awake cDescNew cVeneerlaw07Play cVeneerDescTableAll cVeneerDescTableGet cVeneerDescTableSet cVeneerref07Same cVeneerDescTableClose (fun v1 v5 v7 v9 v12 v78 H => gN v1 v5 v7 v9 v12 v78 H) (lk σ 0) (lk σ 1) (lk σ 5) (lk σ 7) (lk σ 8) (lk σ 9) (lk σ 12) (lk σ 78) H) (veneerlaw07DescSetsXC1Eq cal φ N cVeneerlaw07Awake cDescNew cVeneerlaw07Play cVeneerDescTableAll cVeneerDescTableGet cVeneerDescTableSet cVeneerref07Same cVeneerDescTableClose (k := (kN (fun σ H => gN (lk σ 1) (lk σ 5) (lk σ 7) (lk σ 9) (lk σ 12) (lk σ 78) H) k)) (fun v1 v5 v7 v9 v12 v78 H => gN v1 v5 v7 v9 v12 v78 H) (fun _ _ => rfl))]
  kernel_rfl
def veneerlaw07DescSetsXC8S (cal : FuncId → Bool) (φ : Oracle) (N : Nat) (cVeneerlaw07Awake cDescNew cVeneerlaw07Play cVeneerDescTableAll cVeneerDescTableGet cVeneerDescTableSet cVeneerref07Same cVeneerDescTableClose : FuncId) (gN : IV → IV → IV → IV → IV → IV → Heap → Option (IV × Heap)) (v0 v1 v5 v7 v9 v12 v78 : IV) (H : Heap) : Option (IV × Heap) :=
    veneerlaw07DescSetsXC2S cal φ N cVeneerlaw07Awake cDescNew cVeneerlaw07Play cVeneerDescTableAll cVeneerDescTableGet cVeneerDescTableSet cVeneerref07Same cVeneerDescTableClose (fun v1 v5 v7 v9 v12 v78 H => veneerlaw07DescSetsXC7S cal φ N cVeneerlaw07Awake cDescNew cVeneerlaw07Play cVeneerDescTableAll cVeneerDescTableGet cVeneerDescTableSet cVeneerref07Same cVeneerDescTableClose (fun v1 v5 v7 v9 v12 v78 H => gN v1 v5 v7 v9 v12 v78 H) v1 v5 v7 v9 v12 v78 H) v0 v1 v5 v7 v9 v12 v78 H
theorem veneerlaw07DescSetsXC8Eq (cal : FuncId → Bool) (φ : Oracle) (N : Nat) (cVeneerlaw07Awake cDescNew cVeneerlaw07Play cVeneerDescTableAll cVeneerDescTableGet cVeneerDescTableSet cVeneerref07Same cVeneerDescTableClose : FuncId) {k : KT (IV × Heap)} (gN : IV → IV → IV → IV → IV → IV → Heap → Option (IV × Heap)) (hgN : ∀ σ H, k .normal σ H = gN (lk σ 1) (lk σ 5) (lk σ 7) (lk σ 9) (lk σ 12) (lk σ 78) H) (hR : ∀ σ H, k .ret σ H = resK [(.tmp 6), (.tmp 1), (.tmp 5), (.tmp 7), (.tmp 9), (.tmp 12), (.tmp 78)] [] σ H) : ∀ (σ : Sg) (H : Heap), lxK cal φ N (veneerlaw07DescSetsXC8 cVeneerlaw07Awake cDescNew cVeneerlaw07Play cVeneerDescTableAll cVeneerDescTableGet cVeneerDescTableSet cVeneerref07Same cVeneerDescTableClose) σ H k = veneerlaw07DescSetsXC8S cal φ N cVeneerlaw07Awake cDescNew cVeneerlaw07Play cVeneerDescTableAll cVeneerDescTableGet cVeneerDescTableSet cVeneerref07Same cVeneerDescTableClose gN (lk σ 0) (lk σ 1) (lk σ 5) (lk σ 7) (lk σ 9) (lk σ 12) (lk σ 78) H := by
  have hk : k = (kN (fun σ H => gN (lk σ 1) (lk σ 5) (lk σ 7) (lk σ 9) (lk σ 12) (lk σ 78) H) (kR (resK [(.tmp 6), (.tmp 1), (.tmp 5), (.tmp 7), (.tmp 9), (.tmp 12), (.tmp 78)] []) k)) := (kN_mk hgN (kR_mk hR rfl))
  intro σ H
  rw [hk]
  show lxK cal φ N (veneerlaw07DescSetsXC2 cVeneerlaw07Awake cDescNew cVeneerlaw07Play cVeneerDescTableAll cVeneerDescTableGet cVeneerDescTableSet cVeneerref07Same cVeneerDescTableClose) σ H (seqK (lxK cal φ N (veneerlaw07DescSetsXC7 cVeneerlaw07Awake cDescNew cVeneerlaw07Play cVeneerDescTableAll cVeneerDescTableGet cVeneerDescTableSet cVeneerref07Same cVeneerDescTableClose)) (kN (fun σ H => gN (lk σ 1) (lk σ 5) (lk σ 7) (lk σ 9) (lk σ 12) (lk σ 78) H) (kR (resK [(.tmp 6), (.tmp 1), (.tmp 5), (.tmp 7), (.tmp 9), (.tmp 12), (.tmp 78)] []) k))) = _
  rw [seqK_mk (g := fun σ H => veneerlaw07DescSetsXC7S cal φ N cVeneerlaw07Awake cDescNew cVeneerlaw07Play cVeneerDescTableAll cVeneerDescTableGet cVeneerDescTableSet cVeneerref07Same cVeneerDescTableClose (fun v1 v5 v7 v9 v12 v78 H => gN v1 v5 v7 v9 v12 v78 H) (lk σ 1) (lk σ 5) (lk σ 7) (lk σ 9) (lk σ 12) (lk σ 78) H) (veneerlaw07DescSetsXC7Eq cal φ N cVeneerlaw07Awake cDescNew cVeneerlaw07Play cVeneerDescTableAll cVeneerDescTableGet cVeneerDescTableSet cVeneerref07Same cVeneerDescTableClose (k := (kN (fun σ H => gN (lk σ 1) (lk σ 5) (lk σ 7) (lk σ 9) (lk σ 12) (lk σ 78) H) (kR (resK [(.tmp 6), (.tmp 1), (.tmp 5), (.tmp 7), (.tmp 9), (.tmp 12), (.tmp 78)] []) k))) (fun v1 v5 v7 v9 v12 v78 H => gN v1 v5 v7 v9 v12 v78 H) (fun _ _ => rfl) (fun _ _ => rfl))]
  exact veneerlaw07DescSetsXC2Eq cal φ N cVeneerlaw07Awake cDescNew cVeneerlaw07Play cVeneerDescTableAll cVeneerDescTableGet cVeneerDescTableSet cVeneerref07Same cVeneerDescTableClose (k := (kN (fun σ H => veneerlaw07DescSetsXC7S cal φ N cVeneerlaw07Awake cDescNew cVeneerlaw07Play cVeneerDescTableAll cVeneerDescTableGet cVeneerDescTableSet cVeneerref07Same cVeneerDescTableClose (fun v1 v5 v7 v9 v12 v78 H => gN v1 v5 v7 v9 v12 v78 H) (lk σ 1) (lk σ 5) (lk σ 7) (lk σ 9) (lk σ 12) (lk σ 78) H) (kN (fun σ H => gN (lk σ 1) (lk σ 5) (lk σ 7) (lk σ 9) (lk σ 12) (lk σ 78) H) (kR (resK [(.tmp 6), (.tmp 1), (.tmp 5), (.tmp 7), (.tmp 9), (.tmp 12), (.tmp 78)] []) k)))) (fun v1 v5 v7 v9 v12 v78 H => veneerlaw07DescSetsXC7S cal φ N cVeneerlaw07Awake cDescNew cVeneerlaw07Play cVeneerDescTableAll cVeneerDescTableGet cVeneerDescTableSet cVeneerref07Same cVeneerDescTableClose (fun v1 v5 v7 v9 v12 v78 H => gN v1 v5 v7 v9 v12 v78 H) v1 v5 v7 v9 v12 v78 H) (fun _ _ => rfl) σ H
def veneerlaw07DescSetsXC9S (cal : FuncId → Bool) (φ : Oracle) (N : Nat) (cVeneerlaw07Awake cDescNew cVeneerlaw07Play cVeneerDescTableAll cVeneerDescTableGet cVeneerDescTableSet cVeneerref07Same cVeneerDescTableClose : FuncId) (gN : IV → IV → IV → IV → IV → IV → Heap → Option (IV × Heap)) (v0 v1 v5 v7 v9 v12 v78 : IV) (H : Heap) : Option (IV × Heap) :=
    ob (loff v5 4) fun t1 =>
    ob (lload1 H t1) fun t2 =>
    ob (llen H .slice t2) fun t3 =>
    ob (lbin .gtr t3 (.int .i64 100)) fun t4 =>
    cnd t4
    (some ((.tuple [(.bool true), v1, v5, v7, v9, v12, v78]), H))
    (veneerlaw07DescSetsXC8S cal φ N cVeneerlaw07Awake cDescNew cVeneerlaw07Play cVeneerDescTableAll cVeneerDescTableGet cVeneerDescTableSet cVeneerref07Same cVeneerDescTableClose (fun v1 v5 v7 v9 v12 v78 H => gN v1 v5 v7 v9 v12 v78 H) v0 v1 v5 v7 v9 v12 v78 H)
theorem veneerlaw07DescSetsXC9Eq (cal : FuncId → Bool) (φ : Oracle) (N : Nat) (cVeneerlaw07Awake cDescNew cVeneerlaw07Play cVeneerDescTableAll cVeneerDescTableGet cVeneerDescTableSet cVeneerref07Same cVeneerDescTableClose : FuncId) {k : KT (IV × Heap)} (gN : IV → IV → IV → IV → IV → IV → Heap → Option (IV × Heap)) (hgN : ∀ σ H, k .normal σ H = gN (lk σ 1) (lk σ 5) (lk σ 7) (lk σ 9) (lk σ 12) (lk σ 78) H) (hR : ∀ σ H, k .ret σ H = resK [(.tmp 6), (.tmp 1), (.tmp 5), (.tmp 7), (.tmp 9), (.tmp 12), (.tmp 78)] [] σ H) : ∀ (σ : Sg) (H : Heap), lxK cal φ N (veneerlaw07DescSetsXC9 cVeneerlaw07Awake cDescNew cVeneerlaw07Play cVeneerDescTableAll cVeneerDescTableGet cVeneerDescTableSet cVeneerref07Same cVeneerDescTableClose) σ H k = veneerlaw07DescSetsXC9S cal φ N cVeneerlaw07Awake cDescNew cVeneerlaw07Play cVeneerDescTableAll cVeneerDescTableGet cVeneerDescTableSet cVeneerref07Same cVeneerDescTableClose gN (lk σ 0) (lk σ 1) (lk σ 5) (lk σ 7) (lk σ 9) (lk σ 12) (lk σ 78) H := by
  have hk : k = (kN (fun σ H => gN (lk σ 1) (lk σ 5) (lk σ 7) (lk σ 9) (lk σ 12) (lk σ 78) H) (kR (resK [(.tmp 6), (.tmp 1), (.tmp 5), (.tmp 7), (.tmp 9), (.tmp 12), (.tmp 78)] []) k)) := (kN_mk hgN (kR_mk hR rfl))
  intro σ H
  rw [hk]
  show lxK cal φ N (.seq (.reg [
    ⟨(some 26), (.off (.t 5) 4), none⟩,
    ⟨(some 27), (.ld1 (.t 26)), none⟩,
    ⟨(some 28), (.len .slice (.t 27)), none⟩,
    ⟨(some 29), (.bin .gtr (.t 28) (.k (.int .i64 100))), none⟩])
  (.cond (.t 29) (.seq (.reg [
    ⟨(some 6), (.mv (.k (.bool true))), none⟩])
  .ret)
  .skip)) σ H (seqK (lxK cal φ N (veneerlaw07DescSetsXC8 cVeneerlaw07Awake cDescNew cVeneerlaw07Play cVeneerDescTableAll cVeneerDescTableGet cVeneerDescTableSet cVeneerref07Same cVeneerDescTableClose)) (kN (fun σ H => gN (lk σ 1) (lk σ 5) (lk σ 7) (lk σ 9) (lk σ 12) (lk σ 78) H) (kR (resK [(.tmp 6), (.tmp 1), (.tmp 5), (.tmp 7), (.tmp 9), (.tmp 12), (.tmp 78)] []) k))) = _
  rw [seqK_mk (g := fun σ H => veneerlaw07DescSetsXC8S cal φ N cVeneerlaw07Awake cDescNew cVeneerlaw07Play cVeneerDescTableAll cVeneerDescTableGet cVeneerDescTableSet cVeneerref07Same cVeneerDescTableClose (fun v1 v5 v7 v9 v12 v78 H => gN v1 v5 v7 v9 v12 v78 H) (lk σ 0) (lk σ 1) (lk σ 5) (lk σ 7) (lk σ 9) (lk σ 12) (lk σ 78) H) (veneerlaw07DescSetsXC8Eq cal φ N cVeneerlaw07Awake cDescNew cVeneerlaw07Play cVeneerDescTableAll cVeneerDescTableGet cVeneerDescTableSet cVeneerref07Same cVeneerDescTableClose (k := (kN (fun σ H => gN (lk σ 1) (lk σ 5) (lk σ 7) (lk σ 9) (lk σ 12) (lk σ 78) H) (kR (resK [(.tmp 6), (.tmp 1), (.tmp 5), (.tmp 7), (.tmp 9), (.tmp 12), (.tmp 78)] []) k))) (fun v1 v5 v7 v9 v12 v78 H => gN v1 v5 v7 v9 v12 v78 H) (fun _ _ => rfl) (fun _ _ => rfl))]
  kernel_rfl
def veneerlaw07DescSetsXC10S (cal : FuncId → Bool) (φ : Oracle) (N : Nat) (cVeneerlaw07Awake cDescNew cVeneerlaw07Play cVeneerDescTableAll cVeneerDescTableGet cVeneerDescTableSet cVeneerref07Same cVeneerDescTableClose : FuncId) (gN : IV → IV → IV → IV → IV → IV → Heap → Option (IV × Heap)) (v0 v1 v5 v7 v9 v12 v78 : IV) (H : Heap) : Option (IV × Heap) :=
    ob (φ cDescNew [] H) fun r1 =>
    veneerlaw07DescSetsXC9S cal φ N cVeneerlaw07Awake cDescNew cVeneerlaw07Play cVeneerDescTableAll cVeneerDescTableGet cVeneerDescTableSet cVeneerref07Same cVeneerDescTableClose (fun v1 v5 v7 v9 v12 v78 H => gN v1 v5 v7 v9 v12 v78 H) v0 v1 v5 r1.1 v9 v12 v78 r1.2
theorem veneerlaw07DescSetsXC10Eq (cal : FuncId → Bool) (φ : Oracle) (N : Nat) (cVeneerlaw07Awake cDescNew cVeneerlaw07Play cVeneerDescTableAll cVeneerDescTableGet cVeneerDescTableSet cVeneerref07Same cVeneerDescTableClose : FuncId) {k : KT (IV × Heap)} (gN : IV → IV → IV → IV → IV → IV → Heap → Option (IV × Heap)) (hgN : ∀ σ H, k .normal σ H = gN (lk σ 1) (lk σ 5) (lk σ 7) (lk σ 9) (lk σ 12) (lk σ 78) H) (hR : ∀ σ H, k .ret σ H = resK [(.tmp 6), (.tmp 1), (.tmp 5), (.tmp 7), (.tmp 9), (.tmp 12), (.tmp 78)] [] σ H) : ∀ (σ : Sg) (H : Heap), lxK cal φ N (veneerlaw07DescSetsXC10 cVeneerlaw07Awake cDescNew cVeneerlaw07Play cVeneerDescTableAll cVeneerDescTableGet cVeneerDescTableSet cVeneerref07Same cVeneerDescTableClose) σ H k = veneerlaw07DescSetsXC10S cal φ N cVeneerlaw07Awake cDescNew cVeneerlaw07Play cVeneerDescTableAll cVeneerDescTableGet cVeneerDescTableSet cVeneerref07Same cVeneerDescTableClose gN (lk σ 0) (lk σ 1) (lk σ 5) (lk σ 7) (lk σ 9) (lk σ 12) (lk σ 78) H := by
  have hk : k = (kN (fun σ H => gN (lk σ 1) (lk σ 5) (lk σ 7) (lk σ 9) (lk σ 12) (lk σ 78) H) (kR (resK [(.tmp 6), (.tmp 1), (.tmp 5), (.tmp 7), (.tmp 9), (.tmp 12), (.tmp 78)] []) k)) := (kN_mk hgN (kR_mk hR rfl))
  intro σ H
  rw [hk]
  show lxK cal φ N (.reg [
    ⟨(some 25), (.callF cDescNew []), none⟩,
    ⟨(some 7), (.mv (.t 25)), none⟩]) σ H (seqK (lxK cal φ N (veneerlaw07DescSetsXC9 cVeneerlaw07Awake cDescNew cVeneerlaw07Play cVeneerDescTableAll cVeneerDescTableGet cVeneerDescTableSet cVeneerref07Same cVeneerDescTableClose)) (kN (fun σ H => gN (lk σ 1) (lk σ 5) (lk σ 7) (lk σ 9) (lk σ 12) (lk σ 78) H) (kR (resK [(.tmp 6), (.tmp 1), (.tmp 5), (.tmp 7), (.tmp 9), (.tmp 12), (.tmp 78)] []) k))) = _
  rw [seqK_mk (g := fun σ H => veneerlaw07DescSetsXC9S cal φ N cVeneerlaw07Awake cDescNew cVeneerlaw07Play cVeneerDescTableAll cVeneerDescTableGet cVeneerDescTableSet cVeneerref07Same cVeneerDescTableClose (fun v1 v5 v7 v9 v12 v78 H => gN v1 v5 v7 v9 v12 v78 H) (lk σ 0) (lk σ 1) (lk σ 5) (lk σ 7) (lk σ 9) (lk σ 12) (lk σ 78) H) (veneerlaw07DescSetsXC9Eq cal φ N cVeneerlaw07Awake cDescNew cVeneerlaw07Play cVeneerDescTableAll cVeneerDescTableGet cVeneerDescTableSet cVeneerref07Same cVeneerDescTableClose (k := (kN (fun σ H => gN (lk σ 1) (lk σ 5) (lk σ 7) (lk σ 9) (lk σ 12) (lk σ 78) H) (kR (resK [(.tmp 6), (.tmp 1), (.tmp 5), (.tmp 7), (.tmp 9), (.tmp 12), (.tmp 78)] []) k))) (fun v1 v5 v7 v9 v12 v78 H => gN v1 v5 v7 v9 v12 v78 H) (fun _ _ => rfl) (fun _ _ => rfl))]
  kernel_rfl
def veneerlaw07DescSetsXC11S (cal : FuncId → Bool) (φ : Oracle) (N : Nat) (cVeneerlaw07Awake cDescNew cVeneerlaw07Play cVeneerDescTableAll cVeneerDescTableGet cVeneerDescTableSet cVeneerref07Same cVeneerDescTableClose : FuncId) (gN : IV → IV → IV → IV → IV → IV → Heap → Option (IV × Heap)) (v0 v1 v5 v7 v9 v12 v78 : IV) (H : Heap) : Option (IV × Heap) :=
    ob (φ cVeneerlaw07Awake [] H) fun r1 =>
    ob (iun .not r1.1) fun t2 =>
    cnd t2
    (some ((.tuple [(.bool false), v1, v5, v7, v9, v12, v78]), r1.2))
    (veneerlaw07DescSetsXC10S cal φ N cVeneerlaw07Awake cDescNew cVeneerlaw07Play cVeneerDescTableAll cVeneerDescTableGet cVeneerDescTableSet cVeneerref07Same cVeneerDescTableClose (fun v1 v5 v7 v9 v12 v78 H => gN v1 v5 v7 v9 v12 v78 H) v0 v1 v5 v7 v9 v12 v78 r1.2)
theorem veneerlaw07DescSetsXC11Eq (cal : FuncId → Bool) (φ : Oracle) (N : Nat) (cVeneerlaw07Awake cDescNew cVeneerlaw07Play cVeneerDescTableAll cVeneerDescTableGet cVeneerDescTableSet cVeneerref07Same cVeneerDescTableClose : FuncId) {k : KT (IV × Heap)} (gN : IV → IV → IV → IV → IV → IV → Heap → Option (IV × Heap)) (hgN : ∀ σ H, k .normal σ H = gN (lk σ 1) (lk σ 5) (lk σ 7) (lk σ 9) (lk σ 12) (lk σ 78) H) (hR : ∀ σ H, k .ret σ H = resK [(.tmp 6), (.tmp 1), (.tmp 5), (.tmp 7), (.tmp 9), (.tmp 12), (.tmp 78)] [] σ H) : ∀ (σ : Sg) (H : Heap), lxK cal φ N (veneerlaw07DescSetsXC11 cVeneerlaw07Awake cDescNew cVeneerlaw07Play cVeneerDescTableAll cVeneerDescTableGet cVeneerDescTableSet cVeneerref07Same cVeneerDescTableClose) σ H k = veneerlaw07DescSetsXC11S cal φ N cVeneerlaw07Awake cDescNew cVeneerlaw07Play cVeneerDescTableAll cVeneerDescTableGet cVeneerDescTableSet cVeneerref07Same cVeneerDescTableClose gN (lk σ 0) (lk σ 1) (lk σ 5) (lk σ 7) (lk σ 9) (lk σ 12) (lk σ 78) H := by
  have hk : k = (kN (fun σ H => gN (lk σ 1) (lk σ 5) (lk σ 7) (lk σ 9) (lk σ 12) (lk σ 78) H) (kR (resK [(.tmp 6), (.tmp 1), (.tmp 5), (.tmp 7), (.tmp 9), (.tmp 12), (.tmp 78)] []) k)) := (kN_mk hgN (kR_mk hR rfl))
  intro σ H
  rw [hk]
  show lxK cal φ N (.seq (.reg [
    ⟨(some 23), (.callF cVeneerlaw07Awake []), none⟩,
    ⟨(some 24), (.un .not (.t 23)), none⟩])
  (.cond (.t 24) (.seq (.reg [
    ⟨(some 6), (.mv (.k (.bool false))), none⟩])
  .ret)
  .skip)) σ H (seqK (lxK cal φ N (veneerlaw07DescSetsXC10 cVeneerlaw07Awake cDescNew cVeneerlaw07Play cVeneerDescTableAll cVeneerDescTableGet cVeneerDescTableSet cVeneerref07Same cVeneerDescTableClose)) (kN (fun σ H => gN (lk σ 1) (lk σ 5) (lk σ 7) (lk σ 9) (lk σ 12) (lk σ 78) H) (kR (resK [(.tmp 6), (.tmp 1), (.tmp 5), (.tmp 7), (.tmp 9), (.tmp 12), (.tmp 78)] []) k))) = _
  rw [seqK_mk (g := fun σ H => veneerlaw07DescSetsXC10S cal φ N cVeneerlaw07Awake cDescNew cVeneerlaw07Play cVeneerDescTableAll cVeneerDescTableGet cVeneerDescTableSet cVeneerref07Same cVeneerDescTableClose (fun v1 v5 v7 v9 v12 v78 H => gN v1 v5 v7 v9 v12 v78 H) (lk σ 0) (lk σ 1) (lk σ 5) (lk σ 7) (lk σ 9) (lk σ 12) (lk σ 78) H) (veneerlaw07DescSetsXC10Eq cal φ N cVeneerlaw07Awake cDescNew cVeneerlaw07Play cVeneerDescTableAll cVeneerDescTableGet cVeneerDescTableSet cVeneerref07Same cVeneerDescTableClose (k := (kN (fun σ H => gN (lk σ 1) (lk σ 5) (lk σ 7) (lk σ 9) (lk σ 12) (lk σ 78) H) (kR (resK [(.tmp 6), (.tmp 1), (.tmp 5), (.tmp 7), (.tmp 9), (.tmp 12), (.tmp 78)] []) k))) (fun v1 v5 v7 v9 v12 v78 H => gN v1 v5 v7 v9 v12 v78 H) (fun _ _ => rfl) (fun _ _ => rfl))]
  kernel_rfl
def veneerlaw07DescSetsXC12S (cal : FuncId → Bool) (φ : Oracle) (N : Nat) (cVeneerlaw07Awake cDescNew cVeneerlaw07Play cVeneerDescTableAll cVeneerDescTableGet cVeneerDescTableSet cVeneerref07Same cVeneerDescTableClose : FuncId) (gN : IV → IV → IV → IV → IV → IV → Heap → Option (IV × Heap)) (v0 v1 v2 v5 v7 v9 v12 v78 : IV) (H : Heap) : Option (IV × Heap) :=
    ob (lbox H v2) fun r1 =>
    veneerlaw07DescSetsXC11S cal φ N cVeneerlaw07Awake cDescNew cVeneerlaw07Play cVeneerDescTableAll cVeneerDescTableGet cVeneerDescTableSet cVeneerref07Same cVeneerDescTableClose (fun v1 v5 v7 v9 v12 v78 H => gN v1 v5 v7 v9 v12 v78 H) v0 v1 r1.1 v7 v9 v12 v78 r1.2
theorem veneerlaw07DescSetsXC12Eq (cal : FuncId → Bool) (φ : Oracle) (N : Nat) (cVeneerlaw07Awake cDescNew cVeneerlaw07Play cVeneerDescTableAll cVeneerDescTableGet cVeneerDescTableSet cVeneerref07Same cVeneerDescTableClose : FuncId) {k : KT (IV × Heap)} (gN : IV → IV → IV → IV → IV → IV → Heap → Option (IV × Heap)) (hgN : ∀ σ H, k .normal σ H = gN (lk σ 1) (lk σ 5) (lk σ 7) (lk σ 9) (lk σ 12) (lk σ 78) H) (hR : ∀ σ H, k .ret σ H = resK [(.tmp 6), (.tmp 1), (.tmp 5), (.tmp 7), (.tmp 9), (.tmp 12), (.tmp 78)] [] σ H) : ∀ (σ : Sg) (H : Heap), lxK cal φ N (veneerlaw07DescSetsXC12 cVeneerlaw07Awake cDescNew cVeneerlaw07Play cVeneerDescTableAll cVeneerDescTableGet cVeneerDescTableSet cVeneerref07Same cVeneerDescTableClose) σ H k = veneerlaw07DescSetsXC12S cal φ N cVeneerlaw07Awake cDescNew cVeneerlaw07Play cVeneerDescTableAll cVeneerDescTableGet cVeneerDescTableSet cVeneerref07Same cVeneerDescTableClose gN (lk σ 0) (lk σ 1) (lk σ 2) (lk σ 5) (lk σ 7) (lk σ 9) (lk σ 12) (lk σ 78) H := by
  have hk : k = (kN (fun σ H => gN (lk σ 1) (lk σ 5) (lk σ 7) (lk σ 9) (lk σ 12) (lk σ 78) H) (kR (resK [(.tmp 6), (.tmp 1), (.tmp 5), (.tmp 7), (.tmp 9), (.tmp 12), (.tmp 78)] []) k)) := (kN_mk hgN (kR_mk hR rfl))
  intro σ H
  rw [hk]
  show lxK cal φ N (.reg [
    ⟨(some 5), (.box (.t 2)), none⟩,
    ⟨(some 6), (.mv (.k (.bool false))), none⟩]) σ H (seqK (lxK cal φ N (veneerlaw07DescSetsXC11 cVeneerlaw07Awake cDescNew cVeneerlaw07Play cVeneerDescTableAll cVeneerDescTableGet cVeneerDescTableSet cVeneerref07Same cVeneerDescTableClose)) (kN (fun σ H => gN (lk σ 1) (lk σ 5) (lk σ 7) (lk σ 9) (lk σ 12) (lk σ 78) H) (kR (resK [(.tmp 6), (.tmp 1), (.tmp 5), (.tmp 7), (.tmp 9), (.tmp 12), (.tmp 78)] []) k))) = _
  rw [seqK_mk (g := fun σ H => veneerlaw07DescSetsXC11S cal φ N cVeneerlaw07Awake cDescNew cVeneerlaw07Play cVeneerDescTableAll cVeneerDescTableGet cVeneerDescTableSet cVeneerref07Same cVeneerDescTableClose (fun v1 v5 v7 v9 v12 v78 H => gN v1 v5 v7 v9 v12 v78 H) (lk σ 0) (lk σ 1) (lk σ 5) (lk σ 7) (lk σ 9) (lk σ 12) (lk σ 78) H) (veneerlaw07DescSetsXC11Eq cal φ N cVeneerlaw07Awake cDescNew cVeneerlaw07Play cVeneerDescTableAll cVeneerDescTableGet cVeneerDescTableSet cVeneerref07Same cVeneerDescTableClose (k := (kN (fun σ H => gN (lk σ 1) (lk σ 5) (lk σ 7) (lk σ 9) (lk σ 12) (lk σ 78) H) (kR (resK [(.tmp 6), (.tmp 1), (.tmp 5), (.tmp 7), (.tmp 9), (.tmp 12), (.tmp 78)] []) k))) (fun v1 v5 v7 v9 v12 v78 H => gN v1 v5 v7 v9 v12 v78 H) (fun _ _ => rfl) (fun _ _ => rfl))]
  kernel_rfl
def veneerlaw07DescSetsXC16S (cal : FuncId → Bool) (φ : Oracle) (N : Nat) (cVeneerlaw07Awake cDescNew cVeneerlaw07Play cVeneerDescTableAll cVeneerDescTableGet cVeneerDescTableSet cVeneerref07Same cVeneerDescTableClose : FuncId) (v0 v1 v2 v5 v7 v9 v12 v78 : IV) (H : Heap) : Option (IV × Heap) :=
    veneerlaw07DescSetsXC12S cal φ N cVeneerlaw07Awake cDescNew cVeneerlaw07Play cVeneerDescTableAll cVeneerDescTableGet cVeneerDescTableSet cVeneerref07Same cVeneerDescTableClose (fun v1 v5 v7 v9 v12 v78 H => veneerlaw07DescSetsXC15S cal φ N cVeneerlaw07Awake cDescNew cVeneerlaw07Play cVeneerDescTableAll cVeneerDescTableGet cVeneerDescTableSet cVeneerref07Same cVeneerDescTableClose v1 v5 v7 v9 v12 v78 H) v0 v1 v2 v5 v7 v9 v12 v78 H
theorem veneerlaw07DescSetsXC16Eq (cal : FuncId → Bool) (φ : Oracle) (N : Nat) (cVeneerlaw07Awake cDescNew cVeneerlaw07Play cVeneerDescTableAll cVeneerDescTableGet cVeneerDescTableSet cVeneerref07Same cVeneerDescTableClose : FuncId) {k : KT (IV × Heap)} (hR : ∀ σ H, k .ret σ H = resK [(.tmp 6), (.tmp 1), (.tmp 5), (.tmp 7), (.tmp 9), (.tmp 12), (.tmp 78)] [] σ H) : ∀ (σ : Sg) (H : Heap), lxK cal φ N (veneerlaw07DescSetsXC16 cVeneerlaw07Awake cDescNew cVeneerlaw07Play cVeneerDescTableAll cVeneerDescTableGet cVeneerDescTableSet cVeneerref07Same cVeneerDescTableClose) σ H k = veneerlaw07DescSetsXC16S cal φ N cVeneerlaw07Awake cDescNew cVeneerlaw07Play cVeneerDescTableAll cVeneerDescTableGet cVeneerDescTableSet cVeneerref07Same cVeneerDescTableClose (lk σ 0) (lk σ 1) (lk σ 2) (lk σ 5) (lk σ 7) (lk σ 9) (lk σ 12) (lk σ 78) H := by
  have hk : k = (kR (resK [(.tmp 6), (.tmp 1), (.tmp 5), (.tmp 7), (.tmp 9), (.tmp 12), (.tmp 78)] []) k) := (kR_mk hR rfl)
  intro σ H
  rw [hk]
  show lxK cal φ N (veneerlaw07DescSetsXC12 cVeneerlaw07Awake cDescNew cVeneerlaw07Play cVeneerDescTableAll cVeneerDescTableGet cVeneerDescTableSet cVeneerref07Same cVeneerDescTableClose) σ H (seqK (lxK cal φ N (veneerlaw07DescSetsXC15 cVeneerlaw07Awake cDescNew cVeneerlaw07Play cVeneerDescTableAll cVeneerDescTableGet cVeneerDescTableSet cVeneerref07Same cVeneerDescTableClose)) (kR (resK [(.tmp 6), (.tmp 1), (.tmp 5), (.tmp 7), (.tmp 9), (.tmp 12), (.tmp 78)] []) k)) = _
  rw [seqK_mk (g := fun σ H => veneerlaw07DescSetsXC15S cal φ N cVeneerlaw07Awake cDescNew cVeneerlaw07Play cVeneerDescTableAll cVeneerDescTableGet cVeneerDescTableSet cVeneerref07Same cVeneerDescTableClose (lk σ 1) (lk σ 5) (lk σ 7) (lk σ 9) (lk σ 12) (lk σ 78) H) (veneerlaw07DescSetsXC15Eq cal φ N cVeneerlaw07Awake cDescNew cVeneerlaw07Play cVeneerDescTableAll cVeneerDescTableGet cVeneerDescTableSet cVeneerref07Same cVeneerDescTableClose (k := (kR (resK [(.tmp 6), (.tmp 1), (.tmp 5), (.tmp 7), (.tmp 9), (.tmp 12), (.tmp 78)] []) k)) (fun _ _ => rfl))]
  exact veneerlaw07DescSetsXC12Eq cal φ N cVeneerlaw07Awake cDescNew cVeneerlaw07Play cVeneerDescTableAll cVeneerDescTableGet cVeneerDescTableSet cVeneerref07Same cVeneerDescTableClose (k := (kN (fun σ H => veneerlaw07DescSetsXC15S cal φ N cVeneerlaw07Awake cDescNew cVeneerlaw07Play cVeneerDescTableAll cVeneerDescTableGet cVeneerDescTableSet cVeneerref07Same cVeneerDescTableClose (lk σ 1) (lk σ 5) (lk σ 7) (lk σ 9) (lk σ 12) (lk σ 78) H) (kR (resK [(.tmp 6), (.tmp 1), (.tmp 5), (.tmp 7), (.tmp 9), (.tmp 12), (.tmp 78)] []) k))) (fun v1 v5 v7 v9 v12 v78 H => veneerlaw07DescSetsXC15S cal φ N cVeneerlaw07Awake cDescNew cVeneerlaw07Play cVeneerDescTableAll cVeneerDescTableGet cVeneerDescTableSet cVeneerref07Same cVeneerDescTableClose v1 v5 v7 v9 v12 v78 H) (fun _ _ => rfl) (fun _ _ => rfl) σ H
def veneerlaw07DescSetsX (cVeneerlaw07Awake cDescNew cVeneerlaw07Play cVeneerDescTableAll cVeneerDescTableGet cVeneerDescTableSet cVeneerref07Same cVeneerDescTableClose : FuncId) : LFun := ⟨(veneerlaw07DescSetsXC16 cVeneerlaw07Awake cDescNew cVeneerlaw07Play cVeneerDescTableAll cVeneerDescTableGet cVeneerDescTableSet cVeneerref07Same cVeneerDescTableClose), [(.tmp 6), (.tmp 1), (.tmp 5), (.tmp 7), (.tmp 9), (.tmp 12), (.tmp 78)], 143⟩
def veneerlaw07DescSetsXS (cal : FuncId → Bool) (φ : Oracle) (N : Nat) (cVeneerlaw07Awake cDescNew cVeneerlaw07Play cVeneerDescTableAll cVeneerDescTableGet cVeneerDescTableSet cVeneerref07Same cVeneerDescTableClose : FuncId) (v0 v1 v2 : IV) (H : Heap) : Option (IV × Heap) :=
    veneerlaw07DescSetsXC16S cal φ N cVeneerlaw07Awake cDescNew cVeneerlaw07Play cVeneerDescTableAll cVeneerDescTableGet cVeneerDescTableSet cVeneerref07Same cVeneerDescTableClose v0 v1 v2 (.tuple []) (.tuple []) (.tuple []) (.tuple []) (.tuple []) H
theorem veneerlaw07DescSetsXEq (cal : FuncId → Bool) (φ : Oracle) (N : Nat) (cVeneerlaw07Awake cDescNew cVeneerlaw07Play cVeneerDescTableAll cVeneerDescTableGet cVeneerDescTableSet cVeneerref07Same cVeneerDescTableClose : FuncId) (v0 v1 v2 : IV) (H : Heap) : lrunK cal φ N (veneerlaw07DescSetsX cVeneerlaw07Awake cDescNew cVeneerlaw07Play cVeneerDescTableAll cVeneerDescTableGet cVeneerDescTableSet cVeneerref07Same cVeneerDescTableClose) [v0, v1, v2] H = veneerlaw07DescSetsXS cal φ N cVeneerlaw07Awake cDescNew cVeneerlaw07Play cVeneerDescTableAll cVeneerDescTableGet cVeneerDescTableSet cVeneerref07Same cVeneerDescTableClose v0 v1 v2 H := by
  show lxK cal φ N (veneerlaw07DescSetsXC16 cVeneerlaw07Awake cDescNew cVeneerlaw07Play cVeneerDescTableAll cVeneerDescTableGet cVeneerDescTableSet cVeneerref07Same cVeneerDescTableClose) (initFrom 0 [v0, v1, v2]) H (endK [(.tmp 6), (.tmp 1), (.tmp 5), (.tmp 7), (.tmp 9), (.tmp 12), (.tmp 78)]) = _
  exact veneerlaw07DescSetsXC16Eq cal φ N cVeneerlaw07Awake cDescNew cVeneerlaw07Play cVeneerDescTableAll cVeneerDescTableGet cVeneerDescTableSet cVeneerref07Same cVeneerDescTableClose (k := (endK [(.tmp 6), (.tmp 1), (.tmp 5), (.tmp 7), (.tmp 9), (.tmp 12), (.tmp 78)])) (fun _ _ => rfl) (initFrom 0 [v0, v1, v2]) H

end Go.Shade
/- SHADE, part 40: straight parts beside a range over a map. -/
namespace Go.Shade
open Go.RowKit
set_option linter.unusedSimpArgs false
set_option linter.unusedVariables false
section
variable {cal : FuncId → Bool} {φ : Oracle}
theorem lopV_W {p : LO} {σ : Sg} {H : Heap} {r : IV × Heap} (h : lopV cal φ p σ H = some r) : lopW cal φ p σ H = some [r] := by
  have sp : ∀ x, (p.op = .rng x ∨ p.op = .nxt x) → lwanted p σ = false ∧ r = (.tuple [], H) := by
    intro x hx
    have hno : lstepV φ H (lstep cal H σ p.op) = none := by rcases hx with hx | hx <;> rw [hx] <;> rfl
    unfold lopV at h
    unfold lwanted
    cases hg : p.g with
    | none => rw [hg] at h; simp only at h; rw [hno] at h; cases h
    | some q =>
      obtain ⟨t, w⟩ := q
      rw [hg] at h
      simp only at h ⊢
      cases hb : isB (lk σ t) w with
      | true => rw [hb] at h; simp only [if_true] at h; rw [hno] at h; cases h
      | false => rw [hb] at h; simp only [Bool.false_eq_true, if_false] at h; cases h; exact ⟨rfl, rfl⟩
  unfold lopW
  split
  · rename_i x hx
    obtain ⟨a, b⟩ := sp x (.inl hx)
    rw [a, b]; rfl
  · rename_i x hx
    obtain ⟨a, b⟩ := sp x (.inr hx)
    rw [a, b]; rfl
  · rw [h]; rfl
theorem lops_W {K : Sg → Heap → Prop} : ∀ {ps : List LO} {σ : Sg} {H : Heap} {r : Sg × Heap}, lops cal φ ps σ H = some r → K r.1 r.2 → lopsW cal φ ps σ H K
  | [], σ, H, r, h, hk => by cases h; exact hk
  | p :: ps, σ, H, r, h, hk => by
    obtain ⟨q, h1, h2⟩ := Option.bind_eq_some_iff.1 h
    exact ⟨[q], lopV_W h1, fun x hx => by rw [List.mem_singleton.1 hx]; exact lops_W h2 hk⟩
theorem lexec_W {n : Nat} : ∀ {c : LC} {σ : Sg} {H : Heap} {x : IX} {σ' : Sg} {H' : Heap} {k : IX → Sg → Heap → Prop}, lexec cal φ n c σ H = some (x, σ', H') → k x σ' H' → lxW cal φ n c σ H k := by
  intro c
  induction c with
  | skip => intro σ H x σ' H' k h hk; cases h; exact hk
  | reg l =>
    intro σ H x σ' H' k h hk
    obtain ⟨r, h1, h2⟩ := Option.bind_eq_some_iff.1 h
    cases h2
    exact lops_W h1 hk
  | drw l ps =>
    intro σ H x σ' H' k h hk
    obtain ⟨r, h1, h2⟩ := Option.bind_eq_some_iff.1 h
    cases h2
    exact ⟨r, h1, hk⟩
  | seq a b iha ihb =>
    intro σ H x σ' H' k h hk
    obtain ⟨⟨y, σ1, H1⟩, h1, h2⟩ := Option.bind_eq_some_iff.1 h
    refine iha h1 ?_
    cases y with
    | normal => exact ihb h2 hk
    | exit id => cases h2; exact hk
    | ret => cases h2; exact hk
  | cond c a b iha ihb =>
    intro σ H x σ' H' k h hk
    simp only [lexec] at h
    simp only [lxW]
    split at h
    · rename_i hc; first | exact iha h hk | (rw [hc]; exact iha h hk)
    · rename_i hc; first | exact ihb h hk | (rw [hc]; exact ihb h hk)
    · cases h
  | block id a ih =>
    intro σ H x σ' H' k h hk
    obtain ⟨⟨y, σ1, H1⟩, h1, h2⟩ := Option.bind_eq_some_iff.1 h
    refine ih h1 ?_
    cases y with
    | normal => cases h2; exact hk
    | exit id' =>
      simp only at h2 ⊢
      split at h2
      · rename_i e; cases h2; rw [if_pos e]; exact hk
      · rename_i e; cases h2; rw [if_neg e]; exact hk
    | ret => cases h2; exact hk
  | loop a ih =>
    intro σ H x σ' H' k h hk
    simp only [lexec] at h
    simp only [lxW]
    have key : ∀ (j : Nat) (σ : Sg) (H : Heap), piter (lexec cal φ n a) j σ H = some (x, σ', H') → itW (lxW cal φ n a) j σ H k := by
      intro j
      induction j with
      | zero => intro σ H h; cases h
      | succ j ihj =>
        intro σ H h
        simp only [piter] at h
        simp only [itW]
        obtain ⟨⟨y, σ1, H1⟩, h1, h2⟩ := Option.bind_eq_some_iff.1 h
        refine ih h1 ?_
        cases y with
        | normal => exact ihj _ _ h2
        | exit id => cases h2; exact hk
        | ret => cases h2; exact hk
    exact key n σ H h
  | exit id => intro σ H x σ' H' k h hk; cases h; exact hk
  | ret => intro σ H x σ' H' k h hk; cases h; exact hk
  | bad => intro σ H x σ' H' k h hk; cases h
/-- What a straight part comes to, told by what follows it. -/
theorem lxK_W {n : Nat} {c : LC} {σ : Sg} {H : Heap} {k : KT (IV × Heap)} {Q : Out → Prop} {K : IX → Sg → Heap → Prop} (h : Wp (lxK cal φ n c σ H k) Q) (hk : ∀ x σ' H' r, k x σ' H' = some r → Q r → K x σ' H') : lxW cal φ n c σ H K := by
  obtain ⟨r, h1, h2⟩ := h
  rw [lxK_eq] at h1
  obtain ⟨⟨x, σ', H'⟩, h3, h4⟩ := Option.bind_eq_some_iff.1 h1
  exact lexec_W h3 (hk _ _ _ _ h4 h2)
def lapp' : LC → LC → LC
  | .seq a b, c => .seq a (lapp' b c)
  | a, c => .seq a c
theorem lapp_W {n : Nat} {c : LC} : ∀ {a : LC} {σ : Sg} {H : Heap} {k : IX → Sg → Heap → Prop}, lxW cal φ n (.seq a c) σ H k → lxW cal φ n (lapp' a c) σ H k := by
  intro a
  induction a with
  | seq a b iha ihb =>
    intro σ H k h
    simp only [lapp', lxW] at h ⊢
    refine lxW_mono (fun x σ H hx => ?_) h
    cases x with
    | normal => exact ihb hx
    | exit id => exact hx
    | ret => exact hx
  | _ => intro σ H k h; exact h
end
/-- What is to be shown of a law that ranges over a map. -/
def GoodW (P : Program) (f : FuncId) (ats : List AT) : Prop := ∀ (H : Heap) (ivs : List IV), FitAll H ats ivs → SimW P f ivs H fun r _ => r = .bool true
theorem calls_goodW {P : Program} {f : FuncId} {ats : List AT} (hg : GoodW P f ats) {K : Type} {enc : TypeId × Value → K} {ts : List TypeId} {n : Nat} (ha : atsOf P n ts = some ats) {W : World} {args : Array Value} {ds : List (DataW K)} {p : List MemPlace} {r : Reach} {b0 : Nat}
    (hv : ∀ (j : Nat) t v, ts[j]? = some t → args.toList[j]? = some v → Value.okWide P W r b0 t v) (ht : DataW.TrodAll enc P W 0 (fun _ => true) true ts args.toList ds p) :
    Calls P f args W fun e W' => e = .returned (.bool true) ∧ Below W.heap.size W W' := by
  obtain ⟨m, X, ivs, _, hR, hV, hF⟩ := open_all rfl ha hv ht (rel_start W)
  refine (hg _ ivs hF W.heap.size W W m args hR hV).mono ?_
  rintro e W' ⟨r, H', m', u, rfl, rfl, _, hR', hu⟩
  simp only [VR] at hu; subst hu
  exact ⟨rfl, hR'.below⟩
end Go.Shade
/- DESC, part 19: 'DescSets': the map of what was there. -/
namespace Go.Shade
set_option linter.unusedVariables false
set_option linter.unusedSimpArgs false
theorem ifind_cases : ∀ {es : List Ent} (x : Int) (i : Nat), (∀ e ∈ es, ∃ k : Nat, e.1 = .int .i64 (k : Nat)) → (ifind (.int .i64 x) es i = some none ∧ ∀ e ∈ es, e.1 ≠ .int .i64 x) ∨ ∃ j e, e ∈ es ∧ e.1 = .int .i64 x ∧ ifind (.int .i64 x) es i = some (some (j, e.2.1))
  | [], x, i, h => .inl ⟨rfl, fun e he => by cases he⟩
  | (a, b, c) :: es, x, i, h => by
    obtain ⟨k, hk⟩ := h (a, b, c) (by simp)
    simp only at hk; subst hk
    simp only [ifind, cellEq, if_true]
    by_cases e : x = (k : Nat)
    · subst e
      rw [beq_self_eq_true]
      exact .inr ⟨i, (.int .i64 (k : Nat), b, c), List.mem_cons_self, rfl, rfl⟩
    · have : (x == ((k : Nat) : Int)) = false := by rw [beq_eq_false_iff_ne]; omega
      rw [this]
      rcases ifind_cases x (i + 1) (fun e he => h e (List.mem_cons_of_mem _ he)) with ⟨h1, h2⟩ | ⟨j, q, h1, h2, h3⟩
      · refine .inl ⟨h1, fun q hq => ?_⟩
        rcases List.mem_cons.1 hq with rfl | hq
        · intro he; simp only [IV.int.injEq] at he; exact e he.2.symm
        · exact h2 q hq
      · exact .inr ⟨j, q, List.mem_cons_of_mem _ h1, h2, h3⟩
def DEnt (H : Heap) (M : Nat) (tab : Tab) (es : List Ent) (ks : List Nat) : Prop := es.length = ks.length ∧ ∀ (j k : Nat), ks[j]? = some k → ∃ d nv, tab[k]? = some (some d) ∧ es[j]? = some (.int .i64 (k : Nat), .agg (Dsc.cells d nv), j) ∧ Nm (M < ·) H nv d.names
theorem DEnt.frame {F : Nat → Prop} {H H' : Heap} {M : Nat} {tab : Tab} {es : List Ent} {ks : List Nat} (h : DEnt H M tab es ks) (k : Frame F H H') (hf : ∀ i, M < i → ¬ F i) : DEnt H' M tab es ks :=
  ⟨h.1, fun j x hx => by obtain ⟨d, nv, h1, h2, h3⟩ := h.2 j x hx; exact ⟨d, nv, h1, h2, h3.frame k hf⟩⟩
theorem DEnt.mem {H : Heap} {M : Nat} {tab : Tab} {es : List Ent} {ks : List Nat} (h : DEnt H M tab es ks) {e : Ent} (he : e ∈ es) : ∃ (j k : Nat) (d : Dsc) (nv : IV), ks[j]? = some k ∧ es[j]? = some e ∧ tab[k]? = some (some d) ∧ e = (.int .i64 (k : Nat), .agg (d.cells nv), j) ∧ Nm (M < ·) H nv d.names := by
  obtain ⟨j, hj⟩ := List.mem_iff_getElem?.1 he
  have hl := (List.getElem?_eq_some_iff.1 hj).1
  rw [h.1] at hl
  have hk := List.getElem?_eq_getElem hl
  obtain ⟨d, nv, h1, h2, h3⟩ := h.2 j _ hk
  rw [hj] at h2; cases h2
  exact ⟨j, _, d, nv, hk, hj, h1, rfl, h3⟩
def DMap (H : Heap) (M : Nat) (tab : Tab) (ks : List Nat) : Prop := ∃ es, H[M]? = some (.map es ks.length) ∧ DEnt H M tab es ks
theorem DMap.frame {F : Nat → Prop} {H H' : Heap} {M : Nat} {tab : Tab} {ks : List Nat} (h : DMap H M tab ks) (k : Frame F H H') (hf : ∀ i, M ≤ i → ¬ F i) : DMap H' M tab ks := by
  obtain ⟨es, h1, h2⟩ := h; exact ⟨es, k.get (hf M (Nat.le_refl _)) h1, h2.frame k fun i hi => hf i (by omega)⟩
theorem DMap.put {H : Heap} {M : Nat} {tab : Tab} {ks : List Nat} (h : DMap H M tab ks) {k : Nat} {d : Dsc} {nv : IV} (hx : k ∉ ks) (ht : tab[k]? = some (some d)) (hn : Nm (M < ·) H nv d.names) : ∃ H', lupdV H .int (.map M) (.int .i64 (k : Nat)) (.agg (d.cells nv)) = some (.tuple [], H') ∧ Frame (fun i => i = M) H H' ∧ DMap H' M tab (ks ++ [k]) := by
  obtain ⟨es, h1, h2⟩ := h
  have k1 : Frame (fun i => i = M) H (H.set M (.map (es ++ [(.int .i64 (k : Nat), .agg (d.cells nv), ks.length)]) (ks.length + 1))) := Frame.set _ _ rfl
  refine ⟨_, ?_, k1, _, by rw [List.length_append]; exact setAt h1, by simp [h2.1], fun j x hj => ?_⟩
  · unfold lupdV
    rcases ifind_cases (k : Nat) 0 (es := es) (fun e he => by obtain ⟨j, k, d, nv, _, _, _, rfl, _⟩ := h2.mem he; exact ⟨k, rfl⟩) with ⟨g, _⟩ | ⟨j, e, he, ge, _⟩
    · simp only [lupdate, h1, isLS, if_true, g, Option.bind_some]
    · obtain ⟨j', k', d', nv', hk', _, _, rfl, _⟩ := h2.mem he
      simp only [IV.int.injEq, true_and] at ge
      have : k' = k := by omega
      subst this
      exact absurd (List.mem_of_getElem? hk') hx
  · by_cases hlt : j < ks.length
    · rw [List.getElem?_append_left hlt] at hj
      obtain ⟨d', nv', g1, g2, g3⟩ := h2.2 j x hj
      exact ⟨d', nv', g1, by rw [List.getElem?_append_left (by rw [h2.1]; exact hlt)]; exact g2, g3.frame k1 fun i (hi : M < i) e => by omega⟩
    · rw [List.getElem?_append_right (by omega)] at hj
      have hz : j - ks.length = 0 := by
        rcases Nat.eq_zero_or_pos (j - ks.length) with e | e
        · exact e
        · rw [List.getElem?_eq_none (by simp; omega)] at hj; cases hj
      rw [hz] at hj; simp at hj; subst hj
      have hjj : j = ks.length := by omega
      subst hjj
      exact ⟨d, nv, ht, by rw [List.getElem?_append_right (by rw [h2.1]; omega), h2.1]; simp, hn.frame k1 fun i (hi : M < i) e => by omega⟩
theorem DMap.look {H : Heap} {M : Nat} {tab : Tab} {fd : Int} {z : IV} (h : DMap H M tab (opens tab)) (hl : tab.length = 32) :
    (∃ d nv, Go.Shade.look tab fd = some d ∧ llookup H .int z true (.map M) (.int .i64 fd) = some (.tuple [.agg (d.cells nv), .bool true]) ∧ nv.one = true) ∨ (Go.Shade.look tab fd = none ∧ llookup H .int z true (.map M) (.int .i64 fd) = some (.tuple [z, .bool false])) := by
  obtain ⟨es, h1, h2⟩ := h
  rcases ifind_cases fd 0 (es := es) (fun e he => by obtain ⟨j, k, d, nv, _, _, _, rfl, _⟩ := h2.mem he; exact ⟨k, rfl⟩) with ⟨g, gn⟩ | ⟨j, e, he, ge, g⟩
  · refine .inr ⟨?_, by simp only [llookup, iment, h1, Option.bind_some, isLS, if_true, g]⟩
    cases hlk : Go.Shade.look tab fd with
    | none => rfl
    | some d =>
      obtain ⟨i, rfl, hi, hti⟩ := look_lt hlk
      have hm : i ∈ opens tab := mem_opens.2 ⟨hi, by rw [hti]; rfl⟩
      obtain ⟨j, hj⟩ := List.mem_iff_getElem?.1 hm
      obtain ⟨d', nv, q1, q2, q3⟩ := h2.2 j i hj
      exact absurd rfl (gn _ (List.mem_of_getElem? q2))
  · obtain ⟨j', k', d', nv', hk', _, ht', rfl, hn'⟩ := h2.mem he
    simp only [IV.int.injEq, true_and] at ge
    subst ge
    refine .inl ⟨d', nv', ?_, by simp only [llookup, iment, h1, Option.bind_some, isLS, if_true, g], hn'.one⟩
    unfold Go.Shade.look
    have := (mem_opens.1 (List.mem_of_getElem? hk')).1
    rw [if_pos (by omega), Int.toNat_natCast, ht']; rfl
/-- The entry at which an iterator stands. -/
theorem DMap.entry {H : Heap} {M I since : Nat} {tab : Tab} {ks : List Nat} {es : List Ent} {seen : List Nat} {e : Ent} (h1 : H[M]? = some (.map es ks.length)) (h2 : DEnt H M tab es ks) (hI : H[I]? = some (.iter (some M) since (seen ++ [e.2.2]) ks.length)) (he : e ∈ es) : ientry H (.ptr I 0) = some (.tuple [e.1, e.2.1]) := by
  have hf : es.find? (fun q => Nat.beq q.2.2 e.2.2) = some e := by
    cases hq : es.find? (fun q => Nat.beq q.2.2 e.2.2) with
    | none =>
      have := List.find?_eq_none.1 hq e he
      simp at this
    | some q =>
      have hm := List.mem_of_find?_eq_some hq
      have hp := List.find?_some hq
      have hp := Nat.eq_of_beq_eq_true hp
      obtain ⟨j, k, d, nv, _, g1, _, rfl, _⟩ := h2.mem hm
      obtain ⟨j', k', d', nv', _, g1', _, rfl, _⟩ := h2.mem he
      simp only at hp; subst hp
      rw [g1] at g1'; exact g1'
  simp only [ientry, hI, h1, Nat.beq_refl, if_true, List.getLast?_concat, hf, Option.map_some]
/-- What a step of the range comes to. -/
theorem nxt_out {H : Heap} {I M c : Nat} {es : List Ent} {seen : List Nat} (hI : H[I]? = some (.iter (some M) c seen c)) (hM : H[M]? = some (.map es c)) (hb : ∀ e ∈ es, e.2.2 < c) :
    ∃ l, stNxt H (.ptr I 0) = some l ∧ ∀ r ∈ l, r = (.tuple [.bool false], H) ∨ ∃ e ∈ es, e.2.2 ∉ seen ∧ r = (.tuple [.bool true, e.1, e.2.1], H.set I (.iter (some M) c (seen ++ [e.2.2]) c)) := by
  have hno : (!seen.isEmpty && (!es.isEmpty && es.all fun e => Nat.ble c e.2.2)) = false := by
    cases es with
    | nil => simp
    | cons e es =>
      have := hb e (by simp)
      have hf : Nat.ble c e.2.2 = false := by
        cases hx : Nat.ble c e.2.2 with
        | false => rfl
        | true => have := Nat.le_of_ble_eq_true hx; omega
      simp [hf]
  unfold stNxt
  simp only [hI, hM]
  unfold nxtC
  rw [hno]
  refine ⟨_, rfl, fun r hr => ?_⟩
  obtain ⟨o, ho, rfl⟩ := List.mem_map.1 hr
  rcases List.mem_append.1 ho with ho | ho
  · split at ho
    · rw [List.mem_singleton] at ho; subst ho; exact .inl rfl
    · cases ho
  · obtain ⟨e, he, rfl⟩ := List.mem_map.1 ho
    refine .inr ⟨e, ?_, ?_, rfl⟩
    · rcases List.mem_append.1 he with he | he
      · exact (List.mem_filter.1 he).1
      · exact (List.mem_filter.1 he).1
    · have : (!seen.contains e.2.2) = true := by
        rcases List.mem_append.1 he with he | he
        · have := (List.mem_filter.1 he).2; simp only [Bool.and_eq_true] at this; exact this.1
        · have := (List.mem_filter.1 he).2; simp only [Bool.and_eq_true] at this; exact this.1
      simpa using this
theorem unseen_lt {es : List Ent} {seen : List Nat} {e : Ent} (he : e ∈ es) (hs : e.2.2 ∉ seen) : (es.filter fun q => !(seen ++ [e.2.2]).contains q.2.2).length < (es.filter fun q => !seen.contains q.2.2).length := by
  have h1 : (es.filter fun q => !(seen ++ [e.2.2]).contains q.2.2) = (es.filter fun q => !seen.contains q.2.2).filter fun q => !(q.2.2 == e.2.2) := by
    rw [List.filter_filter]
    congr 1
    funext q
    by_cases h1 : q.2.2 = e.2.2 <;> by_cases h2 : q.2.2 ∈ seen <;> simp_all
  rw [h1, List.length_filter_lt_length_iff_exists]
  exact ⟨e, List.mem_filter.2 ⟨he, by simpa using hs⟩, by simp⟩
theorem look_put {tab : Tab} {fd : Int} {e : Option Dsc} {d : Dsc} (h : look tab fd = some d) (hl : tab.length = 32) : look (put' tab fd e) fd = e := by
  obtain ⟨i, rfl, hi, hti⟩ := look_lt h
  unfold look put'
  rw [if_pos (by omega), Int.toNat_natCast, List.getElem?_set_self (by omega)]; rfl
theorem look_put_ne {tab : Tab} {fd : Int} {e : Option Dsc} {i : Nat} (hfd : 0 ≤ fd) (hne : fd ≠ (i : Nat)) : look (put' tab fd e) (i : Nat) = look tab (i : Nat) := by
  unfold look put'
  rw [Int.toNat_natCast, List.getElem?_set_ne (by omega)]
theorem look_nat {tab : Tab} {i : Nat} {d : Dsc} (hi : i < 32) (h : tab[i]? = some (some d)) : look tab (i : Nat) = some d := by
  unfold look; rw [if_pos (by omega), Int.toNat_natCast, h]; rfl
end Go.Shade
/- DESC, part 20: 'DescSets': its straight parts. -/
namespace Go.Shade
set_option linter.unusedVariables false
set_option linter.unusedSimpArgs false
def gSix : IV → IV → IV → IV → IV → IV → Heap → Option (IV × Heap) := fun v1 v5 v7 v9 v12 v78 H => some (.tuple [v1, v5, v7, v9, v12, v78], H)
def aft (tab : Tab) (fd : Int) (d : Dsc) : Tab := if (look tab fd).isSome then put' tab fd (some d) else tab
theorem Nm.up {F : Nat → Prop} {H H' : Heap} {nv : IV} {l : List (List UInt8)} (h : Nm F H nv l) (k : Frame (H.length ≤ ·) H H') : Nm F H' nv l := ⟨h.1.frame k (h.1.lt.mono fun i hi => by omega), h.2⟩
/-- What there is ahead of the range. -/
structure SetF (q t M : Nat) (fd e : Int) (d : Dsc) (nv : IV) (tab : Tab) (H : Heap) : Prop where
  tb : ∃ G, TabOk G H t (aft tab fd d)
  len : tab.length = 32
  box : H[q]? = some (.row (d.cells nv) false)
  nm : Nm (· < q) H nv d.names
  qt : q < t
  mp : DMap H M tab (opens tab)
  er : e = if (look tab fd).isSome then 0 else 9
  sm : d.names.length ≤ 100
theorem SetF.up {q t M : Nat} {fd e : Int} {d : Dsc} {nv : IV} {tab : Tab} {H H' : Heap} (h : SetF q t M fd e d nv tab H) (k : Frame (H.length ≤ ·) H H') : SetF q t M fd e d nv tab H' := by
  obtain ⟨G, g1⟩ := h.tb
  obtain ⟨es, m1, m2⟩ := h.mp
  have lM := (List.getElem?_eq_some_iff.1 m1).1
  have lq := (List.getElem?_eq_some_iff.1 h.box).1
  have lt := g1.ltT
  exact ⟨⟨G, g1.frame k (by omega) fun i hi => by have := g1.lt i hi; omega⟩, h.len, k.get (by omega) h.box, h.nm.up k, h.qt, ⟨es, k.get (by omega) m1, m2.1, fun j x hj => by
    obtain ⟨d, nv, a, b, c⟩ := m2.2 j x hj
    exact ⟨d, nv, a, b, c.up k⟩⟩, h.er, h.sm⟩
theorem SetF.kp' {q t M : Nat} {fd e : Int} {d : Dsc} {nv : IV} {tab : Tab} {H H' : Heap} (h : SetF q t M fd e d nv tab H) (k : Frame NoF H H') : SetF q t M fd e d nv tab H' := h.up k.no
section
variable {cal : FuncId → Bool} {φ : Oracle} {N : Nat} {aw nw pl al gt st sm cl : FuncId}
theorem sets_plays (hp : PlayOk φ pl) {L t : Nat} {v0 v1 v5 v9 v12 v78 : IV} {l : List Ac} {gE0 : IV → IV → IV → IV → IV → IV → Heap → Option Out} {Q : Out → Prop} {H0 : Heap} (ht : L ≤ t)
    (hQ : ∀ H G tab, Frame (fun i => i = t) H0 H → TabOk G H t tab → Wp (gE0 v1 v5 (.ptr t 0) v9 v12 v78 H) Q) (hv : AcsV L H0 v0 l) :
    ∀ (k i n : Nat) (H : Heap) (G : Nat → Prop) (tab : Tab), i + k = 120 → k < n → Frame (fun i => i = t) H0 H → TabOk G H t tab →
      Wp (veneerlaw07DescSetsXC0S cal φ N aw nw pl al gt st sm cl gE0 n v0 v1 v5 (.ptr t 0) (.int .i64 (i : Nat)) v9 v12 v78 H) Q := by
  intro k
  induction k with
  | zero =>
    intro i n H G tab hi hn hK hT
    obtain ⟨n, rfl⟩ : ∃ j, n = j + 1 := ⟨n - 1, by omega⟩
    have hvH := hv.frame (hK.mono fun i e => by subst e; exact ht)
    obtain ⟨_, cs, hsl, _⟩ := hvH
    rw [veneerlaw07DescSetsXC0S, hsl.len, ob_some, lbin_lss, ob_some]
    cases decide (((i : Nat) : Int) < (l.length : Nat))
    · simp only [isB_ft, gq_false, ob_some, lpick_false, cnd_false]
      exact hQ H G tab hK hT
    · simp only [isB_tt, gq_true, ob_some, lbin_lss]
      rw [lpick_true, ob_some, decide_eq_false (by omega), cnd_false]
      exact hQ H G tab hK hT
  | succ k ih =>
    intro i n H G tab hi hn hK hT
    obtain ⟨n, rfl⟩ : ∃ j, n = j + 1 := ⟨n - 1, by omega⟩
    have hvH := hv.frame (hK.mono fun i e => by subst e; exact ht)
    obtain ⟨_, cs, hsl, _⟩ := id hvH
    rw [veneerlaw07DescSetsXC0S, hsl.len, ob_some, lbin_lss, ob_some]
    by_cases hlt : i < l.length
    · rw [decide_eq_true (by omega)]
      simp only [isB_tt, gq_true, ob_some, lbin_lss]
      rw [lpick_true, ob_some, decide_eq_true (by omega), cnd_true]
      obtain ⟨p, nv, e1, e2, e3⟩ := hvH.at (List.getElem?_eq_getElem hlt)
      rw [e1, ob_some, e2, ob_some]
      refine Wp.call (hp _ G H t tab l[i] nv hT e3) ?_
      rintro ⟨r, H2⟩ ⟨f1, G', tab', f2, f3, _⟩
      simp only at f1 f2 ⊢
      rw [lbin_add, ob_some, wrap_i64 (by omega) (by omega), show ((i : Nat) : Int) + 1 = ((i + 1 : Nat) : Int) by omega]
      exact ih (i + 1) n H2 G' tab' (by omega) (by omega) (hK.tr f1) f2
    · rw [decide_eq_false (by omega)]
      simp only [isB_ft, gq_false, ob_some, lpick_false, cnd_false]
      exact hQ H G tab hK hT
theorem sets_fill (hg : GetOk φ gt) {t M : Nat} {v1 v5 v48 v78 : IV} {tab : Tab} {G : Nat → Prop} {gE2 : IV → IV → IV → IV → IV → Heap → Option Out} {Q : Out → Prop} {H0 : Heap} {ks : List Nat} (hT : TabOk G H0 t tab) (htM : t ≠ M) (hGM : ¬ G M) (hk : ∀ k ∈ ks, ∃ d, k < 32 ∧ tab[k]? = some (some d)) (hs : Sl 1 H0 v48 ks.length (ints ks)) (ha : At (fun i => i ≠ M) v48) (hnd : ks.Pairwise (· < ·)) (hlen : ks.length ≤ 32)
    (hQ : ∀ H, Frame (fun i => i = M) H0 H → TabOk G H t tab → DMap H M tab ks → Wp (gE2 v1 v5 (.ptr t 0) (.map M) v78 H) Q) :
    ∀ (k i n : Nat) (H : Heap), i + k = ks.length → k < n → Frame (fun i => i = M) H0 H → DMap H M tab (ks.take i) →
      Wp (veneerlaw07DescSetsXC3S cal φ N aw nw pl al gt st sm cl gE2 n v1 v5 (.ptr t 0) (.map M) v48 (.int .i64 (ks.length : Nat)) (.int .i64 (i : Nat)) v78 H) Q := by
  have tbl : ∀ {H : Heap}, Frame (fun i => i = M) H0 H → TabOk G H t tab := fun k => hT.frame k htM fun i hi e => hGM (e ▸ hi)
  intro k
  induction k with
  | zero =>
    intro i n H hi hn hK hm
    obtain ⟨n, rfl⟩ : ∃ j, n = j + 1 := ⟨n - 1, by omega⟩
    rw [veneerlaw07DescSetsXC3S, lbin_lss, ob_some, decide_eq_false (by omega), cnd_false]
    rw [List.take_of_length_le (by omega)] at hm
    exact hQ H hK (tbl hK) hm
  | succ k ih =>
    intro i n H hi hn hK hm
    obtain ⟨n, rfl⟩ : ∃ j, n = j + 1 := ⟨n - 1, by omega⟩
    rw [veneerlaw07DescSetsXC3S, lbin_lss, ob_some, decide_eq_true (by omega), cnd_true]
    obtain ⟨p, e1, e2⟩ := (hs.frame hK (ha.mono fun i h => h)).at1 (i := i) (by omega)
    have g1 := List.getElem?_eq_getElem (l := ks) (i := i) (by omega)
    rw [e1, ob_some, e2]
    simp only [ints, List.getElem?_map, g1, Option.map_some]
    rw [ob_some]
    have hx : ks[i] ∉ ks.take i := by
      intro h
      obtain ⟨j, hj⟩ := List.mem_iff_getElem?.1 h
      rw [List.getElem?_take] at hj
      split at hj
      · rename_i hlt
        obtain ⟨hj1, hj2⟩ := List.getElem?_eq_some_iff.1 hj
        have := (List.pairwise_iff_getElem.1 hnd) j i hj1 (by omega) hlt
        omega
      · cases hj
    obtain ⟨d, hk32, htk⟩ := hk _ (List.mem_of_getElem? g1)
    have htake : ks.take (i + 1) = ks.take i ++ [ks[i]] := by rw [List.take_succ_eq_append_getElem (by omega)]
    generalize ks[i] = kk at *
    have lM : M < H.length := by obtain ⟨es, h1, _⟩ := hm; exact (List.getElem?_eq_some_iff.1 h1).1
    refine Wp.call (hg G H t tab (kk : Nat) (tbl hK)) ?_
    rintro ⟨x, H2⟩ ⟨f1, ⟨d', x', s2, s3, s4, _⟩ | ⟨s2, s3⟩⟩
    · rw [look_nat hk32 htk] at s2
      cases s2
      simp only at f1 s3 s4 ⊢
      subst s3
      rw [iextract_tuple, iextract_tuple]
      simp only [List.getElem?_cons_zero, List.getElem?_cons_succ, ob_some]
      obtain ⟨nv, rfl, hn'⟩ := s4
      obtain ⟨H3, p1, p2, p3⟩ := (hm.frame f1 fun _ _ h => h).put hx htk (hn'.mono fun i (hi : H.length ≤ i) => by omega)
      rw [p1, ob_some]
      simp only
      rw [lbin_add, ob_some, wrap_i64 (by omega) (by omega), show ((i : Nat) : Int) + 1 = ((i + 1 : Nat) : Int) by omega]
      refine ih (i + 1) n H3 (by omega) (by omega) ((hK.tr f1.no).tr p2) ?_
      rw [htake]; exact p3
    · rw [look_nat hk32 htk] at s2; cases s2
theorem sets_a (ha : ∀ H : Heap, φ aw [] H = some (.bool true, H)) (hnw : NewOk φ nw) (hp : PlayOk φ pl) (hal : AllOk φ al) (hg : GetOk φ gt) (hst : SetOk φ st) (hN : 120 < N) {H : Heap} {v0 u5 u7 u9 u12 v78 : IV} {l : List Ac} {fd : Int} {d : Dsc} {nv : IV} (hv0 : AcsV H.length H v0 l) (hn : Nm (· < H.length) H nv d.names) :
    Wp (veneerlaw07DescSetsXC12S cal φ N aw nw pl al gt st sm cl gSix v0 (.int .i64 fd) (.agg (d.cells nv)) u5 u7 u9 u12 v78 H) fun r => (∃ vs, vs.length = 6 ∧ r.1 = .tuple (.bool true :: vs)) ∨ ∃ t M e tab, r.1 = .tuple [.int .i64 fd, .ptr H.length 0, .ptr t 0, .map M, .int .i64 e, v78] ∧ SetF H.length t M fd e d nv tab r.2 := by
  unfold veneerlaw07DescSetsXC12S
  have hbx : lbox H (.agg (d.cells nv)) = some (.ptr H.length 0, H ++ [IObj.row (d.cells nv) false]) := lbox_agg (d.cells_one hn.one)
  rw [hbx, ob_some]
  simp only
  have k1 : Frame NoF H (H ++ [IObj.row (d.cells nv) false]) := Frame.push _ _ _
  have r1 := newRow (H := H) (o := IObj.row (d.cells nv) false)
  have lK : (H ++ [IObj.row (d.cells nv) false]).length = H.length + 1 := by simp
  generalize H ++ [IObj.row (d.cells nv) false] = K at *
  unfold veneerlaw07DescSetsXC11S
  rw [ha, ob_some]
  simp only
  rw [iun_not, ob_some, Bool.not_true, cnd_false]
  unfold veneerlaw07DescSetsXC10S
  refine Wp.call (hnw K) ?_
  rintro ⟨r, K1⟩ ⟨t, rfl, ht, hT, k2⟩
  simp only at hT k2 ⊢
  have r2 := k2.get (fun h => h) r1
  have kk := k1.tr k2
  have hn1 := hn.kp kk
  unfold veneerlaw07DescSetsXC9S
  have d4 : (d.cells nv)[0 + 4]? = some nv := rfl
  rw [loff_ptr, ob_some, ld1 r2, d4, ob_some, hn1.1.len, ob_some, lbin_gtr, ob_some]
  refine Wp.dec (fun _ => Wp.ret (.inl ⟨_, rfl, rfl⟩)) (fun hb => ?_)
  unfold veneerlaw07DescSetsXC8S veneerlaw07DescSetsXC2S veneerlaw07DescSetsXC1S
  refine sets_plays hp (L := H.length) (by omega) (H0 := K1) (fun K2 G tab f1 f2 => ?_) (hv0.frame kk.no) 120 0 N K1 NoF _ (by omega) hN (Frame.refl _ _) hT
  have r3 := f1.get (by omega) r2
  have hn2 := hn1.frame f1 fun i (hi : i < H.length) e => by omega
  unfold veneerlaw07DescSetsXC7S
  have hmk : lmkM K2 = some (.map K2.length, K2 ++ [.map [] 0]) := rfl
  simp only
  rw [hmk, ob_some]
  simp only
  have k3 : Frame NoF K2 (K2 ++ [IObj.map [] 0]) := Frame.push _ _ _
  have m3 := newRow (H := K2) (o := IObj.map [] 0)
  have f3 := f2.kp k3
  have r4 := k3.get (fun h => h) r3
  have hn3 := hn2.kp k3
  have l3 : (K2 ++ [IObj.map [] 0]).length = K2.length + 1 := by simp
  have ltT := f2.ltT
  have lq : H.length < K2.length := (List.getElem?_eq_some_iff.1 r3).1
  have hGM : ¬ G K2.length := fun h => by have := f2.lt _ h; omega
  generalize K2 ++ [IObj.map [] 0] = K3 at *
  unfold veneerlaw07DescSetsXC6S veneerlaw07DescSetsXC5S
  refine Wp.call (hal G K3 t tab f3) ?_
  rintro ⟨v48, K4⟩ ⟨q1, q2, q3⟩
  simp only at q1 q2 q3 ⊢
  rw [q2.len, ob_some]
  unfold veneerlaw07DescSetsXC4S
  have hm4 := q1.get (fun h => h) m3
  have hlen := f2.len
  have hle : (opens tab).length ≤ 32 := by rw [opens_cnt tab hlen]; have := cnt_le tab; rw [hlen] at this; exact this
  refine sets_fill hg (f3.kp q1) (by omega) hGM (fun k hk => ?_) q2 (q3.mono fun i (hi : K3.length ≤ i) => by omega) (List.Pairwise.filter _ List.pairwise_lt_range) hle (fun K5 g1 g2 g3 => ?_) (opens tab).length 0 N K4 (by omega) (by omega) (Frame.refl _ _) ⟨[], by simpa using hm4, rfl, fun j k hk => by simp at hk⟩
  · obtain ⟨a, b⟩ := mem_opens.1 hk
    have := List.getElem?_eq_getElem (l := tab) (i := k) (by omega)
    rw [this] at b ⊢
    cases hx : tab[k] with
    | none => rw [hx] at b; cases b
    | some d => exact ⟨d, a, rfl⟩
  simp only
  have r5 := g1.get (by omega) (q1.get (fun h => h) r4)
  have hn5 := (hn3.kp q1).frame g1 fun i (hi : i < H.length) e => by omega
  rw [ldn r5 (d.cells_length nv), ob_some]
  refine Wp.call (hst _ G K5 t tab fd _ d g2 ⟨nv, rfl, hn5⟩ (by omega)) ?_
  rintro ⟨x, K6⟩ hx
  have f6 : Frame (fun i => i = t) K5 K6 := hx.1
  have r6 := f6.get (by omega) r5
  have hn6 := hn5.frame f6 fun i (hi : i < H.length) e => by omega
  have hm6 := g3.frame f6 fun i hi e => by omega
  have hqt : H.length < t := by omega
  have fin : ∀ {z : Int} {y : IV} {b : Bool} {cs : List IV}, x = .int .i64 z → llookup K6 .int (.agg [(.int .i64 0), (.int .i64 0), (.int .i64 0), (.bool false), .nilSlice, (.int .i64 0)]) true (.map K2.length) (.int .i64 fd) = some (.tuple [.agg cs, .bool b]) → cs.length = 6 → cs.all IV.one = true → (decide (z = 0)) = b → z = (if (look tab fd).isSome then 0 else 9) → (∃ G, TabOk G K6 t (aft tab fd d)) →
      Wp (ob (llookup K6 .int (.agg [(.int .i64 0), (.int .i64 0), (.int .i64 0), (.bool false), .nilSlice, (.int .i64 0)]) true (.map K2.length) (.int .i64 fd)) fun t3 => ob (iextract t3 0) fun t4 => ob (iextract t3 1) fun t5 => ob (lzbox K6 (.agg [(.int .i64 0), (.int .i64 0), (.int .i64 0), (.bool false), .nilSlice, (.int .i64 0)])) fun r6 => ob (lstV r6.2 6 r6.1 t4) fun r7 => ob (lbin .eql x (.int .i64 0)) fun t8 => ob (leqv true (leq .bool t5 t8)) fun t9 => cnd t9 (some ((.tuple [(.bool false), .int .i64 fd, .ptr H.length 0, .ptr t 0, .map K2.length, x, v78]), r7.2)) (gSix (.int .i64 fd) (.ptr H.length 0) (.ptr t 0) (.map K2.length) x v78 r7.2)) fun r => (∃ vs, vs.length = 6 ∧ r.1 = .tuple (.bool true :: vs)) ∨ ∃ t M e tab, r.1 = .tuple [.int .i64 fd, .ptr H.length 0, .ptr t 0, .map M, .int .i64 e, v78] ∧ SetF H.length t M fd e d nv tab r.2 := by
    intro z y b cs hxz hlk hc6 hc1 hzb hz hTT
    subst hxz
    rw [hlk, ob_some, iextract_tuple, iextract_tuple]
    simp only [List.getElem?_cons_zero, List.getElem?_cons_succ, ob_some]
    rw [lzbox_eq, ob_some]
    simp only [cells_agg]
    rw [stn (n := 6) newRow hc1 hc6 rfl, ob_some, setRow]
    have k7 : Frame NoF K6 (K6 ++ [IObj.row cs false]) := Frame.push _ _ _
    simp only [lbin_eql, ob_some]
    rw [hzb]
    cases b
    all_goals
      simp only [leq_bool, beq_self_eq_true, leqv_t, Bool.not_true, ob_some]
      rw [cnd_false]
      obtain ⟨G', hT'⟩ := hTT
      exact Wp.ret (.inr ⟨t, K2.length, z, tab, rfl, ⟨⟨G', hT'.kp k7⟩, hlen, k7.get (fun h => h) r6, hn6.kp k7, hqt, hm6.frame k7 (fun _ _ h => h), hz, by omega⟩⟩)
  obtain ⟨_, hx⟩ := hx
  have hlk := hm6.look (fd := fd) (z := .agg [(.int .i64 0), (.int .i64 0), (.int .i64 0), (.bool false), .nilSlice, (.int .i64 0)]) hlen
  rcases hx with ⟨p1, p2, G', p3, p4⟩ | ⟨p1, p2, p3⟩
  · rcases hlk with ⟨d0, nv0, w1, w2, w3⟩ | ⟨w1, w2⟩
    · exact fin (y := x) p2 w2 rfl (d0.cells_one w3) rfl (by rw [p1]; rfl) ⟨G', by unfold aft; rw [p1]; exact p3⟩
    · rw [w1] at p1; cases p1
  · rcases hlk with ⟨d0, nv0, w1, w2, w3⟩ | ⟨w1, w2⟩
    · rw [w1] at p1; cases p1
    · exact fin (y := x) p2 w2 rfl rfl rfl (by rw [p1]; rfl) ⟨G, by unfold aft; rw [p1]; exact p3⟩
end
end Go.Shade
/- DESC, part 21: 'DescSets': a round of the range, and what is behind it. -/
namespace Go.Shade
set_option linter.unusedVariables false
set_option linter.unusedSimpArgs false
section
variable {cal : FuncId → Bool} {φ : Oracle} {N : Nat} {aw nw pl al gt st sm cl : FuncId}
theorem sets_b (hg : GetOk φ gt) (hs : Same7Ok φ sm) {q t M I since : Nat} {fd e : Int} {d : Dsc} {nv : IV} {tab : Tab} {H : Heap} {es : List Ent} {seen : List Nat} {en : Ent} (hF : SetF q t M fd e d nv tab H) (hM : H[M]? = some (.map es (opens tab).length)) (hE : DEnt H M tab es (opens tab)) (hI : H[I]? = some (.iter (some M) since (seen ++ [en.2.2]) (opens tab).length)) (he : en ∈ es) :
    Wp (veneerlaw07DescSetsXC13S cal φ N aw nw pl al gt st sm cl gSix (.int .i64 fd) (.ptr q 0) (.ptr t 0) (.map M) (.int .i64 e) (.ptr I 0) H) fun r => r.1 = .tuple [.int .i64 fd, .ptr q 0, .ptr t 0, .map M, .int .i64 e, .ptr I 0] ∧ Frame NoF H r.2 := by
  unfold veneerlaw07DescSetsXC13S
  rw [DMap.entry hM hE hI he, ob_some, iextract_tuple, iextract_tuple]
  simp only [List.getElem?_cons_zero, List.getElem?_cons_succ, ob_some]
  obtain ⟨j, k, dk, mv, g1, g2, g3, rfl, g4⟩ := hE.mem he
  have hk32 := (mem_opens.1 (List.mem_of_getElem? g1)).1
  have hlk : look tab (k : Nat) = some dk := look_nat hk32 g3
  simp only
  rw [lzbox_eq, ob_some]
  simp only [cells_agg]
  rw [stn (n := 6) newRow (dk.cells_one g4.one) rfl rfl, ob_some, setRow]
  simp only
  have k1 : Frame NoF H (H ++ [IObj.row (dk.cells mv) false]) := Frame.push _ _ _
  have r1 := newRow (H := H) (o := IObj.row (dk.cells mv) false)
  have hF1 := hF.kp' k1
  have n1 := g4.kp k1
  generalize H ++ [IObj.row (dk.cells mv) false] = K1 at *
  obtain ⟨G, hT⟩ := hF1.tb
  refine Wp.call (hg G K1 t _ (k : Nat) hT) ?_
  rintro ⟨x, K2⟩ hx
  obtain ⟨f2, nv2, e2, b2⟩ := getRes hx
  simp only at f2 e2 b2 ⊢
  subst e2
  have hbd := lk2_bound (fd := (k : Nat)) hT
  rw [iextract_tuple, iextract_tuple]
  simp only [List.getElem?_cons_zero, List.getElem?_cons_succ, ob_some]
  rw [lzbox_eq, ob_some]
  simp only [cells_agg]
  rw [stn (n := 6) newRow (Dsc.cells_one _ b2.one) rfl rfl, ob_some, setRow]
  simp only
  have k3 : Frame NoF K2 (K2 ++ [IObj.row ((lk2 (aft tab fd d) (k : Nat)).1.cells nv2) false]) := Frame.push _ _ _
  have r3 := newRow (H := K2) (o := IObj.row ((lk2 (aft tab fd d) (k : Nat)).1.cells nv2) false)
  have kk := f2.tr k3
  have r1' := kk.get (fun h => h) r1
  have rq := kk.get (fun h => h) hF1.box
  have nq := hF1.nm.kp kk
  have n1' := n1.kp kk
  have n3 := (bufNm b2).kp k3
  have kkk := k1.tr kk
  generalize K2 ++ [IObj.row ((lk2 (aft tab fd d) (k : Nat)).1.cells nv2) false] = K3 at *
  simp only [lbin_neq, ob_some]
  by_cases hfd : (k : Int) = fd
  · rw [decide_eq_true hfd]
    subst hfd
    have haft : lk2 (aft tab (k : Nat) d) (k : Nat) = (d, 0) := by
      have : (look tab (k : Nat)).isSome = true := by rw [hlk]; rfl
      unfold lk2 aft; rw [if_pos this, look_put hlk hF.len]
    rw [haft] at r3 n3
    simp only [Bool.not_true, isB_ff, isB_ft, gq_false, gq_true, ge_false, ob_some, lpick_false, lbin_eql, decide_true, isB_tt]
    rw [ldn (n := 6) r3 rfl, ob_some, ldn (n := 6) rq rfl, ob_some, ge_true]
    refine Wp.call (hs _ _ _ _ _ _ _ ⟨nv2, rfl, n3⟩ ⟨nv, rfl, nq⟩ (by have := hF.sm; show d.names.length ≤ 1000000; omega)) ?_
    rintro ⟨z, K4⟩ ⟨w1, w2⟩
    simp only at w1 w2 ⊢
    subst w1
    simp only [decide_true, iun_not, ob_some, Bool.not_true, lpick_true, lpick_false]
    rw [cnd_false]
    exact Wp.ret ⟨rfl, kkk.tr w2⟩
  · rw [decide_eq_false hfd]
    have haft : lk2 (aft tab fd d) (k : Nat) = (dk, 0) := by
      unfold lk2 aft
      cases hl : look tab fd with
      | none => simp only [Option.isSome_none, Bool.false_eq_true, if_false, hlk]
      | some d0 =>
        obtain ⟨i, rfl, _, _⟩ := look_lt hl
        simp only [Option.isSome_some, if_true]
        rw [look_put_ne (by omega) (fun e => hfd e.symm), hlk]
    rw [haft] at r3 n3 hbd
    simp only [Bool.not_false, isB_tt, gq_true, ob_some]
    rw [ldn (n := 6) r1' rfl, ob_some, ldn (n := 6) r3 rfl, ob_some, ge_true]
    refine Wp.call (hs _ _ _ _ _ _ _ ⟨mv, rfl, n1'⟩ ⟨nv2, rfl, n3⟩ hbd) ?_
    rintro ⟨z, K4⟩ ⟨w1, w2⟩
    simp only at w1 w2 ⊢
    subst w1
    simp only [decide_true, iun_not, ob_some, Bool.not_true, lpick_true, lpick_false, isB_ff, gq_true, lbin_eql]
    rw [decide_eq_false hfd]
    simp only [isB_ft, gq_false, ge_false, ob_some, lpick_false]
    rw [cnd_false]
    exact Wp.ret ⟨rfl, kkk.tr w2⟩
theorem sets_c (hc : CloseOk φ cl) (hs : Same7Ok φ sm) {q t M : Nat} {v9 v78 : IV} {fd e : Int} {d : Dsc} {nv : IV} {tab : Tab} {H : Heap} (hF : SetF q t M fd e d nv tab H) :
    Wp (veneerlaw07DescSetsXC14S cal φ N aw nw pl al gt st sm cl (.int .i64 fd) (.ptr q 0) (.ptr t 0) v9 (.int .i64 e) v78 H) fun r => ∃ vs, vs.length = 6 ∧ r.1 = .tuple (.bool true :: vs) := by
  unfold veneerlaw07DescSetsXC14S
  obtain ⟨G, hT⟩ := hF.tb
  have hqt := hF.qt
  have lq := (List.getElem?_eq_some_iff.1 hF.box).1
  refine Wp.call (hc G H t _ fd hT) ?_
  rintro ⟨x, K1⟩ hx
  obtain ⟨f1, ⟨x', e1, d1⟩, g1⟩ := closeRes hx
  simp only at f1 e1 d1 g1 ⊢
  subst e1
  rw [iextract_tuple, iextract_tuple]
  simp only [List.getElem?_cons_zero, List.getElem?_cons_succ, ob_some]
  obtain ⟨nv1, rfl, n1⟩ := d1
  rw [lzbox_eq, ob_some]
  simp only [cells_agg]
  rw [stn (n := 6) newRow (Dsc.cells_one _ n1.one) rfl rfl, ob_some, setRow]
  simp only
  have k2 : Frame NoF K1 (K1 ++ [IObj.row ((lk2 (aft tab fd d) fd).1.cells nv1) false]) := Frame.push _ _ _
  have r2 := newRow (H := K1) (o := IObj.row ((lk2 (aft tab fd d) fd).1.cells nv1) false)
  have rq := k2.get (fun h => h) (f1.get (by omega) hF.box)
  have nq := (hF.nm.frame f1 fun i (hi : i < q) e => by omega).kp k2
  have n2 := n1.kp k2
  have g2 := g1.kp k2
  have l1 := f1.1
  have lK1 : K1.length < (K1 ++ [IObj.row ((lk2 (aft tab fd d) fd).1.cells nv1) false]).length := by simp
  have ltT := g1.ltT
  have lt0 := hT.ltT
  generalize K1 ++ [IObj.row ((lk2 (aft tab fd d) fd).1.cells nv1) false] = K2 at *
  refine Wp.call (hc G K2 t _ fd g2) ?_
  rintro ⟨y, K3⟩ hy
  obtain ⟨f3, ⟨y', e3, d3⟩, g3⟩ := closeRes hy
  simp only at f3 e3 d3 g3 ⊢
  subst e3
  have hz : lk2 (if (look (aft tab fd d) fd).isSome = true then put' (aft tab fd d) fd none else aft tab fd d) fd = (Dsc.zero, 9) := by
    unfold lk2
    cases hl : look (aft tab fd d) fd with
    | none => simp only [Option.isSome_none, Bool.false_eq_true, if_false, hl]
    | some d0 => simp only [Option.isSome_some, if_true]; rw [look_put hl hT.len]
  rw [hz] at d3 ⊢
  rw [iextract_tuple, iextract_tuple]
  simp only [List.getElem?_cons_zero, List.getElem?_cons_succ, ob_some]
  obtain ⟨nv3, rfl, n3⟩ := d3
  rw [lzbox_eq, ob_some]
  simp only [cells_agg]
  rw [stn (n := 6) newRow (Dsc.cells_one _ n3.one) rfl rfl, ob_some, setRow]
  simp only
  have k4 : Frame NoF K3 (K3 ++ [IObj.row (Dsc.zero.cells nv3) false]) := Frame.push _ _ _
  have r4 := newRow (H := K3) (o := IObj.row (Dsc.zero.cells nv3) false)
  have r2' := k4.get (fun h => h) (f3.get (by omega) r2)
  have rq' := k4.get (fun h => h) (f3.get (by omega) rq)
  have nq' := (nq.frame f3 fun i (hi : i < q) e => by omega).kp k4
  have n2' := (n2.frame f3 fun i (hi : H.length ≤ i) e => by omega).kp k4
  have n4 := n3.kp k4
  generalize K3 ++ [IObj.row (Dsc.zero.cells nv3) false] = K4 at *
  have he : (lk2 (aft tab fd d) fd).2 = e ∧ (e = 0 → (lk2 (aft tab fd d) fd).1 = d) := by
    rw [hF.er]
    unfold lk2 aft
    cases hl : look tab fd with
    | none => simp only [Option.isSome_none, Bool.false_eq_true, if_false, hl]; exact ⟨by first | trivial | rfl, fun h => by first | omega | (simp at h)⟩
    | some d0 => simp only [Option.isSome_some, if_true]; rw [look_put hl hF.len]; exact ⟨by first | trivial | rfl, fun _ => rfl⟩
  obtain ⟨he1, he2⟩ := he
  have hbld : lbld [(.int .i64 0), (.int .i64 0), (.int .i64 0), (.bool false), .nilSlice, (.int .i64 0)] [] = some (.agg (Dsc.zero.cells .nilSlice)) := rfl
  rw [he1]
  simp only [lbin_eql, ob_some, decide_true, isB_tt, gq_true, lpick_true]
  rw [ldn (n := 6) r4 rfl, ob_some, hbld, ob_some, ge_true]
  refine Wp.call (hs _ _ _ _ _ _ _ ⟨nv3, rfl, n4⟩ (zeroDV NoF K4) (by simp [Dsc.zero])) ?_
  rintro ⟨z, K5⟩ ⟨w1, w2⟩
  simp only at w1 w2 ⊢
  subst w1
  simp only [decide_true, lpick_true, ob_some, isB_tt, gq_true, lbin_neq]
  by_cases e0 : e = 0
  · rw [decide_eq_true e0]
    simp only [Bool.not_true, isB_ff, gq_true]
    have r5 := w2.get (fun h => h) r2'
    have r6 := w2.get (fun h => h) rq'
    rw [he2 e0] at r5 n2'
    rw [ldn (n := 6) r5 rfl, ob_some, ldn (n := 6) r6 rfl, ob_some, ge_true]
    refine Wp.call (hs _ _ _ _ _ _ _ ⟨nv1, rfl, n2'.kp w2⟩ ⟨nv, rfl, nq'.kp w2⟩ (by have := hF.sm; omega)) ?_
    rintro ⟨z, K6⟩ ⟨u1, u2⟩
    simp only at u1 ⊢
    subst u1
    simp only [decide_true, lpick_false, lpick_true, ob_some]
    exact Wp.ret ⟨_, rfl, rfl⟩
  · rw [decide_eq_false e0]
    simp only [Bool.not_false, isB_tf, gq_false, ge_false, ob_some, lpick_true]
    exact Wp.ret ⟨_, rfl, rfl⟩
end
end Go.Shade
/- DESC, part 22: 'DescSets', from first to last: whatever order the range takes. -/
namespace Go.Shade
set_option linter.unusedVariables false
set_option linter.unusedSimpArgs false
def lappN : Nat → LC → LC → LC
  | n + 1, .seq a b, c => .seq a (lappN n b c)
  | _, a, c => .seq a c
theorem lappN_W {cal : FuncId → Bool} {φ : Oracle} {n : Nat} {c : LC} : ∀ {j : Nat} {a : LC} {σ : Sg} {H : Heap} {k : IX → Sg → Heap → Prop}, lxW cal φ n (.seq a c) σ H k → lxW cal φ n (lappN j a c) σ H k := by
  intro j
  induction j with
  | zero => intro a σ H k h; cases a <;> exact h
  | succ j ih =>
    intro a σ H k h
    cases a with
    | seq a b =>
      simp only [lappN, lxW] at h ⊢
      refine lxW_mono (fun x σ H hx => ?_) h
      cases x with
      | normal => exact ih hx
      | exit id => exact hx
      | ret => exact hx
    | _ => exact h
section
variable (aw nw pl al gt st sm cl : FuncId)
def setsL2 : LC := .seq (.reg [⟨some 79, .nxt (.t 78), none⟩, ⟨some 80, .ext (.t 79) 0, none⟩]) (.seq (.cond (.t 80) .skip (.exit 4)) (.block 5 (veneerlaw07DescSetsXC13 aw nw pl al gt st sm cl)))
def setsLo : LFun := ⟨lappN 9 (veneerlaw07DescSetsXC12 aw nw pl al gt st sm cl) (.seq (.seq (.reg [⟨some 77, .mv (.t 9), none⟩, ⟨some 78, .rng (.t 77), none⟩]) (.block 4 (.loop (setsL2 aw nw pl al gt st sm cl)))) (veneerlaw07DescSetsXC14 aw nw pl al gt st sm cl)), [.tmp 6], 143⟩
end
def setsRs : List LRes := [(.tmp 6), (.tmp 1), (.tmp 5), (.tmp 7), (.tmp 9), (.tmp 12), (.tmp 78)]
def setsK : KT (IV × Heap) := fun x σ H => match x with
  | .normal => gSix (lk σ 1) (lk σ 5) (lk σ 7) (lk σ 9) (lk σ 12) (lk σ 78) H
  | .ret => resK setsRs [] σ H
  | .exit _ => none
theorem setsK_ret {σ : Sg} {H : Heap} {r : Out} (h : setsK .ret σ H = some r) : r = (.tuple [lk σ 6, lk σ 1, lk σ 5, lk σ 7, lk σ 9, lk σ 12, lk σ 78], H) := by cases h; rfl
theorem setsK_nor {σ : Sg} {H : Heap} {r : Out} (h : setsK .normal σ H = some r) : r = (.tuple [lk σ 1, lk σ 5, lk σ 7, lk σ 9, lk σ 12, lk σ 78], H) := by cases h; rfl
section
variable {cal : FuncId → Bool} {φ : Oracle} {N : Nat} {aw nw pl al gt st sm cl : FuncId}
theorem sets_loop (hg : GetOk φ gt) (hs : Same7Ok φ sm) {q t M : Nat} {fd e : Int} {d : Dsc} {nv : IV} {tab : Tab} {K : Heap} {es : List Ent} {kk : IX → Sg → Heap → Prop} (hF : SetF q t M fd e d nv tab K) (hM : K[M]? = some (.map es (opens tab).length)) (hE : DEnt K M tab es (opens tab))
    (hQ : ∀ σ H, lk σ 1 = .int .i64 fd → lk σ 5 = .ptr q 0 → lk σ 7 = .ptr t 0 → lk σ 12 = .int .i64 e → SetF q t M fd e d nv tab H → kk (.exit 4) σ H) :
    ∀ (n : Nat) (σ : Sg) (H : Heap) (seen : List Nat), (es.filter fun q => !seen.contains q.2.2).length < n → Frame (K.length ≤ ·) K H → H[K.length]? = some (.iter (some M) (opens tab).length seen (opens tab).length) →
      lk σ 1 = .int .i64 fd → lk σ 5 = .ptr q 0 → lk σ 7 = .ptr t 0 → lk σ 9 = .map M → lk σ 12 = .int .i64 e → lk σ 78 = .ptr K.length 0 →
      itW (lxW cal φ N (setsL2 aw nw pl al gt st sm cl)) n σ H kk := by
  have lM := (List.getElem?_eq_some_iff.1 hM).1
  have hborn : ∀ e ∈ es, e.2.2 < (opens tab).length := fun e he => by
    obtain ⟨j, k, d, nv, g1, _, _, rfl, _⟩ := hE.mem he
    exact (List.getElem?_eq_some_iff.1 g1).1
  intro n
  induction n with
  | zero => intro σ H seen hm; omega
  | succ n ih =>
    intro σ H seen hn hK hI h1 h5 h7 h9 h12 h78
    have hMH := hK.get (by omega) hM
    have hFH := hF.up hK
    obtain ⟨l, hl, hout⟩ := nxt_out hI hMH hborn
    simp only [itW]
    unfold setsL2
    simp only [lxW, lopsW]
    refine ⟨l, by unfold lopW; simp only [lwanted, la, if_true, h78]; exact hl, fun r hr => ?_⟩
    rcases hout r hr with rfl | ⟨en, he, hns, rfl⟩
    · refine ⟨[(.bool false, H)], rfl, fun r hr => ?_⟩
      rw [List.mem_singleton] at hr; subst hr
      exact hQ _ _ h1 h5 h7 h12 hFH
    · refine ⟨[(.bool true, H.set K.length (.iter (some M) (opens tab).length (seen ++ [en.2.2]) (opens tab).length))], rfl, fun r hr => ?_⟩
      rw [List.mem_singleton] at hr; subst hr
      simp only
      have k1 : Frame (K.length ≤ ·) H (H.set K.length (.iter (some M) (opens tab).length (seen ++ [en.2.2]) (opens tab).length)) := Frame.set _ _ (Nat.le_refl _)
      have hI1 := setAt (o' := IObj.iter (some M) (opens tab).length (seen ++ [en.2.2]) (opens tab).length) hI
      have kk1 := hK.tr k1
      generalize H.set K.length (.iter (some M) (opens tab).length (seen ++ [en.2.2]) (opens tab).length) = H1 at *
      have hF1 := hF.up kk1
      have hM1 := kk1.get (by omega) hM
      have hE1 : DEnt H1 M tab es (opens tab) := ⟨hE.1, fun j x hx => by obtain ⟨d, nv, a, b, c⟩ := hE.2 j x hx; exact ⟨d, nv, a, b, c.up kk1⟩⟩
      show lxW cal φ N (veneerlaw07DescSetsXC13 aw nw pl al gt st sm cl) _ H1 _
      refine lxK_W (k := setsK) (Q := fun r => r.1 = .tuple [.int .i64 fd, .ptr q 0, .ptr t 0, .map M, .int .i64 e, .ptr K.length 0] ∧ Frame NoF H1 r.2) ?_ ?_
      · rw [veneerlaw07DescSetsXC13Eq cal φ N aw nw pl al gt st sm cl (k := setsK) gSix (fun _ _ => rfl) (fun _ _ => rfl)]
        have a1 : ∀ v w, lk ((80, v) :: (79, w) :: σ) 1 = lk σ 1 := fun _ _ => rfl
        have a5 : ∀ v w, lk ((80, v) :: (79, w) :: σ) 5 = lk σ 5 := fun _ _ => rfl
        have a7 : ∀ v w, lk ((80, v) :: (79, w) :: σ) 7 = lk σ 7 := fun _ _ => rfl
        have a9 : ∀ v w, lk ((80, v) :: (79, w) :: σ) 9 = lk σ 9 := fun _ _ => rfl
        have a12 : ∀ v w, lk ((80, v) :: (79, w) :: σ) 12 = lk σ 12 := fun _ _ => rfl
        have a78 : ∀ v w, lk ((80, v) :: (79, w) :: σ) 78 = lk σ 78 := fun _ _ => rfl
        simp only [pput, a1, a5, a7, a9, a12, a78, h1, h5, h7, h9, h12, h78]
        exact sets_b hg hs hF1 hM1 hE1 hI1 he
      · rintro x σ' H' r hx ⟨hr1, hr2⟩
        cases x with
        | exit id => cases hx
        | ret =>
          rw [setsK_ret hx] at hr1
          simp at hr1
        | normal =>
          rw [setsK_nor hx] at hr1 hr2
          simp only [IV.tuple.injEq, List.cons.injEq, and_true] at hr1
          obtain ⟨b1, b5, b7, b9, b12, b78⟩ := hr1
          simp only at hr2 ⊢
          exact ih σ' H' (seen ++ [en.2.2]) (by have := unseen_lt he hns; omega) (kk1.tr hr2.no) (hr2.get (fun h => h) hI1) b1 b5 b7 b9 b12 b78
theorem sets_w (ha : ∀ H : Heap, φ aw [] H = some (.bool true, H)) (hnw : NewOk φ nw) (hp : PlayOk φ pl) (hal : AllOk φ al) (hg : GetOk φ gt) (hst : SetOk φ st) (hs : Same7Ok φ sm) (hc : CloseOk φ cl) (hN : 120 < N) {H : Heap} {v0 : IV} {l : List Ac} {fd : Int} {d : Dsc} {nv : IV} (hv0 : AcsV H.length H v0 l) (hn : Nm (· < H.length) H nv d.names) :
    lrunW cal φ N (setsLo aw nw pl al gt st sm cl) [v0, .int .i64 fd, .agg (d.cells nv)] H fun r _ => r = .bool true := by
  unfold lrunW setsLo
  refine lappN_W ?_
  show lxW cal φ N (veneerlaw07DescSetsXC12 aw nw pl al gt st sm cl) _ H _
  have toEnd : ∀ {σ : Sg} {H : Heap}, lk σ 6 = .bool true → endW [.tmp 6] (fun r _ => r = .bool true) .ret σ H := fun h => ⟨[.bool true], by rw [← h]; rfl, rfl⟩
  refine lxK_W (k := setsK) (Q := fun r => (∃ vs, vs.length = 6 ∧ r.1 = .tuple (.bool true :: vs)) ∨ ∃ t M e tab, r.1 = .tuple [.int .i64 fd, .ptr H.length 0, .ptr t 0, .map M, .int .i64 e, .tuple []] ∧ SetF H.length t M fd e d nv tab r.2) ?_ ?_
  · rw [veneerlaw07DescSetsXC12Eq cal φ N aw nw pl al gt st sm cl (k := setsK) gSix (fun _ _ => rfl) (fun _ _ => rfl)]
    exact sets_a (v78 := .tuple []) ha hnw hp hal hg hst hN hv0 hn
  · rintro x σ K r hx hr
    cases x with
    | exit id => cases hx
    | ret =>
      rw [setsK_ret hx] at hr
      rcases hr with ⟨vs, hl, hr⟩ | ⟨t, M, e, tab, hr, _⟩
      · simp only [IV.tuple.injEq, List.cons.injEq] at hr
        exact toEnd hr.1
      · simp at hr
    | normal =>
      rw [setsK_nor hx] at hr
      rcases hr with ⟨vs, hl, hr⟩ | ⟨t, M, e, tab, hr, hF⟩
      · simp only [IV.tuple.injEq, List.cons.injEq] at hr
        rw [← hr.2] at hl; simp at hl
      · simp only [IV.tuple.injEq, List.cons.injEq, and_true] at hr
        obtain ⟨b1, b5, b7, b9, b12, b78⟩ := hr
        simp only at hF
        obtain ⟨es, hM, hE⟩ := hF.mp
        have hlen : (opens tab).length ≤ 32 := by rw [opens_cnt tab hF.len]; have := cnt_le tab; rw [hF.len] at this; exact this
        simp only [lxW, lopsW]
        refine ⟨[(lk σ 9, K)], rfl, fun r hr => ?_⟩
        rw [List.mem_singleton] at hr; subst hr
        have hrng : stRng K (.map M) = some (.ptr K.length 0, K ++ [.iter (some M) (opens tab).length [] (opens tab).length]) := by simp only [stRng, hM]
        refine ⟨[(.ptr K.length 0, K ++ [.iter (some M) (opens tab).length [] (opens tab).length])], ?_, fun r hr => ?_⟩
        · show ((stRng K (lk σ 9)).bind fun r => some [r]) = _
          rw [b9, hrng]; rfl
        rw [List.mem_singleton] at hr; subst hr
        simp only [pput]
        have k1 : Frame NoF K (K ++ [IObj.iter (some M) (opens tab).length [] (opens tab).length]) := Frame.push _ _ _
        have hel : es.length ≤ 32 := by rw [hE.1]; exact hlen
        refine sets_loop hg hs hF hM hE (fun σ' H' c1 c5 c7 c12 hF' => ?_) N _ _ [] (by have := List.length_filter_le (fun q : Ent => !([] : List Nat).contains q.2.2) es; omega) (k1.mono fun _ h => h.elim) newRow b1 b5 b7 b9 b12 rfl
        show lxW cal φ N (veneerlaw07DescSetsXC14 aw nw pl al gt st sm cl) σ' H' _
        refine lxK_W (k := fun x σ H => match x with | .ret => resK setsRs [] σ H | _ => none) (Q := fun r => ∃ vs, vs.length = 6 ∧ r.1 = .tuple (.bool true :: vs)) ?_ ?_
        · rw [veneerlaw07DescSetsXC14Eq cal φ N aw nw pl al gt st sm cl (k := fun x σ H => match x with | .ret => resK setsRs [] σ H | _ => none) (fun _ _ => rfl)]
          rw [c1, c5, c7, c12]
          exact sets_c hc hs hF'
        · rintro x σ2 H2 r hx ⟨vs, hl, hr⟩
          cases x with
          | exit id => cases hx
          | normal => cases hx
          | ret =>
            have : r = (.tuple [lk σ2 6, lk σ2 1, lk σ2 5, lk σ2 7, lk σ2 9, lk σ2 12, lk σ2 78], H2) := setsK_ret hx
            rw [this] at hr
            simp only [IV.tuple.injEq, List.cons.injEq] at hr
            exact toEnd hr.1
end
end Go.Shade
/- DESC, part 23: this seat's program: the law DescSets. -/
namespace Go.Proofs.Ytbcekfagnajooaa
open Go.Shade
theorem lo6 : LoF Try.prog 6 (setsLo 8 9 24 21 18 16 15 13) := ⟨⟨Try.f6, Try.func6, by kernel_rfl⟩, by kernel_rfl⟩
end Go.Proofs.Ytbcekfagnajooaa
