/- DESC, part 13: contracts of the document's table: the other functions. -/
import Derived.Test.YtbcekfagnajooaaM3
namespace Go.Shade
set_option linter.unusedVariables false
set_option linter.unusedSimpArgs false
section
variable {cal : FuncId → Bool} {φ : Oracle} {N : Nat}
def RSetP (G : Nat → Prop) (H : Heap) (t : Nat) (tab : Tab) (fd : Int) (d : Dsc) (r : Out) : Prop :=
  Frame (fun i => i = t) H r.2 ∧
  (((look tab fd).isSome = true ∧ r.1 = .int .i64 0 ∧ ∃ G', RTab G' r.2 t (put' tab fd (some d)) ∧ ∀ j, G' j → G j ∨ H.length ≤ j) ∨ (look tab fd = none ∧ r.1 = .int .i64 9 ∧ RTab G r.2 t tab))
def RSetOk (φ : Oracle) (f : FuncId) : Prop := ∀ (F G : Nat → Prop) (H : Heap) (t : Nat) (tab : Tab) (fd : Int) (x : IV) (d : Dsc), RTab G H t tab → DV F H x d → d.names.length ≤ 1000000 → Wp (φ f [.ptr t 0, .int .i64 fd, x] H) (RSetP G H t tab fd d)
theorem rset_s {fg fo : FuncId} (hg : RGetOk φ fg) (ho : ROwnOk φ fo) {F G : Nat → Prop} {H : Heap} {t : Nat} {tab : Tab} {fd : Int} {x : IV} {d : Dsc} (hT : RTab G H t tab) (hx : DV F H x d) (hb : d.names.length ≤ 1000000) : Wp (VeneerVeneerref07TableSetS cal φ N fg fo (.ptr t 0) (.int .i64 fd) x H) (RSetP G H t tab fd d) := by
  obtain ⟨nv, rfl, hnv⟩ := hx
  unfold VeneerVeneerref07TableSetS
  have hbx : lbox H (.agg (d.cells nv)) = some (.ptr H.length 0, H ++ [IObj.row (d.cells nv) false]) := lbox_agg (d.cells_one hnv.one)
  rw [hbx, ob_some]
  simp only
  have k1 : Frame NoF H (H ++ [IObj.row (d.cells nv) false]) := Frame.push _ _ _
  have r1 : (H ++ [IObj.row (d.cells nv) false])[H.length]? = some (.row (d.cells nv) false) := newRow
  generalize H ++ [IObj.row (d.cells nv) false] = K at *
  have hTK := hT.kp k1
  refine Wp.call (hg G K t tab fd hTK) ?_
  rintro ⟨r, K2⟩ hr
  have k2 : Frame NoF K K2 := hr.1
  obtain ⟨cs, e, e1, e2, e3, e4⟩ := rget_val hr
  simp only at e1 k2 ⊢
  subst e1
  rw [iextract_tuple, iextract_tuple]
  simp only [List.getElem?_cons_zero, List.getElem?_cons_succ, ob_some]
  rw [lzbox_eq, ob_some]
  simp only [cells_agg]
  rw [stn newRow e2 e3 rfl, ob_some, setRow]
  simp only
  have k3 : Frame NoF K2 (K2 ++ [IObj.row cs false]) := Frame.push _ _ _
  have kk := (k1.tr k2).tr k3
  have r3 := (k2.tr k3).get (fun h => h) r1
  have hT3 := hTK.kp (k2.tr k3)
  have hn3 := (hnv.kp k1).kp (k2.tr k3)
  generalize K2 ++ [IObj.row cs false] = K3 at *
  rw [jn_eq, lbin_eql, ob_some]
  cases hl : look tab fd with
  | none =>
    have : e = 9 := by rw [e4, hl]; rfl
    subst this
    rw [decide_eq_false (by decide), cnd_false]
    exact Wp.ret ⟨kk.no, .inr ⟨hl, rfl, hT3⟩⟩
  | some d0 =>
    have : e = 0 := by rw [e4, hl]; rfl
    subst this
    rw [decide_eq_true rfl, cnd_true, ldn r3 (d.cells_length nv), ob_some]
    refine Wp.call (ho F K3 _ d ⟨nv, rfl, hn3⟩ hb) ?_
    rintro ⟨r, K4⟩ ⟨nv2, f1, f4, f5⟩
    simp only at f1 f4 f5 ⊢
    subst f1
    obtain ⟨i, rfl, hi, hti⟩ := look_lt hl
    have hT4 := hT3.kp f5
    obtain ⟨ct, c, e, g1, g2, g3, g4, g5⟩ := hT4.get (i := i) hi
    have hc : ct[i]? = some (.bool true) := by
      rw [hti] at g4; cases g4
      rcases g5 with ⟨h, _⟩ | ⟨_, _, _, h, _⟩
      · cases h
      · rw [g3, h]
    rw [lchk_ptr, ob_some, loff_ptr, ob_some, lixa_ptr, if_pos (by omega), Int.toNat_natCast, Nat.zero_add, ob_some, stnAt (n := 6) g1 (d.cells_one f4.one) rfl (by omega), ob_some]
    have hlt := hT3.ltT
    refine Wp.ret ⟨(kk.tr f5).no.tr (Frame.set _ _ rfl), .inl ⟨by rw [hl]; rfl, rfl, _, by unfold put'; rw [Int.toNat_natCast]; exact rput hT4 g1 g2 hi hc f4 hlt hb, fun j hj => ?_⟩⟩
    rcases hj with h | h
    · exact .inl h
    · exact .inr (Nat.le_trans kk.1 h.1)
def RCloseP (G : Nat → Prop) (H : Heap) (t : Nat) (tab : Tab) (fd : Int) (r : Out) : Prop :=
  Frame (fun i => i = t) H r.2 ∧
  ((∃ d x, look tab fd = some d ∧ r.1 = .tuple [x, .int .i64 0] ∧ DV (New H) r.2 x d ∧ RTab G r.2 t (put' tab fd none)) ∨ (look tab fd = none ∧ r.1 = .tuple [.agg (Dsc.zero.cells .nilSlice), .int .i64 9] ∧ RTab G r.2 t tab))
def RCloseOk (φ : Oracle) (f : FuncId) : Prop := ∀ (G : Nat → Prop) (H : Heap) (t : Nat) (tab : Tab) (fd : Int), RTab G H t tab → Wp (φ f [.ptr t 0, .int .i64 fd] H) (RCloseP G H t tab fd)
theorem rclose_s {fg : FuncId} (hg : RGetOk φ fg) {G : Nat → Prop} {H : Heap} {t : Nat} {tab : Tab} {fd : Int} (hT : RTab G H t tab) : Wp (VeneerVeneerref07TableCloseS cal φ N fg (.ptr t 0) (.int .i64 fd) H) (RCloseP G H t tab fd) := by
  unfold VeneerVeneerref07TableCloseS
  rw [lzbox_eq, ob_some]
  simp only [cells_agg]
  have k1 : Frame NoF H (H ++ [IObj.row (Dsc.zero.cells .nilSlice) false]) := Frame.push _ _ _
  have r1 : (H ++ [IObj.row (Dsc.zero.cells .nilSlice) false])[H.length]? = some (.row (Dsc.zero.cells .nilSlice) false) := newRow
  have hz : ([.int .i64 0, .int .i64 0, .int .i64 0, .bool false, .nilSlice, .int .i64 0] : List IV) = Dsc.zero.cells .nilSlice := rfl
  rw [hz]
  have lK : (H ++ [IObj.row (Dsc.zero.cells .nilSlice) false]).length = H.length + 1 := by simp
  generalize H ++ [IObj.row (Dsc.zero.cells .nilSlice) false] = K at *
  have hTK := hT.kp k1
  refine Wp.call (hg G K t tab fd hTK) ?_
  rintro ⟨r, K2⟩ hr
  have k2 : Frame NoF K K2 := hr.1
  obtain ⟨cs, e, e1, e2, e3, e4⟩ := rget_val hr
  obtain ⟨_, hr'⟩ := hr
  simp only at e1 k2 hr' ⊢
  subst e1
  rw [iextract_tuple, iextract_tuple]
  simp only [List.getElem?_cons_zero, List.getElem?_cons_succ, ob_some]
  rw [lzbox_eq, ob_some]
  simp only [cells_agg]
  rw [stn newRow e2 e3 rfl, ob_some, setRow]
  simp only
  have k3 : Frame NoF K2 (K2 ++ [IObj.row cs false]) := Frame.push _ _ _
  have q3 : (K2 ++ [IObj.row cs false])[K2.length]? = some (.row cs false) := newRow
  have kk := (k1.tr k2).tr k3
  have r3 := (k2.tr k3).get (fun h => h) r1
  have hT3 := hTK.kp (k2.tr k3)
  have lK2 := k2.1
  rw [jn_eq, lbin_eql, ob_some]
  have lt3 : t < K.length := hTK.ltT
  have ltH : t < H.length := hT.ltT
  have fin : ∀ (K4 : Heap), Frame (fun i => i = t) (K2 ++ [IObj.row cs false]) K4 → Wp (ob (lloadn K4 6 (.ptr K2.length 0)) fun t14 => ob (lstV K4 6 (.ptr H.length 0) t14) fun r15 => ob (lloadn r15.2 6 (.ptr H.length 0)) fun t16 => some ((IV.tuple [t16, .int .i64 e]), r15.2)) fun r => r.1 = .tuple [.agg cs, .int .i64 e] ∧ ∃ ro, r.2 = K4.set H.length ro := by
    intro K4 k4
    have a1 := k4.get (by omega) q3
    have a2 := k4.get (by omega) r3
    rw [ldn a1 e3, ob_some, stn a2 e2 e3 rfl, ob_some]
    simp only
    rw [ldn (setAt a2) e3, ob_some]
    exact Wp.ret ⟨rfl, _, rfl⟩
  cases hl : look tab fd with
  | none =>
    have : e = 9 := by rw [e4, hl]; rfl
    subst this
    rw [decide_eq_false (by decide), cnd_false]
    refine (fin _ (Frame.refl _ _)).mono ?_
    rintro ⟨r, K5⟩ ⟨f1, ro, f2⟩
    simp only at f1 f2
    subst f1 f2
    rcases hr' with ⟨d, x, h1, _⟩ | ⟨h1, h2⟩
    · rw [hl] at h1; cases h1
    · have : cs = Dsc.zero.cells .nilSlice := by injection h2 with h2; injection h2 with h2; injection h2
      subst this
      refine ⟨(kk.no).setNew _ (Nat.le_refl _), .inr ⟨hl, rfl, hT3.frame (Frame.set (F := fun i => i = H.length) _ _ rfl) (by omega) fun i hi => by have := hT.lt i hi; omega⟩⟩
  | some d0 =>
    have : e = 0 := by rw [e4, hl]; rfl
    subst this
    rw [decide_eq_true rfl, cnd_true]
    obtain ⟨i, rfl, hi, hti⟩ := look_lt hl
    obtain ⟨ct, c, e', g1, g2, g3, g4, g5⟩ := hT3.get (i := i) hi
    rw [lchk_ptr, ob_some, loff_ptr, ob_some, lixa_ptr, if_pos (by omega), Int.toNat_natCast, Nat.mul_one, Nat.zero_add, ob_some, st1 g1 rfl (by omega), ob_some]
    simp only
    refine (fin _ (Frame.set _ _ rfl)).mono ?_
    rintro ⟨r, K5⟩ ⟨f1, ro, f2⟩
    simp only at f1 f2
    subst f1 f2
    have hTs : RTab G ((K2 ++ [IObj.row cs false]).set t (.row (ct.set i (.bool false)) false)) t (tab.set i none) :=
      hT3.upd (c := .bool false) g1 (fun j h => h) hT3.notG hT3.lt hi (by rw [List.length_set]; exact g2) (by rw [List.getElem?_set_self (by omega)]) rfl (fun j hj _ => List.getElem?_set_ne (Ne.symm hj)) (fun k hk hk2 => drop6 fun j h1 h2 => List.getElem?_set_ne (by omega)) (.inl ⟨rfl, rfl⟩)
    rcases hr' with ⟨d, x, h1, h2, h3⟩ | ⟨h1, h2⟩
    · have : x = .agg cs := by injection h2 with h2; injection h2 with h2 _; exact h2.symm
      subst this
      have kt := (kk.no (G := fun i => i = t)).tr (Frame.set (K2 ++ [IObj.row cs false]) (IObj.row (ct.set i (.bool false)) false) (rfl : t = t))
      refine ⟨kt.setNew _ (Nat.le_refl _), .inl ⟨d, _, h1, rfl, ?_, ?_⟩⟩
      · refine ((h3.kp k3).mono (G := fun i => H.length < i) fun i (hi : K.length ≤ i) => by omega).frame (Frame.set (F := fun i => i = t) _ _ rfl) (fun i hi e => by omega) |>.frame (Frame.set (F := fun i => i = H.length) _ _ rfl) (fun i hi e => by omega) |>.mono fun i hi => Nat.le_of_lt hi
      · unfold put'
        rw [Int.toNat_natCast]
        exact hTs.frame (Frame.set (F := fun i => i = H.length) _ _ rfl) (by omega) fun i hi => by have := hT.lt i hi; omega
    · rw [hl] at h1; cases h1
def RAllOk (φ : Oracle) (f : FuncId) : Prop := ∀ (G : Nat → Prop) (H : Heap) (t : Nat) (tab : Tab), RTab G H t tab → Wp (φ f [.ptr t 0] H) (AllP H tab)
theorem rall_go {G : Nat → Prop} {H0 : Heap} {t : Nat} {tab : Tab} (hT0 : RTab G H0 t tab) : ∀ (k i n : Nat) (w : IV) (H : Heap), i + k = 32 → k < n → Frame NoF H0 H → Buf H0.length 1 H w (ints ((List.range i).filter fun i => (tab[i]?).join.isSome)) →
    Wp (VeneerVeneerref07TableAllC0S cal φ N (fun v3 H => some (v3, H)) n (.ptr t 0) w (.int .i64 (i : Nat)) H) (AllP H0 tab) := by
  intro k
  induction k with
  | zero =>
    intro i n w H hi hn hK hw
    obtain ⟨n, rfl⟩ : ∃ j, n = j + 1 := ⟨n - 1, by omega⟩
    rw [VeneerVeneerref07TableAllC0S, lbin_lss, ob_some, decide_eq_false (by omega), cnd_false]
    have : i = 32 := by omega
    subst this
    exact Wp.ret ⟨hK, hw.sl' (by rw [ints_length]; simp [opens]) (by omega), hw.ge⟩
  | succ k ih =>
    intro i n w H hi hn hK hw
    obtain ⟨n, rfl⟩ : ∃ j, n = j + 1 := ⟨n - 1, by omega⟩
    rw [VeneerVeneerref07TableAllC0S, lbin_lss, ob_some, decide_eq_true (by omega), cnd_true, jn_eq]
    have hT := hT0.kp hK
    obtain ⟨cs, c, e, g1, g2, g3, g4, g5⟩ := hT.get (i := i) (by omega)
    rw [lchk_ptr, ob_some, loff_ptr, ob_some, lixa_ptr, if_pos (by omega), Int.toNat_natCast, Nat.mul_one, Nat.zero_add, ob_some, ld1 g1, g3, ob_some]
    have hsucc := opensTo_succ tab i
    rw [g4] at hsucc
    rcases g5 with ⟨rfl, rfl⟩ | ⟨d', nv', rfl, rfl, h1, h3, h4⟩
    · rw [cnd_false]
      simp only
      rw [lbin_add, ob_some, wrap_i64 (by omega) (by omega), show ((i : Nat) : Int) + 1 = ((i + 1 : Nat) : Int) by omega]
      exact ih (i + 1) n w H (by omega) (by omega) hK (by rw [hsucc]; simpa using hw)
    · rw [cnd_true]
      have z : lbldS H 1 1 [(.int .i64 0)] [(0, .int .i64 (i : Nat))] = some (.slice H.length 0 1 1 true 1, H ++ [.row (ints [i]) false]) := rfl
      rw [z, ob_some]
      simp only
      have k1 : Frame NoF H (H ++ [.row (ints [i]) false]) := Frame.push _ _ _
      have hx : Sl 1 (H ++ [.row (ints [i]) false]) (.slice H.length 0 1 1 true 1) 1 (ints [i]) := ⟨rfl, .inr ⟨_, 0, 1, true, 1, rfl, Nat.le_refl _, .inr rfl, fun _ => ⟨_, false, newRow, Nat.le_refl _, rfl⟩⟩⟩
      have ho := opensTo_len tab i
      refine Wp.call (app_sl (hw.frame k1 fun i h => h.elim) (by have := hK.1; simp; omega) (by omega) hx (ints_one _) (by rw [ints_length, ints_length]; simp; omega)) ?_
      rintro ⟨w2, H2⟩ ⟨q1, q2⟩
      simp only at q1 q2 ⊢
      rw [lbin_add, ob_some, wrap_i64 (by omega) (by omega), show ((i : Nat) : Int) + 1 = ((i + 1 : Nat) : Int) by omega]
      exact ih (i + 1) n w2 H2 (by omega) (by omega) ((hK.tr k1).trans q2 fun j hj hf => by omega) (by rw [hsucc, ints_append]; exact q1)
theorem rall_s (hN : 32 < N) {G : Nat → Prop} {H : Heap} {t : Nat} {tab : Tab} (hT : RTab G H t tab) : Wp (VeneerVeneerref07TableAllS cal φ N (.ptr t 0) H) (AllP H tab) := by
  unfold VeneerVeneerref07TableAllS VeneerVeneerref07TableAllC5S VeneerVeneerref07TableAllC4S VeneerVeneerref07TableAllC3S VeneerVeneerref07TableAllC2S VeneerVeneerref07TableAllC1S
  have z : lbldS H 1 0 [(.int .i64 0)] [] = some (.slice H.length 0 0 0 true 1, H ++ [.row [] false]) := rfl
  rw [z, ob_some]
  have k1 : Frame NoF H (H ++ [.row [] false]) := Frame.push _ _ _
  exact rall_go hT 32 0 N _ _ (by omega) hN k1 (.inr ⟨H.length, 0, true, rfl, Nat.le_refl _, newRow, rfl⟩)
/-- The same numbers. -/
theorem ints_go {F F' : Nat → Prop} {H : Heap} {v w : IV} {l : List Nat} (hv : Sl 1 H v l.length (ints l)) (hw : Sl 1 H w l.length (ints l)) (hl : l.length ≤ 32) : ∀ (k i n : Nat), i + k = l.length → k < n →
    veneerlaw07IntsC0S cal φ N (fun H => some (.bool true, H)) n v w (.int .i64 (l.length : Nat)) (.int .i64 (i : Nat)) H = some (.bool true, H) := by
  intro k
  induction k with
  | zero =>
    intro i n hi hn
    obtain ⟨n, rfl⟩ : ∃ j, n = j + 1 := ⟨n - 1, by omega⟩
    rw [veneerlaw07IntsC0S, lbin_lss, ob_some, decide_eq_false (by omega), cnd_false]
  | succ k ih =>
    intro i n hi hn
    obtain ⟨n, rfl⟩ : ∃ j, n = j + 1 := ⟨n - 1, by omega⟩
    rw [veneerlaw07IntsC0S, lbin_lss, ob_some, decide_eq_true (by omega), cnd_true]
    obtain ⟨p, e1, e2⟩ := hv.at1 (i := i) (by omega)
    obtain ⟨q, f1, f2⟩ := hw.at1 (i := i) (by omega)
    have g1 := List.getElem?_eq_getElem (l := l) (i := i) (by omega)
    rw [e1, ob_some, e2, f1]
    simp only [ints, List.getElem?_map, g1, Option.map_some, ob_some]
    rw [f2]
    simp only [ints, List.getElem?_map, g1, Option.map_some, ob_some, lbin_neq, decide_true, Bool.not_true]
    rw [cnd_false, lbin_add, ob_some, wrap_i64 (by omega) (by omega), show ((i : Nat) : Int) + 1 = ((i + 1 : Nat) : Int) by omega]
    exact ih (i + 1) n (by omega) (by omega)
def IntsOk (φ : Oracle) (f : FuncId) : Prop := ∀ (H : Heap) (v w : IV) (l : List Nat), Sl 1 H v l.length (ints l) → Sl 1 H w l.length (ints l) → l.length ≤ 32 → φ f [v, w] H = some (.bool true, H)
theorem ints_s (hN : 32 < N) {H : Heap} {v w : IV} {l : List Nat} (hv : Sl 1 H v l.length (ints l)) (hw : Sl 1 H w l.length (ints l)) (hl : l.length ≤ 32) : veneerlaw07IntsS cal φ N v w H = some (.bool true, H) := by
  unfold veneerlaw07IntsS veneerlaw07IntsC5S veneerlaw07IntsC4S veneerlaw07IntsC3S veneerlaw07IntsC2S veneerlaw07IntsC1S
  rw [hv.len, ob_some, hw.len, ob_some, lbin_neq, ob_some, decide_eq_true rfl, Bool.not_true, cnd_false, ob_some]
  exact ints_go (F := NoF) (F' := NoF) hv hw hl l.length 0 N (by omega) (by omega)
end
end Go.Shade
/- DESC, part 8a: counting what is open. -/
namespace Go.Shade
set_option linter.unusedVariables false
set_option linter.unusedSimpArgs false
theorem filter_set {α : Type} (p : α → Bool) : ∀ (l : List α) (i : Nat) (a b : α), l[i]? = some a → (((l.set i b).filter p).length : Int) = (l.filter p).length - (if p a then 1 else 0) + (if p b then 1 else 0)
  | [], i, a, b, h => by simp at h
  | x :: l, 0, a, b, h => by
    simp at h; subst h
    simp only [List.set_cons_zero, List.filter_cons]
    cases p x <;> cases p b <;> simp <;> omega
  | x :: l, i + 1, a, b, h => by
    have := filter_set p l i a b (by simpa using h)
    simp only [List.set_cons_succ, List.filter_cons]
    cases p x <;> simp only [if_true, if_false, List.length_cons, Bool.false_eq_true] <;> omega
/-- How many are open. -/
def cnt (tab : Tab) : Nat := (tab.filter Option.isSome).length
theorem cnt_le (tab : Tab) : cnt tab ≤ tab.length := List.length_filter_le _ _
theorem cnt_full (tab : Tab) : cnt tab = tab.length ↔ none ∉ tab := by
  induction tab with
  | nil => simp [cnt]
  | cons a l ih =>
    have hle := cnt_le l
    unfold cnt at *
    cases a with
    | none => simp only [List.filter_cons, Option.isSome_none, Bool.false_eq_true, if_false, List.length_cons]; constructor
              · intro h; omega
              · intro h; simp at h
    | some d =>
      simp only [List.filter_cons, Option.isSome_some, if_true, List.length_cons]
      constructor
      · intro h hm
        rcases List.mem_cons.1 hm with e | e
        · cases e
        · exact ih.1 (by omega) e
      · intro h
        have := ih.2 (fun e => h (List.mem_cons_of_mem _ e))
        omega
theorem opens_cnt (tab : Tab) (h : tab.length = 32) : (opens tab).length = cnt tab := by
  have gen : ∀ (l : Tab) (k : Nat), ((List.range l.length).filter fun i => (l[i]?).join.isSome).length = (l.filter Option.isSome).length := by
    intro l _
    induction l with
    | nil => rfl
    | cons a l ih =>
      rw [List.length_cons, List.range_succ_eq_map, List.filter_cons, List.filter_map, List.filter_cons]
      have e : ((fun i => ((a :: l)[i]?).join.isSome) ∘ Nat.succ) = fun i => (l[i]?).join.isSome := by funext i; simp
      rw [e]
      cases a with
      | none => simp [ih]
      | some d => simp [ih]
  unfold opens cnt
  rw [← h]; exact gen tab 0
end Go.Shade
