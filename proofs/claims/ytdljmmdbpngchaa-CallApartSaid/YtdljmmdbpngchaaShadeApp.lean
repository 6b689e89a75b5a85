/- SHADE, part 10: append. -/
import Derived.Test.YtdljmmdbpngchaaShadeEff
namespace Go.Shade
open Go.RowKit
set_option linter.unusedSimpArgs false
set_option linter.unusedVariables false

theorem growBy_le (n : Nat) : ∀ (k c : Nat), 256 ≤ c → c < n → Builtin.growBy n k c ≤ 2 * n
  | 0, c, _, h => by simp only [Builtin.growBy]; omega
  | k + 1, c, h0, h => by
    simp only [Builtin.growBy]
    rw [if_neg (by omega)]
    by_cases h1 : c + (c + 768) / 4 < n
    · exact growBy_le n k _ (by omega) h1
    · have : Builtin.growBy n k (c + (c + 768) / 4) = c + (c + 768) / 4 := by
        cases k with
        | zero => rfl
        | succ k => simp only [Builtin.growBy]; rw [if_pos (by omega)]
      rw [this]; omega
theorem nextcap_le {n c : Nat} (h : c < n) : Builtin.nextslicecap n c ≤ 2 * n := by
  unfold Builtin.nextslicecap
  split
  · omega
  · split
    · omega
    · exact growBy_le n 4 c (by omega) h

def xlen : IV → Option Nat
  | .str s => some s.length
  | .nilSlice => some 0
  | .slice _ _ n _ _ _ => some n
  | _ => none
def xcells (P : Program) (H : Heap) (e : TypeId) (x : IV) (n : Nat) : Option (List IV) :=
  match x with
  | .str s => some ((s.take n).map fun b => .int .u8 b.toNat)
  | x => isl P H e x n
theorem run_xlen {P : Program} {m : Mp} {x : IV} {v : Value} {n : Nat} (hx : VR m x v) (h : xlen x = some n) (w : World) : (Builtin.lenOf v).run P w = .ok n w := by
  unfold xlen at h
  split at h
  · cases h; simp only [VR] at hx; subst hx; simp [Builtin.lenOf, size_mk]
  · cases h; simp only [VR] at hx; subst hx; rfl
  · cases h; simp only [VR] at hx; obtain ⟨l, o1, c, sp, _, rfl, _⟩ := hx; rfl
  · cases h
theorem run_xcells {P : Program} {B0 : Nat} {w0 w : World} {m : Mp} {H : Heap} (hR : Rel B0 w0 m H w) {e : TypeId} {x : IV} {n s : Nat} {cs : List IV} {v : Value} (hs : szOf P e = some s) (hx : VR m x v) (h : xcells P H e x n = some cs) :
    ∃ us : List Value, VRs m cs us ∧ (Builtin.firstCells s n v).run P w = .ok us.toArray w := by
  unfold xcells at h
  split at h
  · rename_i l
    cases h; simp only [VR] at hx; subst hx
    refine ⟨(l.take n).map fun b => .int .u8 b.toNat, ?_, ?_⟩
    · rw [VRs_iff]
      refine ⟨by simp, fun j y hj => ?_⟩
      rw [List.getElem?_map] at hj ⊢
      cases hb : (List.take n l)[j]? with
      | none => simp [hb] at hj
      | some b => simp [hb] at hj; subst hj; exact ⟨_, by simp, VR_int m _ _⟩
    · simp only [Builtin.firstCells, extract_mk, Sem.run_pure]
      simp
  · exact run_isl hR h hx hs

theorem VRs_all_cells {P : Program} {B0 : Nat} {w0 w : World} {m : Mp} {H : Heap} (hR : Rel B0 w0 m H w) {e : TypeId} {x : IV} {n : Nat} {cs : List IV} (h : isl P H e x n = some cs) : cs.all IV.one = true := by
  unfold isl at h
  split at h
  · split at h
    · cases h; rfl
    · cases h
  · obtain ⟨s, hs, h⟩ := Option.bind_eq_some_iff.1 h
    split at h
    · split at h
      · cases h; rfl
      · unfold irow at h
        split at h
        · rename_i ds ro hb
          split at h
          · cases h
            rw [List.all_eq_true]
            intro y hy
            have hy := List.mem_of_mem_drop (List.mem_of_mem_take hy)
            obtain ⟨j, hj⟩ := List.mem_iff_getElem?.1 hy
            obtain ⟨l, _, hc⟩ := hR.row hb
            exact (hc j y hj).1
          · cases h
        · cases h
    · cases h
  · cases h

/-- A row dies: nobody may read or write it any more. -/
theorem Rel.kill {B0 : Nat} {w0 w : World} {m : Mp} {H : Heap} (h : Rel B0 w0 m H w) (b : Nat) : Rel B0 w0 m (H.set b .dead) w := by
  have key : ∀ {i : Nat} {o : IObj}, (H.set b IObj.dead)[i]? = some o → o ≠ .dead → H[i]? = some o := by
    intro i o hi ho
    rw [List.getElem?_set] at hi
    split at hi
    · split at hi
      · cases hi; exact absurd rfl ho
      · cases hi
    · exact hi
  refine ⟨h.below, h.base, fun i l hi => by simpa using h.dom i l hi, fun i o hi => ?_, fun i j o p l k hi hj ho hp hne hl hk => ?_⟩
  · by_cases hd : o = .dead
    · subst hd; trivial
    · exact h.good i o (key hi hd)
  · have h1 : o ≠ .dead := fun e => by subst e; simp [IObj.held] at ho
    have h2 : p ≠ .dead := fun e => by subst e; simp [IObj.held] at hp
    exact h.inj i j o p l k (key hi h1) (key hj h2) ho hp hne hl hk

theorem run_load_drawn {P : Program} {w : World} (a : Addr) (d : Nat) {v : Value} (h : (load a).run P w = .ok v w) : (load a).run P { w with drawn := d } = .ok v { w with drawn := d } := by
  simp only [load, Sem.run] at h ⊢
  have e1 : ({ w with drawn := d } : World).cell? a = w.cell? a := rfl
  have e2 : ({ w with drawn := d } : World).farLoad P a (Mode.plain == Mode.atomic) = w.farLoad P a (Mode.plain == Mode.atomic) := rfl
  rw [e1, e2]
  split at h
  · cases h; rfl
  · split at h
    · cases h; rfl
    · cases h
theorem run_loads_drawn {P : Program} {w : World} (a : Addr) (d : Nat) : ∀ (n i : Nat) (acc us : Array Value), (loadCellsFrom a i n acc).run P w = .ok us w → (loadCellsFrom a i n acc).run P { w with drawn := d } = .ok us { w with drawn := d }
  | 0, i, acc, us, h => by simp only [loadCellsFrom, Sem.run_pure] at h ⊢; cases h; rfl
  | n + 1, i, acc, us, h => by
    simp only [loadCellsFrom, Sem.run_bind] at h ⊢
    cases hl : (load (a.add i)).run P w with
    | ok v w' =>
      have hw : w' = w := by
        simp only [load, Sem.run] at hl
        split at hl
        · cases hl; rfl
        · split at hl
          · cases hl; rfl
          · cases hl
      subst hw
      rw [hl] at h
      rw [run_load_drawn _ d hl]
      exact run_loads_drawn a d n (i + 1) _ us h
    | halt x w' => rw [hl] at h; cases h
theorem run_first_drawn {P : Program} {w : World} {s n : Nat} {v : Value} {us : Array Value} (h : (Builtin.firstCells s n v).run P w = .ok us w) (d : Nat) : (Builtin.firstCells s n v).run P { w with drawn := d } = .ok us { w with drawn := d } := by
  unfold Builtin.firstCells at h ⊢
  split at h
  · exact run_loads_drawn _ d _ _ _ _ h
  · cases h; rfl
  · cases h; rfl
  · cases h

/-- An append in place, on a slice of whose capacity nothing is known: the elder row dies, the new one lies in the same block. -/
theorem Rel.onward {B0 : Nat} {w0 w : World} {m : Mp} {H : Heap} (h : Rel B0 w0 m H w) {b : Nat} {cs : List IV} (hb : H[b]? = some (.row cs false)) {l : Loc} (hl : m b = some l) {o1 : Nat} {old new : List IV} {nus : List Value}
    (hold : ∀ (j : Nat) v, old[j]? = some v → v.one = true ∧ ∃ u, w.cell? ⟨l.cb, o1 + j, none⟩ = some u ∧ VR m v u) (hn : VRs m new nus) (h1 : new.all IV.one = true) (hfit : o1 + old.length + new.length ≤ l.cs) :
    (∀ P : Program, (storeCells ⟨l.cb, o1 + old.length, none⟩ nus).run P w = .ok () (w.setCells l.cb (o1 + old.length) nus)) ∧
    Rel B0 w0 (grow m H.length ⟨l.cb, o1, l.cs⟩) (H.set b .dead ++ [.row (old ++ new) false]) (w.setCells l.cb (o1 + old.length) nus) := by
  have hg := h.good b _ hb
  obtain ⟨l', C, e, fr, g1, g2, g3, g4, g5, g6, g7⟩ := hg
  rw [hl] at g1; cases g1
  have hlen := hn.length
  have hone : ∀ v ∈ nus, v.oneCell' = true := by
    intro v hv
    obtain ⟨j, hj⟩ := List.mem_iff_getElem?.1 hv
    have hjl : j < new.length := by rw [hlen]; exact (List.getElem?_eq_some_iff.1 hj).1
    obtain ⟨u, hu, hr⟩ := hn.get (List.getElem?_eq_getElem hjl)
    rw [hj] at hu; cases hu
    rw [vone_one]; exact hr.one (List.all_eq_true.1 h1 _ (List.getElem_mem hjl))
  refine ⟨fun P => ?_, ?_⟩
  · have := run_storeCells_cells (P := P) l.cb (o1 + old.length) nus 0 w (fun j hj => by
      rw [cell_of g2, Array.getElem?_eq_getElem (by omega)]; rfl) (fun j hj => by
      rw [frozen_of g2]; exact decide_eq_false (g6 _ (by omega))) hone
    simpa using this
  · obtain ⟨s1, s2, s3, s4, s5⟩ := setCells_same l.cb nus (o1 + old.length) w
    obtain ⟨C', c1, c2, c3⟩ := setCells_block nus (o1 + old.length) w C g2 (by omega)
    have hbl : b < H.length := (List.getElem?_eq_some_iff.1 hb).1
    have hext := grow_ext h ⟨l.cb, o1, l.cs⟩
    have elder : ∀ {i : Nat} {p : IObj}, i ≠ H.length → (H.set b IObj.dead ++ [.row (old ++ new) false])[i]? = some p → p ≠ .dead → H[i]? = some p ∧ i ≠ b := by
      intro i p hne hi hd
      rw [List.getElem?_append, List.length_set] at hi
      split at hi
      · rw [List.getElem?_set] at hi
        split at hi
        · first
            | (cases hi; exact absurd rfl hd)
            | (split at hi
               · cases hi; exact absurd rfl hd
               · cases hi)
        · rename_i hib; exact ⟨hi, Ne.symm hib⟩
      · rw [List.getElem?_eq_none (by simp; omega)] at hi; cases hi
    have far : ∀ {i : Nat} {p : IObj} {li : Loc}, H[i]? = some p → i ≠ b → p.held = true → m i = some li → li.cb ≠ l.cb := by
      intro i p li hi hib hp hli
      exact h.inj i b p _ li l hi hb hp rfl hib hli hl
    refine ⟨⟨s1.trans h.below.os, s2.trans h.below.tape, s3.trans h.below.output, by rw [s4]; exact h.below.size, fun k hk => ?_⟩, by rw [s4]; exact h.base, fun k q hq => ?_, fun k q hk => ?_, fun a c p q la lb ha hc hp hq hne hma hmc => ?_⟩
    · rw [setCells_far _ _ _ _ (by omega)]; exact h.below.block k hk
    · simp only [grow] at hq
      split at hq
      · simp; omega
      · have := h.dom k q hq; simp; omega
    · by_cases hd : q = .dead
      · subst hd; trivial
      · by_cases ek : k = H.length
        · subst ek
          rw [List.getElem?_append, List.length_set, if_neg (by omega), Nat.sub_self] at hk
          simp at hk; subst hk
          refine ⟨⟨l.cb, o1, l.cs⟩, C', e, fr, grow_at _ _ _, c1, c2.trans g3, by simp; omega, g5, g6, fun j v hj => ?_⟩
          rw [c3]
          rw [List.getElem?_append] at hj
          by_cases e3 : j < old.length
          · rw [if_pos e3] at hj
            obtain ⟨q1, u, q2, q3⟩ := hold j v hj
            rw [cell_of g2] at q2
            refine ⟨q1, u, ?_, q3.ext hext⟩
            rw [if_neg (by simp only; omega)]; exact q2
          · rw [if_neg e3] at hj
            obtain ⟨u, hu, hr⟩ := hn.get hj
            have hjl := (List.getElem?_eq_some_iff.1 hj).1
            refine ⟨List.all_eq_true.1 h1 _ (List.mem_of_getElem? hj), u, ?_, hr.ext hext⟩
            rw [if_pos (by simp only; omega)]
            rw [show o1 + j - (o1 + old.length) = j - old.length by omega]; exact hu
        · obtain ⟨hk', hkb⟩ := elder ek hk hd
          have hgk := h.good k q hk'
          by_cases hp : q.held = true
          · exact hgk.move hext (fun lk hlk _ => setCells_far _ _ _ _ (far hk' hkb hp hlk))
          · cases q with
            | dead => exact absurd rfl hd
            | map es c => simp [IObj.held] at hp
            | row cs' ro =>
              cases ro with
              | false => simp [IObj.held] at hp
              | true => exact hgk.ro_move hext (fun lk hlk hlt _ => setCells_far _ _ _ _ (by omega))
    · have hpd : p ≠ .dead := fun e => by subst e; simp [IObj.held] at hp
      have hqd : q ≠ .dead := fun e => by subst e; simp [IObj.held] at hq
      by_cases ea : a = H.length
      · subst ea
        obtain ⟨hc', hcb⟩ := elder (Ne.symm hne) hc hqd
        simp only [grow, if_true] at hma; cases hma
        simp only [grow, if_neg (Ne.symm hne)] at hmc
        exact (far hc' hcb hq hmc).symm
      · obtain ⟨ha', hab⟩ := elder ea ha hpd
        simp only [grow, if_neg ea] at hma
        by_cases ec : c = H.length
        · subst ec
          simp only [grow, if_true] at hmc; cases hmc
          exact far ha' hab hp hma
        · obtain ⟨hc', hcb⟩ := elder ec hc hqd
          simp only [grow, if_neg ec] at hmc
          exact h.inj a c p q la lb ha' hc' hp hq hne hma hmc

def ifresh (P : Program) (e : TypeId) (sz by_ : Nat) (H : Heap) (old new : List IV) (k : Nat) : Option (INext × Heap) :=
  (zeroOf P e).bind fun z => if isTuple z = false ∧ z.cells.length = sz ∧ k * by_ ≤ 140737488355328 ∧ (old ++ new).length = k * sz then
    some (.val (.slice H.length 0 k k false sz), H ++ [.row (old ++ new) false]) else none
def iappend (P : Program) (H : Heap) (t xT : TypeId) (s x : IV) : Option (INext × Heap) :=
  match P.underlying t, P.underlying xT with
  | some (.slice _), some (.int _) => none
  | some (.slice e), some _ =>
    (szOf P e).bind fun sz => (byOf P e).bind fun by_ => (xlen x).bind fun n =>
    if n = 0 then (match s with
      | .nilSlice => some (.val .nilSlice, H)
      | .slice b o len lb ex sz' => some (.val (.slice b o len lb ex sz'), H)
      | _ => none)
    else (xcells P H e x n).bind fun new =>
      if new.length = n * sz ∧ new.all IV.one = true ∧ 0 < sz ∧ 0 < by_ then
        match s with
        | .nilSlice => ifresh P e sz by_ H [] new n
        | .slice b o len lb ex sz' =>
          if len + n ≤ lb then
            match H[b]? with
            | some (.row cs false) => if o + len * sz + new.length ≤ cs.length then some (.val (.slice b o (len + n) lb ex sz'), H.set b (.row (putAt cs (o + len * sz) new) false)) else none
            | _ => none
          else (isl P H e (.slice b o len lb ex sz') len).bind fun old =>
            if ex = true then ifresh P e sz by_ H old new (len + n)
            else match H[b]? with
              | some (.row _ false) => if sz' = sz then ifresh P e sz by_ (H.set b .dead) old new (len + n) else none
              | _ => none
        | _ => none
      else none
  | _, _ => none

/-- A new array is made: whatever capacity is drawn. -/
theorem run_fresh {P : Program} {B0 : Nat} {w0 w : World} {m : Mp} {H : Heap} (h : Rel B0 w0 m H w) {t xT ty e : TypeId} {sz by_ n len c : Nat} {base : Option Addr} {v : Value} {old new : List IV} {ous nus : List Value} {k : Nat} {r : INext × Heap} {ux : TypeDesc}
    (hund : P.underlying t = some (.slice e)) (hux : P.underlying xT = some ux) (hni : ∀ q, ux ≠ .int q) (hsz : szOf P e = some sz) (hby : byOf P e = some by_) (hb0 : 0 < by_) (hlen : (Builtin.lenOf v).run P w = .ok n w)
    (hold : (Builtin.firstCells sz len (.slice base len c)).run P w = .ok ous.toArray w) (ho : VRs m old ous) (hnew : (Builtin.firstCells sz n v).run P w = .ok nus.toArray w) (hn : VRs m new nus)
    (h1o : old.all IV.one = true) (h1n : new.all IV.one = true) (hk : k = len + n) (hc : c < k) (he : ifresh P e sz by_ H old new k = some r) :
    OkTo P B0 w0 m w (do pure (.value (← Builtin.append_ #[t, xT] ty #[.slice base len c, v]))) r := by
  subst hk
  unfold ifresh at he
  obtain ⟨z, hz, he⟩ := Option.bind_eq_some_iff.1 he
  split at he
  · rename_i hcond
    cases he
    obtain ⟨c1, c2, c3, c4⟩ := hcond
    obtain ⟨u, hu, hr⟩ := run_zero hz w m
    obtain ⟨i, hi⟩ : ∃ i, P.info? e = some i := by
      unfold byOf at hby; cases hx : P.info? e with
      | none => simp [hx] at hby
      | some i => exact ⟨i, rfl⟩
    have hib : i.bytes = by_ := by unfold byOf at hby; simpa [hi] using hby
    have hrc := hr.cells (fun l e => by subst e; simp [isTuple] at c1)
    have hul : u.cells.size = sz := by rw [← c2, hrc.length]; simp
    -- the capacity that is drawn
    let q := Question.appendCap (len + n) c e
    let cap := q.cut (w.tape w.drawn q)
    have hcap : len + n ≤ cap := Nat.le_add_right _ _
    let w1 : World := { w with drawn := w.drawn + 1 }
    have hR1 : Rel B0 w0 m H w1 := h.drew _
    let C : Array Value := ous.toArray ++ nus.toArray ++ Builtin.zeroCells u.cells (cap - (len + n))
    have hzero1 : (zeroValue e).run P w1 = .ok u w1 := by
      have h0 := hz
      unfold zeroOf at h0
      obtain ⟨zv, g1, g2⟩ := Option.bind_eq_some_iff.1 h0
      obtain ⟨i', g3, g4⟩ := Option.bind_eq_some_iff.1 g1
      have e4 : ∀ w, (zeroValue e).run P w = .ok zv w := fun w => by simp [zeroValue, run_info g3, g4]
      have e5 := (e4 _).symm.trans hu
      cases e5
      exact e4 _
    have hCs : C.size = old.length + new.length + (cap - (len + n)) * sz := by
      simp [C, Builtin.zeroCells, hul, ho.length, hn.length]
      omega
    have holdnew : VRs m (old ++ new) (ous ++ nus) := ho.append hn
    have hrel := hR1.newRow (old ++ new) C e (0, 0) (by rw [hCs]; simp) (by simp) (fun j x hj => by
      have h1 : (old ++ new).all IV.one = true := by rw [List.all_append, h1o, h1n]; rfl
      obtain ⟨y, hy, hxy⟩ := holdnew.get hj
      refine ⟨List.all_eq_true.1 h1 _ (List.mem_of_getElem? hj), y, ?_, hxy⟩
      have hlt := (List.getElem?_eq_some_iff.1 hy).1
      simp only [C]
      rw [Array.getElem?_append, if_pos (by simpa using hlt)]
      simpa using hy)
    refine ⟨_, _, .slice (some ⟨w.heap.size, 0, none⟩) (len + n) cap, ?_, grow_ext h _, hrel, ?_⟩
    · have hrun : (Builtin.append_ #[t, xT] ty #[.slice base len c, v]).run P w = .ok (.slice (some ⟨w.heap.size, 0, none⟩) (len + n) cap) (w1.alloc (.cells C e (0, 0))) := by
        have hmatch : (match ux with | .int _ => true | _ => false) = false := by
          cases ux <;> first | rfl | exact absurd rfl (hni _)
        have hold1 := run_first_drawn hold (w.drawn + 1)
        have hnew1 := run_first_drawn hnew (w.drawn + 1)
        have hnc := nextcap_le hc
        have hmul : Builtin.nextslicecap (len + n) c * by_ ≤ 2 * (len + n) * by_ := Nat.mul_le_mul_right _ hnc
        have h247 : 2 * (len + n) * by_ ≤ 281474976710656 := by rw [Nat.mul_assoc]; omega
        simp only [Builtin.append_]
        simp only [List.getElem?_toArray, List.getElem?_cons_zero, List.getElem?_cons_succ, Sem.run_bind, run_underlying hund, Result.andThen_ok, run_size hsz, run_underlying hux, Sem.run_pure]
        simp only [hmatch, Bool.false_eq_true, if_false, Bool.not_false, if_true]
        rw [Sem.run_bind, hlen, Result.andThen_ok, if_neg (by omega), Sem.run_bind, run_info hi, Result.andThen_ok, hib]
        have hno : ¬ (((len + n : Nat) : Int) > IntKind.i64.max ∧ (False ∨ by_ = 0)) := by
          rintro ⟨_, h | h⟩
          · cases h
          · omega
        rw [if_neg hno]
        rw [Sem.run_bind, run_info hi, Result.andThen_ok, hib, if_neg (by omega)]
        rw [Sem.run_bind, run_choose]
        have hforced : (Question.appendCap (len + n) c e).forced = false := rfl
        rw [hforced]
        simp only [Bool.false_eq_true, if_false, Result.andThen_ok, Sem.run_bind]
        have e1 : (typeInfo e).run P w1 = .ok i w1 := run_info hi w1
        have e2 : ({ w with drawn := w.drawn + 1 } : World) = w1 := rfl
        rw [e2, e1]
        simp only [Result.andThen_ok, run_askRoom]
        have hold2 : (Builtin.firstCells sz len (.slice base len c)).run P w1 = .ok ous.toArray w1 := hold1
        have hnew2 : (Builtin.firstCells sz n v).run P w1 = .ok nus.toArray w1 := hnew1
        simp only [hold2, hnew2, hzero1, Result.andThen_ok]
        rfl
      simp [hrun]
    · simp only [VR]
      refine ⟨_, 0, cap, none, grow_at _ _ _, rfl, Nat.le_refl _, hcap, (fun h => by cases h), fun _ => ⟨rfl, rfl⟩, fun _ => ⟨?_, rfl⟩⟩
      simp only [hCs]
      have e1 : (len + n) * sz + (cap - (len + n)) * sz = cap * sz := by rw [← Nat.add_mul]; congr 1; omega
      simp only [List.length_append] at c4
      omega
  · cases he

theorem xcells_nil {P : Program} {H : Heap} {m : Mp} {x : IV} {v : Value} (hx : VR m x v) (h : xlen x = some 0) (s : Nat) (w : World) : (Builtin.firstCells s 0 v).run P w = .ok #[] w := by
  unfold xlen at h
  split at h
  · cases h' : (‹List UInt8›) with
    | nil => subst h'; simp only [VR] at hx; subst hx; simp [Builtin.firstCells]
    | cons a l => subst h'; simp at h
  · simp only [VR] at hx; subst hx; rfl
  · cases h; simp only [VR] at hx; obtain ⟨l, o1, c, sp, _, rfl, _⟩ := hx; simp [Builtin.firstCells, loadCells, loadCellsFrom]
  · cases h

/-- The prologue of append. -/
theorem run_append_pre {P : Program} {t xT ty e : TypeId} {sz n len c : Nat} {base : Option Addr} {v : Value} {ux : TypeDesc} {w : World} {nus : Array Value}
    (hund : P.underlying t = some (.slice e)) (hux : P.underlying xT = some ux) (hni : ∀ q, ux ≠ .int q) (hsz : szOf P e = some sz) (hlen : (Builtin.lenOf v).run P w = .ok n w)
    (hnew : (Builtin.firstCells sz n v).run P w = .ok nus w) (hc : len + n ≤ c) :
    (Builtin.append_ #[t, xT] ty #[.slice base len c, v]).run P w = ((match base with | some a => storeCells (a.add (len * sz)) nus.toList | none => pure () : Sem Unit).run P w).andThen fun _ w' => .ok (.slice base (len + n) c) w' := by
  have hmatch : (match ux with | .int _ => true | _ => false) = false := by
    cases ux <;> first | rfl | exact absurd rfl (hni _)
  simp only [Builtin.append_]
  simp only [List.getElem?_toArray, List.getElem?_cons_zero, List.getElem?_cons_succ, Sem.run_bind, run_underlying hund, Result.andThen_ok, run_size hsz, run_underlying hux, Sem.run_pure]
  simp only [hmatch, Bool.false_eq_true, if_false, Bool.not_false, if_true]
  rw [Sem.run_bind, hlen, Result.andThen_ok, if_pos hc, Sem.run_bind, hnew, Result.andThen_ok]
  cases base with
  | none => rfl
  | some a => rw [Sem.run_bind]; rfl

theorem run_iappend {P : Program} {B0 : Nat} {w0 w : World} {m : Mp} {H : Heap} (h : Rel B0 w0 m H w) {t xT ty : TypeId} {s x : IV} {vs vx : Value} (hs : VR m s vs) (hx : VR m x vx) {r : INext × Heap}
    (e : iappend P H t xT s x = some r) : OkTo P B0 w0 m w (do pure (.value (← Builtin.append_ #[t, xT] ty #[vs, vx]))) r := by
  unfold iappend at e
  split at e
  · cases e
  · rename_i et ux hni hund hux
    have hni' : ∀ q, ux ≠ .int q := fun q hq => hni q hq
    replace e := Option.bind_eq_some_iff.1 e
    obtain ⟨sz, hsz, e⟩ := e
    replace e := Option.bind_eq_some_iff.1 e
    obtain ⟨by_, hby, e⟩ := e
    replace e := Option.bind_eq_some_iff.1 e
    obtain ⟨n, hn, e⟩ := e
    have hlen := run_xlen (P := P) hx hn w
    split at e
    · -- nothing is appended
      rename_i hn0
      subst hn0
      have hnew := xcells_nil (P := P) (H := H) hx hn sz w
      split at e
      · cases e
        simp only [VR] at hs; subst hs
        refine ⟨m, w, .slice none 0 0, ?_, Ext.refl m, h, by simp only [VR]⟩
        rw [vv]
        rw [run_append_pre hund hux hni' hsz hlen hnew (Nat.le_refl _)]; rfl
      · cases e
        have hs' := hs
        simp only [VR] at hs
        obtain ⟨l, o1, c, sp, hl, rfl, h1, h2, _⟩ := hs
        refine ⟨m, w, _, ?_, Ext.refl m, h, hs'⟩
        rw [vv]
        rw [run_append_pre hund hux hni' hsz hlen hnew (by omega)]
        simp [storeCells]
      · cases e
    · rename_i hn0
      replace e := Option.bind_eq_some_iff.1 e
      obtain ⟨new, hnew, e⟩ := e
      obtain ⟨nus, hnV, hnrun⟩ := run_xcells (P := P) h hsz hx hnew
      split at e
      · rename_i hcond
        obtain ⟨c1, c2, c3, c4⟩ := hcond
        split at e
        · -- onto nil
          simp only [VR] at hs; subst hs
          exact run_fresh (ty := ty) (base := none) (len := 0) (c := 0) (ous := []) h hund hux hni' hsz hby c4 hlen (by simp [Builtin.firstCells]) (VRs.nil m) hnrun hnV rfl c2 (by omega) (by omega) e
        · rename_i b o len lb ex sz'
          have hs' := hs
          simp only [VR] at hs
          obtain ⟨l, o1, c, sp, hl, rfl, h1, h2, h3, h4, h5⟩ := hs
          split at e
          · -- there is room for certain
            rename_i hroom
            split at e
            · rename_i cs hb
              split at e
              · rename_i hfit
                cases e
                obtain ⟨ho1, hsp⟩ := h4 (by omega)
                subst ho1; subst hsp
                obtain ⟨g1, g2⟩ := h.put hb hl hnV c2 hfit
                refine ⟨m, _, .slice (some ⟨l.cb, l.co + o, none⟩) (len + n) c, ?_, Ext.refl m, g2, ?_⟩
                · rw [vv]
                  rw [run_append_pre hund hux hni' hsz hlen hnrun (by omega)]
                  simp only [add_none]
                  have := g1 P
                  rw [← Nat.add_assoc] at this
                  simp only [List.toList_toArray, this, Result.andThen_ok]
                  rw [Nat.add_assoc]
                · simp only [VR]
                  exact ⟨l, l.co + o, c, none, hl, rfl, hroom, h2, h3, fun _ => ⟨rfl, rfl⟩, h5⟩
              · cases e
            · cases e
          · rename_i hroom
            replace e := Option.bind_eq_some_iff.1 e
            obtain ⟨old, hold, e⟩ := e
            obtain ⟨ous, hoV, horun⟩ := run_isl (P := P) h hold hs' hsz
            have hoall := VRs_all_cells h hold
            split at e
            · -- there is none for certain
              rename_i hex
              have hcl := h3 hex
              exact run_fresh (ty := ty) h hund hux hni' hsz hby c4 hlen horun hoV hnrun hnV hoall c2 rfl (by omega) e
            · split at e
              · rename_i cs hb
                split at e
                · rename_i hss
                  subst hss
                  by_cases hc : len + n ≤ c
                  · -- in place
                    unfold ifresh at e
                    replace e := Option.bind_eq_some_iff.1 e
                    obtain ⟨z, hz, e⟩ := e
                    split at e
                    · rename_i hfr
                      cases e
                      obtain ⟨_, _, _, f4⟩ := hfr
                      have hol : old.length = len * sz' := by
                        simp only [List.length_append, Nat.add_mul] at f4; omega
                      have hcells : ∀ (j : Nat) v, old[j]? = some v → v.one = true ∧ ∃ u, w.cell? ⟨l.cb, o1 + j, none⟩ = some u ∧ VR m v u := by
                        intro j v hj
                        have hjl := (List.getElem?_eq_some_iff.1 hj).1
                        have hlen0 : 0 < len := by
                          rcases Nat.eq_zero_or_pos len with h0 | h0
                          · rw [h0, Nat.zero_mul] at hol; omega
                          · exact h0
                        obtain ⟨ho1, hsp⟩ := h4 (by omega)
                        refine ⟨List.all_eq_true.1 hoall _ (List.mem_of_getElem? hj), ?_⟩
                        unfold isl at hold
                        simp only [hsz, Option.bind_some] at hold
                        rw [if_pos (Nat.le_refl _), if_neg (by omega)] at hold
                        unfold irow at hold
                        rw [hb] at hold
                        simp only at hold
                        split at hold
                        · cases hold
                          rw [List.getElem?_take] at hj
                          split at hj
                          · rw [List.getElem?_drop] at hj
                            obtain ⟨l2, hl2, hc2⟩ := h.row hb
                            rw [hl] at hl2; cases hl2
                            obtain ⟨_, u, hu, hr⟩ := hc2 _ v hj
                            refine ⟨u, ?_, hr⟩
                            rw [ho1, Nat.add_assoc]; exact hu
                          · cases hj
                        · cases hold
                      have hsum : (len + n) * sz' ≤ c * sz' := Nat.mul_le_mul_right _ hc
                      obtain ⟨hcs, hsp⟩ := h5 c3
                      subst hsp
                      obtain ⟨g1, g2⟩ := h.onward hb hl (o1 := o1) (old := old) hcells hnV c2 (by simp only [List.length_append] at f4; omega)
                      refine ⟨_, _, .slice (some ⟨l.cb, o1, none⟩) (len + n) c, ?_, grow_ext h _, by simpa using g2, ?_⟩
                      · rw [vv]
                        rw [run_append_pre hund hux hni' hsz hlen hnrun hc]
                        simp only [add_none, List.toList_toArray]
                        rw [← hol, g1 P]; rfl
                      · simp only [VR, List.length_set]
                        exact ⟨_, o1, c, none, grow_at _ _ _, rfl, Nat.le_refl _, hc, (fun h => by cases h), fun _ => ⟨rfl, rfl⟩, fun _ => ⟨hcs, rfl⟩⟩
                    · cases e
                  · exact run_fresh (ty := ty) (h.kill b) hund hux hni' hsz hby c4 hlen horun hoV hnrun hnV hoall c2 rfl (by omega) e
                · cases e
              · cases e
        · cases e
      · cases e
  · cases e
end Go.Shade
