/- SHADE, part 4: the binary operations. -/
import Derived.Test.YtdljmmdbpngchaaShadeOps
import Derived.Laws.StructEq
namespace Go.Shade
open Go.RowKit
set_option linter.unusedSimpArgs false

theorem guard_plain {P : Program} {op : BinOp} {t : TypeId} {X Y : Operand} {a b : Value} (w : World) (h1 : a ≠ .nilIface ∨ b ≠ .nilIface) (h2 : (∀ l, a ≠ .agg l) ∨ (∀ l, b ≠ .agg l)) :
    (eqGuard op t X Y a b).run P w = .ok () w := by
  unfold eqGuard
  repeat' split
  all_goals first
    | rfl
    | (exfalso; rcases h1 with h | h <;> exact h rfl)
    | (exfalso; rcases h2 with h | h <;> exact h _ rfl)

theorem run_arith {P : Program} {op : BinOp} {k : IntKind} {a b : Int} {r : IV} (h : iarith op k a b = some r) (t : TypeId) (w : World) (m : Mp) :
    ∃ u, (binOp op t (.int k a) (.int k b)).run P w = .ok u w ∧ VR m r u := by
  cases op <;> simp only [iarith] at h
  case quo =>
    split at h
    · cases h
    · rename_i hb; cases h; exact ⟨_, by simp [binOp, Op.intDiv, hb], VR_int m _ _⟩
  case rem =>
    split at h
    · cases h
    · rename_i hb; cases h; exact ⟨_, by simp [binOp, Op.intDiv, hb], VR_int m _ _⟩
  case shl => cases h
  case shr => cases h
  all_goals cases h
  all_goals first
    | (refine ⟨_, ?_, VR_int m _ _⟩; simp only [binOp, ne_eq, not_true, if_false, Op.intArith, Op.intBits]; rfl)
    | (refine ⟨_, ?_, VR_bool m _⟩; simp [binOp, Op.intCmp]; done)
theorem run_shift {P : Program} {op : BinOp} {k k' : IntKind} {a b : Int} {r : IV} (hop : op = .shl ∨ op = .shr) (h : ishift op k a b = some r) (t : TypeId) (w : World) (m : Mp) :
    ∃ u, (binOp op t (.int k a) (.int k' b)).run P w = .ok u w ∧ VR m r u := by
  unfold ishift at h
  split at h
  · cases h
  · rename_i hb
    rcases hop with rfl | rfl
    · simp only at h; cases h; exact ⟨_, by simp [binOp, Op.shift, hb], VR_int m _ _⟩
    · simp only at h; cases h; exact ⟨_, by simp [binOp, Op.shift, hb], VR_int m _ _⟩
theorem run_str {P : Program} {op : BinOp} {a b : List UInt8} {r : IV} (h : istr op a b = some r) (t : TypeId) (w : World) (m : Mp) :
    ∃ u, (binOp op t (.string ⟨a.toArray⟩) (.string ⟨b.toArray⟩)).run P w = .ok u w ∧ VR m r u := by
  have hmax : IntKind.i64.max = 9223372036854775807 := rfl
  cases op <;> simp only [istr] at h
  case add =>
    split at h
    · rename_i hs
      cases h
      refine ⟨_, ?_, VR_str m _⟩
      simp only [binOp, Op.stringOp, size_mk, append_mk, hmax]
      rw [if_neg (by omega)]
      rfl
    · cases h
  all_goals cases h
  all_goals exact ⟨_, by simp [binOp, Op.stringOp, toList_mk], VR_bool m _⟩

theorem scalar_value {P : Program} {m : Mp} {t : TypeId} {x : IV} {v : Value} (hs : scalarT P t x = true) (hv : VR m x v) :
    (∃ k k' n, P.underlying t = some (.int k) ∧ x = .int k' n ∧ v = .int k' n) ∨ (∃ b, P.underlying t = some .bool ∧ x = .bool b ∧ v = .bool b) ∨ (∃ s, P.underlying t = some .string ∧ x = .str s ∧ v = .string ⟨s.toArray⟩) := by
  unfold scalarT at hs
  split at hs
  · rename_i h; simp only [VR] at hv; exact .inl ⟨_, _, _, h, rfl, hv⟩
  · rename_i h; simp only [VR] at hv; exact .inr (.inl ⟨_, h, rfl, hv⟩)
  · rename_i h; simp only [VR] at hv; exact .inr (.inr ⟨_, h, rfl, hv⟩)
  · exact absurd hs (by simp)
theorem mk_beq (a b : List UInt8) : ((⟨a.toArray⟩ : ByteArray) == ⟨b.toArray⟩) = (a == b) := by
  show (a.toArray == b.toArray) = (a == b)
  simp
theorem run_cellEq {P : Program} {m : Mp} {t : TypeId} {x y : IV} {u v : Value} {r : Bool} (hx : scalarT P t x = true) (hy : scalarT P t y = true) (hu : VR m x u) (hv : VR m y v) (h : cellEq x y = some r) (d : Nat) (w : World) :
    (Op.equalIn (d + 1) t u v).run P w = .ok r w := by
  rcases scalar_value hx hu with ⟨k, k1, n, h1, rfl, rfl⟩ | ⟨b, h1, rfl, rfl⟩ | ⟨s, h1, rfl, rfl⟩ <;>
  rcases scalar_value hy hv with ⟨k', k2, n', h2, rfl, rfl⟩ | ⟨b', h2, rfl, rfl⟩ | ⟨s', h2, rfl, rfl⟩ <;>
  (try (rw [h1] at h2; cases h2; done)) <;> simp only [cellEq] at h
  · split at h
    · rename_i e; cases h; subst e; simp [Op.equalIn, run_underlying h1]
    · exact absurd h (by simp)
  · cases h; simp [Op.equalIn, run_underlying h1]
  · cases h; simp [Op.equalIn, run_underlying h1, mk_beq]

theorem run_part {P : Program} {t : TypeId} {cs : Array Value} {off : Nat} {v : Value} (ha : isAggT P t = some false) (h : cs[off]? = some v) (w : World) : (part t cs off).run P w = .ok v w := by
  simp [part, run_isAgg ha, h]
theorem scalar_isAgg {P : Program} {t : TypeId} {x : IV} (hs : scalarT P t x = true) : isAggT P t = some false := by
  unfold scalarT at hs; unfold isAggT
  split at hs <;> simp_all

/-- The comparison of a struct's fields, one by one. -/
theorem run_eqFields {P : Program} {m : Mp} (d : Nat) (w : World) : ∀ (fs : List Field) {xs ys : List IV} {us vs : Array Value} {r : Bool}, VRs m xs us.toList → VRs m ys vs.toList → eqFields P fs xs ys = some r →
    (Op.eqFields (d + 1) us vs fs).run P w = .ok r w
  | [], xs, ys, us, vs, r, _, _, h => by
    simp only [eqFields] at h; cases h; rfl
  | f :: fs, xs, ys, us, vs, r, hx, hy, h => by
    simp only [eqFields] at h
    split at h
    · cases h
    · rename_i hn
      split at h
      · rename_i x y h1 h2
        split at h
        · rename_i hs
          simp only [Bool.and_eq_true] at hs
          obtain ⟨b, h3, h4⟩ := Option.bind_eq_some_iff.1 h
          obtain ⟨r', h5, h6⟩ := Option.bind_eq_some_iff.1 h4
          cases h6
          obtain ⟨u, hu, hru⟩ := hx.get h1
          obtain ⟨v, hv, hrv⟩ := hy.get h2
          have e1 := run_part (P := P) (scalar_isAgg hs.1) (cs := us) (off := f.offset) (v := u) (by simpa using hu) w
          have e2 := run_part (P := P) (scalar_isAgg hs.2) (cs := vs) (off := f.offset) (v := v) (by simpa using hv) w
          have e3 := run_cellEq (P := P) hs.1 hs.2 hru hrv h3 d w
          have ih := run_eqFields d w fs hx hy h5
          rw [Op.eqFields]
          simp only [ne_eq, hn, not_false_eq_true, if_true, Sem.run_bind, e1, e2, e3, Result.andThen_ok]
          cases b with
          | true => simpa using ih
          | false => simp
        · cases h
      · cases h

theorem run_structEq {P : Program} {m : Mp} (d : Nat) (w : World) {t : TypeId} {fs : Array Field} {xs ys : List IV} {a b : Array Value} {r : Bool} (hund : P.underlying t = some (.struct fs)) (hs : P.stoodInHeld t = false)
    (ha : VRs m xs a.toList) (hb : VRs m ys b.toList) (h : eqFields P fs.toList xs ys = some r) : (Op.equalIn (d + 2) t (.agg a) (.agg b)).run P w = .ok r w := by
  have hf : P.fieldsOf t = fs := by simp [Program.fieldsOf, hund]
  rw [run_equalIn_struct (P := P) w (d + 1) t a b (by rw [hf]; exact hund) hs, hf]
  exact run_eqFields d w _ ha hb h
theorem run_ieqIn {P : Program} {m : Mp} {t : TypeId} {x y : IV} {u v : Value} {r : Bool} (hu : VR m x u) (hv : VR m y v) (h : ieq P t x y = some r) (d : Nat) (w : World) :
    (Op.equalIn (d + 2) t u v).run P w = .ok r w := by
  unfold ieq at h
  split at h
  all_goals try (rename_i hund; simp only [VR] at hu hv)
  · cases h; subst hu; subst hv; rw [Op.equalIn, Sem.run_bind, run_underlying hund]; rfl
  · cases h; subst hu; subst hv; rw [Op.equalIn, Sem.run_bind, run_underlying hund]; rfl
  · cases h; obtain ⟨l, _, rfl⟩ := hv; subst hu; rw [Op.equalIn, Sem.run_bind, run_underlying hund]; rfl
  · cases h; obtain ⟨l, _, rfl⟩ := hu; subst hv; rw [Op.equalIn, Sem.run_bind, run_underlying hund]; rfl
  · obtain ⟨l, hl, rfl⟩ := hu
    obtain ⟨l', hl', rfl⟩ := hv
    split at h
    · rename_i n hsz
      split at h
      · rename_i e; subst e; cases h
        rw [hl] at hl'; cases hl'
        rw [Op.equalIn, Sem.run_bind, run_underlying hund, Result.andThen_ok]
        show ((sizeOf _ >>= fun n => _ : Sem Bool)).run P w = _
        rw [Sem.run_bind, run_size hsz, Result.andThen_ok, if_pos (by omega)]
        simp only [sameAddr, beq_self_eq_true, if_true]
        show Result.ok _ w = _
        congr 1
        rw [Bool.eq_iff_iff]; simp
      · cases h
    · cases h
  · cases h; subst hu; subst hv; rw [Op.equalIn, Sem.run_bind, run_underlying hund]; rfl
  · cases h; obtain ⟨l, o', c, sp, _, rfl, _⟩ := hv; subst hu; rw [Op.equalIn, Sem.run_bind, run_underlying hund]; rfl
  · cases h; obtain ⟨l, o', c, sp, _, rfl, _⟩ := hu; subst hv; rw [Op.equalIn, Sem.run_bind, run_underlying hund]; rfl
  · cases h; subst hu; subst hv; rw [Op.equalIn, Sem.run_bind, run_underlying hund]; rfl
  · cases h; obtain ⟨l, _, rfl⟩ := hv; subst hu; rw [Op.equalIn, Sem.run_bind, run_underlying hund]; rfl
  · cases h; obtain ⟨l, _, rfl⟩ := hu; subst hv; rw [Op.equalIn, Sem.run_bind, run_underlying hund]; rfl
  · cases h; subst hu; subst hv; rw [Op.equalIn, Sem.run_bind, run_underlying hund]; rfl
  · cases h; obtain ⟨_, _, rfl, _⟩ := hv; subst hu; rw [Op.equalIn, Sem.run_bind, run_underlying hund]; rfl
  · cases h; obtain ⟨_, _, rfl, _⟩ := hu; subst hv; rw [Op.equalIn, Sem.run_bind, run_underlying hund]; rfl
  · cases h; subst hu; subst hv; rw [Op.equalIn, Sem.run_bind, run_underlying hund]; rfl
  · cases h; obtain ⟨_, rfl, _⟩ := hv; subst hu; rw [Op.equalIn, Sem.run_bind, run_underlying hund]; rfl
  · cases h; obtain ⟨_, rfl, _⟩ := hu; subst hv; rw [Op.equalIn, Sem.run_bind, run_underlying hund]; rfl
  · obtain ⟨a, rfl, ha⟩ := hu
    obtain ⟨b, rfl, hb⟩ := hv
    split at h
    · rename_i hne; cases h; rw [Op.equalIn, Sem.run_bind, run_underlying hund, Result.andThen_ok]; simp only [ne_eq, hne, not_false_eq_true, if_true]; rfl
    · rename_i he
      have he := Classical.not_not.1 he
      subst he
      split at h
      · rename_i i hi
        split at h
        · rename_i hs
          simp only [Bool.and_eq_true] at hs
          have := run_cellEq (P := P) hs.1.2 hs.2 ha hb h d w
          rw [Op.equalIn, Sem.run_bind, run_underlying hund, Result.andThen_ok]
          simp only [ne_eq, not_true, if_false]
          rw [Sem.run_bind, run_info hi, Result.andThen_ok, hs.1.1]
          exact this
        · cases h
      · cases h
  · split at h
    · cases h
    · rename_i hs
      simp only [Bool.not_eq_true] at hs
      obtain ⟨a, rfl, ha⟩ := hu
      obtain ⟨b, rfl, hb⟩ := hv
      exact run_structEq d w hund hs ha hb h
  · cases h
theorem run_ieq {P : Program} {m : Mp} {t : TypeId} {x y : IV} {u v : Value} {r : Bool} (hu : VR m x u) (hv : VR m y v) (h : ieq P t x y = some r) (w : World) :
    (Op.equal t u v).run P w = .ok r w := run_ieqIn hu hv h 9998 w

theorem binOp_eql {t : TypeId} {a b : Value} (h1 : ∀ k n k' n', a = .int k n → b = .int k' n' → False) (h2 : ∀ s s', a = .string s → b = .string s' → False) (h3 : ∀ k n, a ≠ .float k n) (h4 : ∀ k n n', a ≠ .complex k n n') :
    binOp .eql t a b = (do pure (.bool (← Op.equal t a b)) : Sem Value) ∧ binOp .neq t a b = (do pure (.bool (!(← Op.equal t a b))) : Sem Value) := by
  cases a <;> first
    | exact absurd rfl (h3 _ _)
    | exact absurd rfl (h4 _ _ _)
    | (cases b <;> first
        | exact ⟨rfl, rfl⟩
        | exact (h1 _ _ _ _ rfl rfl).elim
        | exact (h2 _ _ rfl rfl).elim)

theorem run_guard {P : Program} {m : Mp} {op : BinOp} {t : TypeId} {X Y : Operand} {x y : IV} {a b : Value} (ha : VR m x a) (hb : VR m y b) (h : geq P (isConst X || isConst Y) t x y = true) (w : World) :
    (eqGuard op t X Y a b).run P w = .ok () w := by
  unfold geq at h
  split at h
  · simp only [VR] at ha hb; subst ha; subst hb
    cases op <;> cases X <;> cases Y <;> first
      | rfl
      | (simp [isConst] at h; done)
  · simp only [VR] at ha hb
    obtain ⟨a', rfl, _⟩ := ha
    obtain ⟨b', rfl, _⟩ := hb
    cases op <;> first
      | rfl
      | (simp only [Bool.not_eq_true'] at h; simp [eqGuard, h])
  · rename_i h1 h2
    refine guard_plain w ?_ ?_
    · by_cases e : x = .nilIface
      · right
        rintro rfl
        refine h1 e ?_
        cases y <;> simp [VR] at hb ⊢
      · left
        rintro rfl
        refine e ?_
        cases x <;> simp [VR] at ha ⊢
    · by_cases e : ∃ l, x = .agg l
      · obtain ⟨l, rfl⟩ := e
        right
        rintro l' rfl
        cases y <;> simp [VR] at hb
        exact h2 _ _ rfl rfl
      · left
        rintro l rfl
        refine e ?_
        cases x <;> simp [VR] at ha ⊢

/-- The whole operation, with the guard ahead of it. -/
theorem run_ibin {P : Program} {m : Mp} {op : BinOp} {t : TypeId} {X Y : Operand} {x y r : IV} {a b : Value} (ha : VR m x a) (hb : VR m y b) (h : ibin P op (isConst X || isConst Y) t x y = some r) (w : World) :
    ∃ u, ((do eqGuard op t X Y a b; binOp op t a b) : Sem Value).run P w = .ok u w ∧ VR m r u := by
  unfold ibin at h
  split at h
  · rename_i k n k' n'
    simp only [VR] at ha hb; subst ha; subst hb
    have hg := guard_plain (P := P) (op := op) (t := t) (X := X) (Y := Y) (a := .int k n) (b := .int k' n') w (.inl (by simp)) (.inl (by simp))
    rw [Sem.run_bind, hg, Result.andThen_ok]
    split at h
    · exact run_shift (.inl rfl) h t w m
    · exact run_shift (.inr rfl) h t w m
    · split at h
      · rename_i e; subst e; exact run_arith h t w m
      · cases h
  · rename_i s s'
    simp only [VR] at ha hb; subst ha; subst hb
    have hg := guard_plain (P := P) (op := op) (t := t) (X := X) (Y := Y) (a := .string ⟨s.toArray⟩) (b := .string ⟨s'.toArray⟩) w (.inl (by simp)) (.inl (by simp))
    rw [Sem.run_bind, hg, Result.andThen_ok]
    exact run_str h t w m
  · rename_i h1 h2
    have hq := binOp_eql (t := t) (a := a) (b := b)
      (fun k n k' n' ea eb => by
        subst ea; subst eb
        cases x <;> simp [VR] at ha
        cases y <;> simp [VR] at hb
        exact h1 _ _ _ _ rfl rfl)
      (fun s s' ea eb => by
        subst ea; subst eb
        cases x <;> simp [VR] at ha
        cases y <;> simp [VR] at hb
        exact h2 _ _ rfl rfl)
      (fun k n e => by subst e; cases x <;> simp [VR] at ha)
      (fun k n n' e => by subst e; cases x <;> simp [VR] at ha)
    split at h
    · split at h
      · rename_i hge
        obtain ⟨bb, h3, h4⟩ := Option.bind_eq_some_iff.1 h
        cases h4
        refine ⟨.bool bb, ?_, VR_bool m bb⟩
        rw [Sem.run_bind, run_guard ha hb hge w, Result.andThen_ok, hq.1, Sem.run_bind, run_ieq (P := P) ha hb h3 w]; rfl
      · cases h
    · split at h
      · rename_i hge
        obtain ⟨bb, h3, h4⟩ := Option.bind_eq_some_iff.1 h
        cases h4
        refine ⟨.bool (!bb), ?_, VR_bool m _⟩
        rw [Sem.run_bind, run_guard ha hb hge w, Result.andThen_ok, hq.2, Sem.run_bind, run_ieq (P := P) ha hb h3 w]; rfl
      · cases h
    · cases h
end Go.Shade
