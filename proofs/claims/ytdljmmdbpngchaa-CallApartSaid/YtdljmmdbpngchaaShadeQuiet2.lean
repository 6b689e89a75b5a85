/- SHADE, part 6: fields, indexes, conversions, assertions, look-ups, lengths. -/
import Derived.Test.YtdljmmdbpngchaaShadeQuiet
namespace Go.Shade
open Go.RowKit
set_option linter.unusedSimpArgs false

/-! ### places -/
def ifieldAddr (P : Program) (s : TypeId) (x : IV) (f : Nat) : Option IV :=
  match P.underlying s, x with
  | some (.struct fs), .ptr b o => match fs[f]? with
    | some fd => match szOf P fd.type with
      | some (_ + 1) => some (.ptr b (o + fd.offset))
      | _ => none
    | none => none
  | _, _ => none
theorem run_ifieldAddr {P : Program} {m : Mp} {s : TypeId} {x r : IV} {f : Nat} {v : Value} (hx : VR m x v) (h : ifieldAddr P s x f = some r) (w : World) :
    ∃ u, (Instr.fieldAt s v f).run P w = .ok u w ∧ VR m r u := by
  unfold ifieldAddr at h
  split at h
  · rename_i fs b o hund
    split at h
    · rename_i fd hf
      split at h
      · rename_i n hsz
        cases h
        simp only [VR] at hx
        obtain ⟨l, hl, rfl⟩ := hx
        refine ⟨.pointer (some ⟨l.cb, l.co + (o + fd.offset), none⟩), ?_, by simp only [VR]; exact ⟨l, hl, rfl⟩⟩
        simp only [Instr.fieldAt, Sem.run_bind, run_underlying hund, Result.andThen_ok, hf, Instr.sureAddr, Sem.run_pure, fieldPlace, run_size hsz]
        rw [if_neg (by omega), Sem.run_pure, add_none, Nat.add_assoc]; rfl
      · cases h
    · cases h
  · cases h

def iindexAddr (P : Program) (t : TypeId) (x i : IV) : Option IV :=
  match P.underlying t, x, i with
  | some (.slice e), .slice b o n _ _ _, .int _ j => (szOf P e).bind fun s => if 0 ≤ j ∧ j < n then some (.ptr b (o + j.toNat * s)) else none
  | some (.array n e), .ptr b o, .int _ j => (szOf P e).bind fun s => if 0 ≤ j ∧ j < n then some (.ptr b (o + j.toNat * s)) else none
  | _, _, _ => none
theorem run_iindexAddr {P : Program} {m : Mp} {t : TypeId} {x i r : IV} {v vi : Value} (hx : VR m x v) (hi : VR m i vi) (h : iindexAddr P t x i = some r) (w : World) :
    ∃ u, (Instr.indexAt t v vi).run P w = .ok u w ∧ VR m r u := by
  unfold iindexAddr at h
  split at h
  · rename_i e b o n lb ex sz k j hund
    obtain ⟨s, hs, h⟩ := Option.bind_eq_some_iff.1 h
    split at h
    · rename_i hj
      cases h
      simp only [VR] at hx hi; subst hi
      obtain ⟨l, o1, c, sp, hl, rfl, hn, hlb, _, hoff, _⟩ := hx
      refine ⟨.pointer (some ⟨l.cb, l.co + (o + j.toNat * s), none⟩), ?_, by simp only [VR]; exact ⟨l, hl, rfl⟩⟩
      simp only [Instr.indexAt, asIntOf, Sem.run_bind, Sem.run_pure, Result.andThen_ok, run_underlying hund]
      rw [if_pos hj]
      obtain ⟨e1, e2⟩ := hoff (by omega)
      subst e2
      simp only [Sem.run_bind, run_size hs, Result.andThen_ok, Sem.run_pure, add_none]
      rw [e1, Nat.add_assoc]
    · cases h
  · rename_i n e b o k j hund
    obtain ⟨s, hs, h⟩ := Option.bind_eq_some_iff.1 h
    split at h
    · rename_i hj
      cases h
      simp only [VR] at hx hi; subst hi
      obtain ⟨l, hl, rfl⟩ := hx
      refine ⟨.pointer (some ⟨l.cb, l.co + (o + j.toNat * s), none⟩), ?_, by simp only [VR]; exact ⟨l, hl, rfl⟩⟩
      simp only [Instr.indexAt, asIntOf, Sem.run_bind, Sem.run_pure, Result.andThen_ok, run_underlying hund, Instr.sureAddr]
      rw [if_pos hj]
      simp only [Sem.run_bind, run_size hs, Result.andThen_ok, Sem.run_pure, add_none]
      rw [Nat.add_assoc]
    · cases h
  · cases h

/-! ### parts of values -/
def ipart (P : Program) (t : TypeId) (cs : List IV) (off : Nat) : Option IV :=
  match isAggT P t with
  | some true => (szOf P t).bind fun n => if off + n ≤ cs.length then some (.agg ((cs.drop off).take n)) else none
  | some false => cs[off]?
  | none => none
theorem run_ipart {P : Program} {m : Mp} {t : TypeId} {cs : List IV} {off : Nat} {r : IV} {us : Array Value} (hx : VRs m cs us.toList) (h : ipart P t cs off = some r) (w : World) :
    ∃ u, (part t us off).run P w = .ok u w ∧ VR m r u := by
  unfold ipart at h
  cases ha : isAggT P t with
  | none => simp [ha] at h
  | some c =>
    cases c with
    | true =>
      simp only [ha] at h
      obtain ⟨n, hn, h⟩ := Option.bind_eq_some_iff.1 h
      split at h
      · cases h
        refine ⟨.agg (us.extract off (off + n)), by simp [part, run_isAgg ha, run_size hn], ?_⟩
        simp only [VR]
        refine ⟨_, rfl, ?_⟩
        have : (us.extract off (off + n)).toList = (us.toList.drop off).take n := by
          rw [Array.toList_extract, List.extract_eq_take_drop]; congr 1; omega
        rw [this]
        exact (hx.drop off).take n
      · cases h
    | false =>
      simp only [ha] at h
      obtain ⟨u, hu, hr⟩ := hx.get h
      exact ⟨u, run_part ha (by simpa using hu) w, hr⟩
def ifield (P : Program) (t : TypeId) (x : IV) (f : Nat) : Option IV :=
  match P.underlying t, x with
  | some (.struct fs), .agg cs => match fs[f]? with
    | some fd => ipart P fd.type cs fd.offset
    | none => none
  | _, _ => none
theorem run_ifield {P : Program} {m : Mp} {t : TypeId} {x r : IV} {f : Nat} {v : Value} (hx : VR m x v) (h : ifield P t x f = some r) (w : World) :
    ∃ u, (Instr.field t v f).run P w = .ok u w ∧ VR m r u := by
  unfold ifield at h
  split at h
  · rename_i fs cs hund
    split at h
    · rename_i fd hf
      simp only [VR] at hx
      obtain ⟨us, rfl, hus⟩ := hx
      obtain ⟨u, hu, hr⟩ := run_ipart hus h w
      exact ⟨u, by simp only [Instr.field, Sem.run_bind, run_underlying hund, Result.andThen_ok, hf, asAgg, Sem.run_pure, hu], hr⟩
    · cases h
  · cases h
def iindex (P : Program) (t : TypeId) (x i : IV) : Option IV :=
  match P.underlying t, x, i with
  | some (.array n e), .agg cs, .int _ j => (szOf P e).bind fun s => if 0 ≤ j ∧ j < n then ipart P e cs (j.toNat * s) else none
  | some .string, .str s, .int _ j => if 0 ≤ j then (s[j.toNat]?).bind fun c => some (.int .u8 c.toNat) else none
  | _, _, _ => none
theorem run_iindex {P : Program} {m : Mp} {t : TypeId} {x i r : IV} {v vi : Value} (hx : VR m x v) (hi : VR m i vi) (h : iindex P t x i = some r) (w : World) :
    ∃ u, (Instr.index t v vi).run P w = .ok u w ∧ VR m r u := by
  unfold iindex at h
  split at h
  · rename_i n e cs k j hund
    obtain ⟨s, hs, h⟩ := Option.bind_eq_some_iff.1 h
    split at h
    · rename_i hj
      simp only [VR] at hx hi; subst hi
      obtain ⟨us, rfl, hus⟩ := hx
      obtain ⟨u, hu, hr⟩ := run_ipart hus h w
      refine ⟨u, ?_, hr⟩
      simp only [Instr.index, asIntOf, Sem.run_bind, Sem.run_pure, Result.andThen_ok, run_underlying hund]
      rw [if_pos hj]
      simp only [Sem.run_bind, run_size hs, Result.andThen_ok, hu]
    · cases h
  · rename_i s k j hund
    split at h
    · rename_i hj
      obtain ⟨c, hc, h⟩ := Option.bind_eq_some_iff.1 h
      cases h
      simp only [VR] at hx hi; subst hi; subst hx
      refine ⟨_, ?_, VR_int m _ _⟩
      have hlt := (List.getElem?_eq_some_iff.1 hc)
      obtain ⟨hlt, he⟩ := hlt
      have hg : (⟨s.toArray⟩ : ByteArray)[j.toNat]? = some c := by
        rw [getElem?_pos _ _ (by rw [size_mk]; exact hlt)]
        show some (s.toArray[j.toNat]) = some c
        simp [he]
      simp only [Instr.index, asIntOf, Sem.run_bind, Sem.run_pure, Result.andThen_ok, run_underlying hund]
      rw [if_pos hj, hg]
      rfl
    · cases h
  · cases h
def iextract (x : IV) (i : Nat) : Option IV :=
  match x with
  | .tuple vs => vs[i]?
  | _ => none
theorem run_iextract {P : Program} {m : Mp} {x r : IV} {i : Nat} {v : Value} (hx : VR m x v) (h : iextract x i = some r) (w : World) :
    ∃ u, (Instr.extract v i).run P w = .ok u w ∧ VR m r u := by
  unfold iextract at h
  split at h
  · rename_i vs
    simp only [VR] at hx
    obtain ⟨us, rfl, hus⟩ := hx
    obtain ⟨u, hu, hr⟩ := hus.get h
    have hu' : us[i]? = some u := by simpa using hu
    exact ⟨u, by simp [Instr.extract, hu'], hr⟩
  · cases h

/-! ### one operand -/
def iun (op : UnOp) (x : IV) : Option IV :=
  match op, x with
  | .neg, .int k n => some (.int k (k.wrap (0 - n)))
  | .not, .bool b => some (.bool (!b))
  | .xor, .int k n => iarith .xor k (if k.signed then -1 else k.max) n
  | _, _ => none
theorem run_iun {P : Program} {m : Mp} {op : UnOp} {x r : IV} {v : Value} (hx : VR m x v) (h : iun op x = some r) (w : World) :
    ∃ u, (Op.unary op v).run P w = .ok u w ∧ VR m r u := by
  unfold iun at h
  split at h
  · cases h; simp only [VR] at hx; subst hx; exact ⟨_, rfl, VR_int m _ _⟩
  · cases h; simp only [VR] at hx; subst hx; exact ⟨_, rfl, VR_bool m _⟩
  · simp only [iarith] at h; cases h; simp only [VR] at hx; subst hx; exact ⟨_, rfl, VR_int m _ _⟩
  · cases h

/-- The bytes of a row of byte cells. -/
def ibytes : List IV → Option (List UInt8)
  | [] => some []
  | .int .u8 n :: r => (ibytes r).bind fun l => some (UInt8.ofNat n.toNat :: l)
  | _ :: _ => none
def irow (H : Heap) (b o n : Nat) : Option (List IV) :=
  match H[b]? with
  | some (.row cs _) => if o + n ≤ cs.length then some ((cs.drop o).take n) else none
  | _ => none
theorem run_irow {P : Program} {B0 : Nat} {w0 w : World} {m : Mp} {H : Heap} (hR : Rel B0 w0 m H w) {b o n : Nat} {cs : List IV} (h : irow H b o n = some cs) {l : Loc} (hl : m b = some l) :
    ∃ us : List Value, us.length = n ∧ VRs m cs us ∧ (loadCells ⟨l.cb, l.co + o, none⟩ n).run P w = .ok us.toArray w := by
  unfold irow at h
  split at h
  · rename_i ds ro hb
    split at h
    · rename_i hn
      cases h
      obtain ⟨us, g1, g2, g3⟩ := hR.cells hb hl o n hn
      refine ⟨us, g1, g2, ?_⟩
      have := run_loadCells_list (P := P) w ⟨l.cb, l.co + o, none⟩ us g3
      rwa [g1] at this
    · cases h
  · cases h
/-- The cells of a slice (n of them), wherever it lies. -/
def isl (P : Program) (H : Heap) (e : TypeId) (x : IV) (n : Nat) : Option (List IV) :=
  match x with
  | .nilSlice => if n = 0 then some [] else none
  | .slice b o len _ _ _ => (szOf P e).bind fun s => if n ≤ len then (if n = 0 then some [] else irow H b o (n * s)) else none
  | _ => none
theorem run_isl {P : Program} {B0 : Nat} {w0 w : World} {m : Mp} {H : Heap} (hR : Rel B0 w0 m H w) {e : TypeId} {x : IV} {n : Nat} {cs : List IV} (h : isl P H e x n = some cs) {v : Value} (hx : VR m x v) {s : Nat} (hs : szOf P e = some s) :
    ∃ us : List Value, VRs m cs us ∧ (Builtin.firstCells s n v).run P w = .ok us.toArray w := by
  unfold isl at h
  split at h
  · split at h
    · cases h; simp only [VR] at hx; subst hx; exact ⟨[], VRs.nil m, rfl⟩
    · cases h
  · rename_i b o len lb ex sz
    obtain ⟨s', hs', h⟩ := Option.bind_eq_some_iff.1 h
    rw [hs] at hs'; cases hs'
    simp only [VR] at hx
    obtain ⟨l, o1, c, sp, hl, rfl, hn, hlb, _, hoff, _⟩ := hx
    split at h
    · rename_i hle
      split at h
      · rename_i h0
        cases h; subst h0
        refine ⟨[], VRs.nil m, ?_⟩
        simp [Builtin.firstCells, loadCells, loadCellsFrom]
      · rename_i h0
        obtain ⟨us, _, g2, g3⟩ := run_irow (P := P) hR h hl
        obtain ⟨e1, e2⟩ := hoff (by omega)
        rw [e1, e2]
        exact ⟨us, g2, g3⟩
    · cases h
  · cases h

theorem ibytes_VRs {m : Mp} : ∀ {cs : List IV} {us : List Value} {l : List UInt8}, VRs m cs us → ibytes cs = some l → ∃ ns : List Int, us = ns.map (Value.int .u8) ∧ l = ns.map fun n => UInt8.ofNat n.toNat
  | [], us, l, h, k => by
    simp only [VRs] at h; subst h
    simp only [ibytes] at k; cases k
    exact ⟨[], rfl, rfl⟩
  | x :: cs, us, l, h, k => by
    simp only [VRs] at h
    obtain ⟨v, vs, rfl, hv, hr⟩ := h
    unfold ibytes at k
    split at k
    · rename_i e; cases e
    · rename_i n r e
      cases e
      obtain ⟨l', h1, h2⟩ := Option.bind_eq_some_iff.1 k
      cases h2
      obtain ⟨ns, h3, h4⟩ := ibytes_VRs hr h1
      simp only [VR] at hv; subst hv
      exact ⟨n :: ns, by simp [h3], by simp [h4]⟩
    · cases k
theorem push_bytes (ns : List Int) : ∀ (a : List UInt8), ns.foldl (fun r n => r.push (UInt8.ofNat n.toNat)) (⟨a.toArray⟩ : ByteArray) = ⟨(a ++ ns.map fun n => UInt8.ofNat n.toNat).toArray⟩ := by
  induction ns with
  | nil => intro a; simp
  | cons n ns ih =>
    intro a
    simp only [List.foldl_cons, List.map_cons]
    have : (⟨a.toArray⟩ : ByteArray).push (UInt8.ofNat n.toNat) = ⟨(a ++ [UInt8.ofNat n.toNat]).toArray⟩ := by
      apply ByteArray.ext; simp [ByteArray.push]
    rw [this, ih]; simp

def iconv (P : Program) (H : Heap) (src dst : TypeId) (x : IV) : Option IV :=
  match P.underlying src, P.underlying dst, x with
  | some _, some (.int k), .int _ n => some (.int k (k.wrap n))
  | some _, some .string, .str s => some (.str s)
  | some (.slice e), some .string, x =>
    match P.underlying e, x with
    | some (.int .u8), .nilSlice => some (.str [])
    | some (.int .u8), .slice b o n lb ex sz => (szOf P e).bind fun s => if s = 1 then (isl P H e (.slice b o n lb ex sz) n).bind fun cs => (ibytes cs).bind fun l => some (.str l) else none
    | _, _ => none
  | _, _, _ => none
theorem run_iconv {P : Program} {B0 : Nat} {w0 w : World} {m : Mp} {H : Heap} (hR : Rel B0 w0 m H w) {src dst : TypeId} {x r : IV} {v : Value} (hx : VR m x v) (h : iconv P H src dst x = some r) :
    ∃ u, (convert src dst v).run P w = .ok u w ∧ VR m r u := by
  unfold iconv at h
  split at h
  · rename_i d k k' n hs hd
    cases h
    simp only [VR] at hx; subst hx
    refine ⟨_, ?_, VR_int m _ _⟩
    simp only [convert, Sem.run_bind, run_underlying hs, run_underlying hd, Result.andThen_ok]
    rfl
  · rename_i d s hs hd
    cases h
    simp only [VR] at hx; subst hx
    refine ⟨_, ?_, VR_str m _⟩
    simp only [convert, Sem.run_bind, run_underlying hs, run_underlying hd, Result.andThen_ok]
    rfl
  · rename_i hs hd hno
    split at h
    · rename_i he
      cases h
      simp only [VR] at hx; subst hx
      refine ⟨_, ?_, VR_str m _⟩
      rw [run_convert_bytes_string w src dst _ none 0 0 hs he hd]
      rfl
    · rename_i b o n lb ex sz he
      obtain ⟨s, hsz, h⟩ := Option.bind_eq_some_iff.1 h
      split at h
      · rename_i h1; subst h1
        obtain ⟨cs, hcs, h⟩ := Option.bind_eq_some_iff.1 h
        obtain ⟨l, hl, h⟩ := Option.bind_eq_some_iff.1 h
        cases h
        obtain ⟨us, hus, hrun⟩ := run_isl (P := P) hR hcs hx hsz
        simp only [VR] at hx
        obtain ⟨lc, o1, c, sp, _, rfl, _⟩ := hx
        obtain ⟨ns, rfl, rfl⟩ := ibytes_VRs hus hl
        refine ⟨_, ?_, VR_str m _⟩
        rw [run_convert_bytes_string w src dst _ _ _ _ hs he hd]
        rw [run_bytesToString w _ _ _ ns (by simpa [Builtin.firstCells] using hrun)]
        have := push_bytes ns []
        simp only [List.nil_append] at this
        rw [← this]; rfl
      · cases h
    · cases h
  · cases h
end Go.Shade
