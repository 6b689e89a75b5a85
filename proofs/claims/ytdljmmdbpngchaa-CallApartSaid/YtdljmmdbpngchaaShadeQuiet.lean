/- SHADE, part 5: the other operations that leave the heap alone. -/
import Derived.Test.YtdljmmdbpngchaaShadeBin
import Derived.Laws.Slices
import Derived.Laws.BytesString
namespace Go.Shade
open Go.RowKit
set_option linter.unusedSimpArgs false

def OR (m : Mp) : Option IV → Option Value → Prop
  | none, v => v = none
  | some x, v => ∃ u, v = some u ∧ VR m x u

/-! ### slicing -/
def bnd (d : Nat) : Option IV → Option Nat
  | none => some d
  | some (.int _ i) => if 0 ≤ i then some i.toNat else none
  | _ => none
theorem run_bnd {P : Program} {m : Mp} {d : Nat} {x : IV} {v : Value} {l : Nat} (h : bnd d (some x) = some l) (hv : VR m x v) (y : Nat) (hl : l ≤ y) (code : BoundsCode) (w : World) : (Instr.sliceBound v y code).run P w = .ok l w := by
  unfold bnd at h
  split at h
  · rename_i e; cases e
  · rename_i k i e
    cases e
    simp only [VR] at hv; subst hv
    split at h
    · rename_i h0
      cases h
      exact run_sliceBound (P := P) w k i y code h0 (by omega)
    · cases h
  · cases h
theorem run_bounds {P : Program} {m : Mp} {lo hi mx : Option IV} {lo' hi' mx' : Option Value} {n cap l h : Nat} (isS : Bool) (hlo : OR m lo lo') (hhi : OR m hi hi') (hmx : OR m mx mx')
    (el : bnd 0 lo = some l) (eh : bnd n hi = some h) (hlh : l ≤ h) (k : Nat)
    (hk : (mx = none ∧ k = cap ∧ (hi = none ∨ h ≤ cap)) ∨ (∃ z, mx = some z ∧ bnd 0 mx = some k ∧ hi.isSome = true ∧ h ≤ k ∧ k ≤ cap)) (w : World) :
    (Instr.sliceBounds isS n cap lo' hi' mx').run P w = .ok (l, h, k) w := by
  have key : (lo' = none ∧ l = 0) ∨ ∃ u, lo' = some u ∧ ∀ code, (Instr.sliceBound u h code).run P w = .ok l w := by
    cases lo with
    | none => simp only [OR] at hlo; simp only [bnd] at el; cases el; exact .inl ⟨hlo, rfl⟩
    | some x => obtain ⟨u, rfl, hu⟩ := hlo; exact .inr ⟨u, rfl, fun code => run_bnd el hu h hlh code w⟩
  rcases hk with ⟨rfl, hkc, hh⟩ | ⟨z, rfl, ek, hi1, hhk, hkc⟩
  · subst hkc
    simp only [OR] at hmx; subst hmx
    cases hi with
    | none =>
      simp only [OR] at hhi; subst hhi
      simp only [bnd] at eh; cases eh
      unfold Instr.sliceBounds
      rcases key with ⟨rfl, rfl⟩ | ⟨u, rfl, key⟩
      · rfl
      · simp only [Sem.run_bind, Sem.run_pure, Result.andThen_ok, key]
    | some x =>
      obtain ⟨u, rfl, hu⟩ := hhi
      have hc : h ≤ k := by
        rcases hh with hh | hh
        · cases hh
        · exact hh
      unfold Instr.sliceBounds
      rcases key with ⟨rfl, rfl⟩ | ⟨u, rfl, key⟩
      · simp only [Sem.run_bind, Sem.run_pure, Result.andThen_ok, run_bnd eh hu k hc _ w]
      · simp only [Sem.run_bind, Sem.run_pure, Result.andThen_ok, run_bnd eh hu k hc _ w, key]
  · obtain ⟨u, rfl, hu⟩ := hmx
    cases hi with
    | none => simp at hi1
    | some x =>
      obtain ⟨v, rfl, hv⟩ := hhi
      unfold Instr.sliceBounds
      rcases key with ⟨rfl, rfl⟩ | ⟨u, rfl, key⟩
      · simp only [Sem.run_bind, Sem.run_pure, Result.andThen_ok, run_bnd ek hu cap hkc _ w, run_bnd eh hv k hhk _ w]
      · simp only [Sem.run_bind, Sem.run_pure, Result.andThen_ok, run_bnd ek hu cap hkc _ w, run_bnd eh hv k hhk _ w, key]

def islice (P : Program) (H : Heap) (t : TypeId) (x : IV) (lo hi mx : Option IV) : Option IV :=
  match P.underlying t, x with
  | some (.slice e), .slice b o n lb ex sz =>
    (szOf P e).bind fun s => (bnd n hi).bind fun h => (bnd 0 lo).bind fun l =>
      if sz ≠ 0 ∧ sz ≠ s then none else
      match mx with
      | none => if l ≤ h ∧ h ≤ lb then some (.slice b (o + l * s) (h - l) (lb - l) ex sz) else none
      | some z => (bnd 0 (some z)).bind fun k => if hi.isSome = true ∧ l ≤ h ∧ h ≤ k ∧ k ≤ lb then some (.slice b (o + l * s) (h - l) (k - l) true sz) else none
  | some (.slice e), .nilSlice =>
    (szOf P e).bind fun _ => if mx.isNone && bnd 0 lo == some 0 && bnd 0 hi == some 0 then some .nilSlice else none
  | some .string, .str s =>
    (bnd s.length hi).bind fun h => (bnd 0 lo).bind fun l => if mx.isNone = true ∧ l ≤ h ∧ h ≤ s.length then some (.str ((s.drop l).take (h - l))) else none
  | some (.array n e), .ptr b o =>
    (szOf P e).bind fun s => (bnd n hi).bind fun h => (bnd 0 lo).bind fun l =>
      match H[b]? with
      | some (.row cs false) => if mx.isNone = true ∧ l ≤ h ∧ h ≤ n ∧ o + n * s ≤ cs.length then some (.slice b (o + l * s) (h - l) (n - l) true s) else none
      | _ => none
  | _, _ => none

theorem extract_mk (s : List UInt8) (l h : Nat) : (⟨s.toArray⟩ : ByteArray).extract l h = ⟨((s.drop l).take (h - l)).toArray⟩ := by
  apply ByteArray.ext
  simp [ByteArray.data_extract]

theorem run_islice {P : Program} {B0 : Nat} {w0 w : World} {m : Mp} {H : Heap} (hR : Rel B0 w0 m H w) {t : TypeId} {x : IV} {lo hi mx : Option IV} {v : Value} {lo' hi' mx' : Option Value} {r : IV}
    (hx : VR m x v) (hlo : OR m lo lo') (hhi : OR m hi hi') (hmx : OR m mx mx') (h : islice P H t x lo hi mx = some r) :
    ∃ u, (Instr.sliceAt t v lo' hi' mx').run P w = .ok u w ∧ VR m r u := by
  unfold islice at h
  split at h
  · rename_i e b o n lb ex sz hund
    obtain ⟨s, hs, h⟩ := Option.bind_eq_some_iff.1 h
    obtain ⟨hh, eh, h⟩ := Option.bind_eq_some_iff.1 h
    obtain ⟨l, el, h⟩ := Option.bind_eq_some_iff.1 h
    simp only [VR] at hx
    obtain ⟨lc, o1, c, sp, hl, rfl, hn, hlb, hex, hoff, hsz⟩ := hx
    split at h
    · cases h
    · rename_i hss
      have hss : sz = 0 ∨ sz = s := by omega
      have step : ∀ k, (Instr.sliceBounds true n c lo' hi' mx').run P w = .ok (l, hh, k) w →
          (Instr.sliceAt t (.slice (some ⟨lc.cb, o1, sp⟩) n c) lo' hi' mx').run P w = .ok (.slice (if k = l then some ⟨lc.cb, o1, sp⟩ else some ((⟨lc.cb, o1, sp⟩ : Addr).add (l * s))) (hh - l) (k - l)) w := by
        intro k hb
        have hb' := hb
        simp only [Instr.sliceAt, Sem.run_bind, run_underlying hund, Result.andThen_ok]
        simp only [Instr.slice, Sem.run_bind, run_underlying hund, Result.andThen_ok, hb', run_size hs]
        simp only [Sem.run_pure, Option.map_some]
      have fin : ∀ k lb' ex', l ≤ k → k ≤ c → lb' + l ≤ k → hh ≤ lb' + l → (ex' = true → k = lb' + l) → lb' + l ≤ lb →
          VR m (.slice b (o + l * s) (hh - l) lb' ex' sz) (.slice (if k = l then some ⟨lc.cb, o1, sp⟩ else some ((⟨lc.cb, o1, sp⟩ : Addr).add (l * s))) (hh - l) (k - l)) := by
        intro k lb' ex' h1 h2 h3 h4 h5 h6
        simp only [VR]
        by_cases e : k = l
        · rw [if_pos e]
          refine ⟨lc, o1, k - l, sp, hl, rfl, by omega, by omega, fun he => by have := h5 he; omega, fun h0 => by omega, fun h0 => ?_⟩
          have := hsz h0
          rw [e, Nat.sub_self, Nat.zero_mul]
          exact ⟨by omega, this.2⟩
        · rw [if_neg e]
          have hblock : ((⟨lc.cb, o1, sp⟩ : Addr).add (l * s)) = ⟨lc.cb, ((⟨lc.cb, o1, sp⟩ : Addr).add (l * s)).off, ((⟨lc.cb, o1, sp⟩ : Addr).add (l * s)).spot⟩ := by
            unfold Addr.add; split <;> rfl
          refine ⟨lc, ((⟨lc.cb, o1, sp⟩ : Addr).add (l * s)).off, k - l, ((⟨lc.cb, o1, sp⟩ : Addr).add (l * s)).spot, hl, congrArg (fun a => Value.slice (some a) (hh - l) (k - l)) hblock, by omega, by omega, fun he => by have := h5 he; omega, fun h0 => ?_, fun h0 => ?_⟩
          · obtain ⟨e1, e2⟩ := hoff (by omega)
            subst e2; rw [add_none]; exact ⟨by simp only; omega, rfl⟩
          have := hsz h0
          obtain ⟨this, e2⟩ := this
          subst e2; rw [add_none]; refine ⟨?_, rfl⟩
          simp only
          have hs' : s = sz := by omega
          subst hs'
          have hmul : l * s + (k - l) * s = k * s := by rw [← Nat.add_mul]; congr 1; omega
          have hle : k * s ≤ c * s := Nat.mul_le_mul_right _ h2
          omega
      cases mx with
      | none =>
        simp only at h
        split at h
        · rename_i hc
          cases h
          have hb := run_bounds (P := P) true hlo hhi hmx el eh hc.1 c (.inl ⟨rfl, rfl, .inr (by omega)⟩) w
          exact ⟨_, step c hb, fin c (lb - l) ex (by omega) (by omega) (by omega) (by omega) (fun he => by have := hex he; omega) (by omega)⟩
        · cases h
      | some z =>
        simp only at h
        obtain ⟨k, ek, h⟩ := Option.bind_eq_some_iff.1 h
        split at h
        · rename_i hc
          cases h
          have hkc : k ≤ c := by omega
          have hb := run_bounds (P := P) (cap := c) true hlo hhi hmx el eh hc.2.1 k (.inr ⟨z, rfl, ek, hc.1, hc.2.2.1, hkc⟩) w
          have hkl : l ≤ k := by omega
          have f := fin k (k - l) true hkl (by omega) (by omega) (by omega) (fun _ => by omega) (by omega)
          exact ⟨_, step k hb, f⟩
        · cases h
  · rename_i e hund
    obtain ⟨s, hs, h⟩ := Option.bind_eq_some_iff.1 h
    split at h
    · rename_i hc
      cases h
      simp only [Bool.and_eq_true, beq_iff_eq, Option.isNone_iff_eq_none] at hc
      obtain ⟨⟨rfl, el⟩, eh⟩ := hc
      simp only [VR] at hx; subst hx
      have hb := run_bounds (P := P) (n := 0) (cap := 0) true hlo hhi hmx el eh (Nat.le_refl _) 0 (.inl ⟨rfl, rfl, .inr (Nat.le_refl _)⟩) w
      refine ⟨.slice none 0 0, ?_, by simp only [VR]⟩
      simp only [Instr.sliceAt, Sem.run_bind, run_underlying hund, Result.andThen_ok]
      simp only [Instr.slice, Sem.run_bind, run_underlying hund, Result.andThen_ok, hb, run_size hs]
      rfl
    · cases h
  · rename_i s hund
    obtain ⟨hh, eh, h⟩ := Option.bind_eq_some_iff.1 h
    obtain ⟨l, el, h⟩ := Option.bind_eq_some_iff.1 h
    split at h
    · rename_i hc
      cases h
      obtain ⟨h1, h2, h3⟩ := hc
      have hm : mx = none := by cases mx <;> simp_all
      subst hm
      simp only [OR] at hmx; subst hmx
      simp only [VR] at hx; subst hx
      have hb := run_bounds (P := P) (n := s.length) (cap := s.length) (mx' := none) false hlo hhi (by simp [OR]) el eh h2 s.length (.inl ⟨rfl, rfl, .inr h3⟩) w
      refine ⟨_, ?_, VR_str m _⟩
      simp only [Instr.sliceAt, Sem.run_bind, run_underlying hund, Result.andThen_ok]
      simp only [Instr.slice, Sem.run_bind, run_underlying hund, Result.andThen_ok, Option.isSome_none, Bool.false_eq_true, if_false, size_mk, hb, Sem.run_pure, extract_mk]
    · cases h
  · rename_i n e b o hund
    obtain ⟨s, hs, h⟩ := Option.bind_eq_some_iff.1 h
    obtain ⟨hh, eh, h⟩ := Option.bind_eq_some_iff.1 h
    obtain ⟨l, el, h⟩ := Option.bind_eq_some_iff.1 h
    split at h
    · rename_i cs hrow
      split at h
      · rename_i hc
        cases h
        obtain ⟨h1, h2, h3, h4⟩ := hc
        have hm : mx = none := by cases mx <;> simp_all
        subst hm
        simp only [OR] at hmx; subst hmx
        simp only [VR] at hx
        obtain ⟨lc, hl, rfl⟩ := hx
        have hg := hR.good b _ hrow
        obtain ⟨lc', C, e', fr, g1, g2, g3, g4, _⟩ := hg
        rw [hl] at g1; cases g1
        have hb := run_bounds (P := P) (n := n) (cap := n) (mx' := none) false hlo hhi (by simp [OR]) el eh h2 n (.inl ⟨rfl, rfl, .inr h3⟩) w
        refine ⟨.slice (some (if n = l then ⟨lc.cb, lc.co + o, none⟩ else ⟨lc.cb, lc.co + o + l * s, none⟩)) (hh - l) (n - l), ?_, ?_⟩
        · simp only [Instr.sliceAt, Sem.run_bind, run_underlying hund, Result.andThen_ok, Instr.sureAddr, Sem.run_pure, hb, run_size hs, add_none]
        · simp only [VR]
          by_cases en : n = l
          · rw [if_pos en]
            refine ⟨lc, lc.co + o, n - l, none, hl, rfl, by omega, by omega, fun _ => rfl, fun h0 => by omega, fun h0 => ⟨?_, rfl⟩⟩
            rw [en, Nat.sub_self, Nat.zero_mul]
            have : 0 ≤ n * s := Nat.zero_le _
            omega
          · rw [if_neg en]
            refine ⟨lc, lc.co + o + l * s, n - l, none, hl, rfl, by omega, by omega, fun _ => rfl, fun h0 => ⟨by omega, rfl⟩, fun h0 => ⟨?_, rfl⟩⟩
            have hmul : l * s + (n - l) * s = n * s := by rw [← Nat.add_mul]; congr 1; omega
            omega
      · cases h
    · cases h
  · cases h
end Go.Shade
