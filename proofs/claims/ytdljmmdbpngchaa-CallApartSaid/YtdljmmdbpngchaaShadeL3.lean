/- SHADE, part 26: low operations answer as the model's. -/
import Derived.Test.YtdljmmdbpngchaaShadeL2
namespace Go.Shade
open Go.RowKit
set_option linter.unusedSimpArgs false
set_option linter.unusedVariables false

theorem low_ok {P : Program} {cal : FuncId → Bool} (hcal : ∀ g, cal g = true → callable P g = true) {H : Heap} {σ : Sg} {op : Op} {lo : LOp} (h : lowOp P op = some lo) : LowOk P cal H σ op lo := by
  unfold lowOp at h
  split at h
  · obtain ⟨y, hy, rfl⟩ := oM h
    exact LowOk.quiet rfl fun v hv => by simp only [lq] at hv; simp only [iq, lowA_env hy, hv]
  · obtain ⟨y, hy, rfl⟩ := oM h
    exact LowOk.quiet rfl fun v hv => by simp only [lq] at hv; simp only [iq, lowA_env hy, hv]
  · obtain ⟨c, hc, h⟩ := oB h
    obtain ⟨a, ha, h⟩ := oB h
    obtain ⟨b, hb, rfl⟩ := oM h
    refine LowOk.quiet rfl fun v hv => ?_
    simp only [lq] at hv
    simp only [iq, lowA_env hc, lowA_env ha, lowA_env hb]
    split at hv
    · rename_i e; rw [e]; exact hv
    · rename_i e; rw [e]; exact hv
    · cases hv
  · obtain ⟨a, ha, h⟩ := oB h
    split at h
    · rename_i hg
      obtain ⟨n, hn, rfl⟩ := oM h
      refine LowOk.quiet rfl fun v hv => ?_
      simp only [lq] at hv
      simp only [iq, lowA_env ha]
      cases hx : la σ a <;> rw [hx] at hv <;> first | (simp [lloadn] at hv; done) | skip
      simp only [lloadn_eq hg hn]; exact hv
    · rename_i hg
      cases h
      refine LowOk.quiet rfl fun v hv => ?_
      simp only [lq] at hv
      simp only [iq, lowA_env ha]
      cases hx : la σ a <;> rw [hx] at hv <;> first | (simp [lload1] at hv; done) | skip
      simp only [lload1_eq hg]; exact hv
    · cases h
  · obtain ⟨y, hy, rfl⟩ := oM h
    refine LowOk.quiet rfl fun v hv => ?_
    simp only [lq] at hv
    simp only [iq, lowA_env hy]
    split at hv
    · rename_i e; rw [e]; exact hv
    · rename_i e; rw [e]; exact hv
    · rename_i e; rw [e]; exact hv
    · cases hv
  · obtain ⟨x, hx, h⟩ := oB h
    obtain ⟨y, hy, h⟩ := oB h
    exact ok_bin (lowA_env hx σ) (lowA_env hy σ) h
  · obtain ⟨y, hy, rfl⟩ := oM h
    exact LowOk.quiet rfl fun v hv => by simp only [lq] at hv; simp only [iq, lowA_env hy, Option.bind_some, hv]
  · obtain ⟨x, hx, h⟩ := oB h
    exact ok_conv (lowA_env hx σ) h
  · obtain ⟨x, hx, h⟩ := oB h
    split at h
    · rename_i hi
      cases h
      exact LowOk.quiet rfl fun v hv => by simp only [lq] at hv; simp only [iq, lowA_env hx, Option.bind_some, imakeIface, if_pos hi, hv]
    · cases h
  · obtain ⟨a, ha, h⟩ := oB h
    obtain ⟨b, hb, rfl⟩ := oM h
    exact LowOk.quiet rfl fun v hv => by simp only [lq] at hv; simp only [iq, lowAs_env ha, lowAs_env hb, Option.bind_some, hv]
  · obtain ⟨x, hx, h⟩ := oB h
    obtain ⟨l, hl, h⟩ := oB h
    obtain ⟨hh, hhh, h⟩ := oB h
    obtain ⟨m, hm, h⟩ := oB h
    obtain ⟨k, hk, rfl⟩ := oM h
    exact ok_slice (lowA_env hx σ) (lowO_env hl σ) (lowO_env hhh σ) (lowO_env hm σ) hk
  · obtain ⟨x, hx, h⟩ := oB h
    exact ok_fieldAddr (lowA_env hx σ) h
  · obtain ⟨x, hx, h⟩ := oB h
    exact ok_field (lowA_env hx σ) h
  · obtain ⟨x, hx, h⟩ := oB h
    obtain ⟨i, hi, h⟩ := oB h
    exact ok_indexAddr (lowA_env hx σ) (lowA_env hi σ) h
  · obtain ⟨x, hx, h⟩ := oB h
    obtain ⟨i, hi, h⟩ := oB h
    exact ok_index (lowA_env hx σ) (lowA_env hi σ) h
  · obtain ⟨x, hx, h⟩ := oB h
    obtain ⟨i, hi, h⟩ := oB h
    exact ok_lookup (lowA_env hx σ) (lowA_env hi σ) h
  · obtain ⟨x, hx, h⟩ := oB h
    exact ok_assert (lowA_env hx σ) h
  · obtain ⟨y, hy, rfl⟩ := oM h
    exact LowOk.quiet rfl fun v hv => by simp only [lq] at hv; simp only [iq, lowA_env hy, Option.bind_some, hv]
  · exact ok_build h
  · unfold lowAlloc at h
    obtain ⟨z, hz, h⟩ := oB h
    split at h
    · rename_i hok
      cases h
      simp only [Bool.and_eq_true, Bool.not_eq_true'] at hok
      refine LowOk.eff rfl fun r hr => ⟨rfl, ?_⟩
      simp only [le] at hr
      simp only [ie, hz, Option.bind_some, ibox]
      rw [if_pos hok]; exact hr
    · cases h
  · obtain ⟨x, hx, h⟩ := oB h
    cases h
    exact LowOk.eff rfl fun r hr => ⟨rfl, by simp only [le] at hr; simp only [ie, lowA_env hx, Option.bind_some, hr]⟩
  · exact ok_buildSlice h
  · obtain ⟨a, ha, h⟩ := oB h
    obtain ⟨x, hx, h⟩ := oB h
    obtain ⟨n, hn, rfl⟩ := oM h
    refine LowOk.eff rfl fun r hr => ⟨rfl, ?_⟩
    simp only [le] at hr
    simp only [ie, lowA_env ha, lowA_env hx, Option.bind_some]
    have : ∀ t' p v, szOf P t' = some n → istore P H t' p v = lstore H n p v := by
      intro t' p v hn
      unfold istore lstore
      simp only [hn, Option.bind_some]
      rfl
    rw [this _ _ _ hn]; exact hr
  · cases h
    exact LowOk.eff rfl fun r hr => ⟨rfl, hr⟩
  · obtain ⟨x, hx, h⟩ := oB h
    split at h
    · rename_i hu
      cases h
      refine LowOk.eff rfl fun r hr => ⟨rfl, ?_⟩
      simp only [le] at hr
      simp only [ie, hu, lowA_env hx]
      split at hr
      · rename_i e; rw [e]; exact hr
      · cases hr
    · cases h
  · obtain ⟨l, hl, h⟩ := oB h
    obtain ⟨c, hc, h⟩ := oB h
    exact ok_makeSlice (lowA_env hl σ) (lowA_env hc σ) h
  · obtain ⟨d, hd, h⟩ := oB h
    obtain ⟨k, hk, h⟩ := oB h
    obtain ⟨x, hx, h⟩ := oB h
    obtain ⟨s, rfl, hs⟩ := ok_upd (H := H) h
    refine LowOk.eff rfl fun r hr => ⟨rfl, ?_⟩
    simp only [le] at hr
    simp only [ie, lowA_env hd, lowA_env hk, lowA_env hx, Option.bind_some, hs]; exact hr
  · obtain ⟨d, hd, h⟩ := oB h
    obtain ⟨k, hk, h⟩ := oB h
    obtain ⟨x, hx, h⟩ := oB h
    obtain ⟨s, rfl, hs⟩ := ok_upd (H := H) h
    refine LowOk.eff rfl fun r hr => ⟨rfl, ?_⟩
    simp only [le] at hr
    simp only [ie, lowA_env hd, lowA_env hk, lowA_env hx, Option.bind_some, hs]; exact hr
  · obtain ⟨x, hx, h⟩ := oB h
    obtain ⟨l, hl, rfl⟩ := oM h
    exact ok_len (lowA_env hx σ) hl
  · obtain ⟨x, hx, h⟩ := oB h
    obtain ⟨ys, hys, rfl⟩ := oM h
    exact LowOk.quiet rfl fun v hv => by simp only [lq] at hv; simp only [iq, lowA_env hx, lowAs_env hys, Option.bind_some]; simpa using hv
  · obtain ⟨x, hx, h⟩ := oB h
    obtain ⟨ys, hys, rfl⟩ := oM h
    exact LowOk.quiet rfl fun v hv => by simp only [lq] at hv; simp only [iq, lowA_env hx, lowAs_env hys, Option.bind_some]; simpa using hv
  · obtain ⟨s, hs, h⟩ := oB h
    obtain ⟨x, hx, h⟩ := oB h
    exact ok_app (lowA_env hs σ) (lowA_env hx σ) h
  · obtain ⟨s, hs, h⟩ := oB h
    obtain ⟨x, hx, h⟩ := oB h
    exact ok_copy (lowA_env hs σ) (lowA_env hx σ) h
  · obtain ⟨s, hs, h⟩ := oB h
    exact ok_clear (lowA_env hs σ) h
  · obtain ⟨d, hd, h⟩ := oB h
    obtain ⟨k, hk, h⟩ := oB h
    obtain ⟨s, rfl, hs⟩ := ok_del (H := H) h
    refine LowOk.eff rfl fun r hr => ⟨rfl, ?_⟩
    simp only [le] at hr
    simp only [ie, lowA_env hd, lowA_env hk, Option.bind_some, hs]; exact hr
  · rename_i f args ts
    obtain ⟨as, has, h⟩ := oB h
    obtain ⟨y, hy, h⟩ := oB h
    have hV : lo = .callV y as → LowOk P cal H σ (.call { callee := .value f, args := args, argTypes := ts }) lo := by
      rintro rfl
      refine LowOk.eff rfl fun r hr => ⟨by simp [iq], ?_⟩
      simp only [le] at hr
      simp only [ie, lowA_env hy, lowAs_env has, Option.bind_some]
      split at hr
      · rename_i e
        rw [e]
        split at hr
        · rename_i hc; simp only [hcal _ hc, if_true]; exact hr
        · cases hr
      · cases hr
    split at h
    · rename_i g
      split at h
      · rename_i hc
        cases h
        refine LowOk.eff rfl fun r hr => ⟨by simp [iq], ?_⟩
        simp only [le] at hr
        simp only [ie, lowA_env hy, lowAs_env has, Option.bind_some, la, hc, if_true, List.nil_append, List.append_nil]
        exact hr
      · cases h
    · exact hV (by cases h; rfl)
  · cases h

/-- The whole: what a low operation comes to, the model's does. -/
theorem low_step {P : Program} {cal : FuncId → Bool} (hcal : ∀ g, cal g = true → callable P g = true) {H : Heap} {σ : Sg} {op : Op} {lo : LOp} (h : lowOp P op = some lo) {r : INext × Heap} (hr : lstep cal H σ lo = some r) : istep P H (penv σ) op = some r := by
  obtain ⟨h1, h2⟩ := low_ok (H := H) (σ := σ) hcal h
  unfold lstep at hr
  unfold istep
  split at hr
  · rename_i hE
    obtain ⟨g1, g2⟩ := h2 hE r hr
    rw [g1]; exact g2
  · rename_i hE
    obtain ⟨v, hv, hr⟩ := oB hr
    cases hr
    rw [h1 (by simpa using hE) v hv]
theorem low_quiet {P : Program} {cal : FuncId → Bool} (hcal : ∀ g, cal g = true → callable P g = true) {H : Heap} {σ : Sg} {op : Op} {lo : LOp} (h : lowOp P op = some lo) (hE : isLE lo = false) {v : IV} (hv : lq H σ lo = some v) : iq P H (penv σ) op = some v :=
  (low_ok (H := H) (σ := σ) hcal h).1 hE v hv

/-! ### low code -/
structure LO where
  d : Option Nat
  op : LOp
  g : Option (Nat × Bool)
inductive LC where
  | skip
  | reg (l : List LO)
  | drw (l : List LO) (ps : List (Nat × Nat))
  | seq (a b : LC)
  | cond (c : LArg) (a b : LC)
  | block (id : Nat) (a : LC)
  | loop (a : LC)
  | exit (id : Nat)
  | ret
  | bad
  deriving Inhabited
def lstepV (φ : Oracle) (H : Heap) (r : Option (INext × Heap)) : Option (IV × Heap) := stepV default φ H r
def lopV (cal : FuncId → Bool) (φ : Oracle) (p : LO) (σ : Sg) (H : Heap) : Option (IV × Heap) :=
  match p.g with
  | none => lstepV φ H (lstep cal H σ p.op)
  | some (t, want) => if isB (lk σ t) want then lstepV φ H (lstep cal H σ p.op) else some (.tuple [], H)
def lops (cal : FuncId → Bool) (φ : Oracle) : List LO → Sg → Heap → Option (Sg × Heap)
  | [], σ, H => some (σ, H)
  | p :: ps, σ, H => (lopV cal φ p σ H).bind fun r => lops cal φ ps (pput σ p.d r.1) r.2
structure LRec where
  p : LO
  σ : Sg
  h : Heap
  v : IV
  h' : Heap
def ltrace (cal : FuncId → Bool) (φ : Oracle) : List LO → Sg → Heap → Option (List LRec × Sg × Heap)
  | [], σ, H => some ([], σ, H)
  | p :: ps, σ, H => (lopV cal φ p σ H).bind fun r => (ltrace cal φ ps (pput σ p.d r.1) r.2).bind fun q => some (⟨p, σ, H, r.1, r.2⟩ :: q.1, q.2)
def lwanted (p : LO) (σ : Sg) : Bool := match p.g with
  | none => true
  | some (t, want) => isB (lk σ t) want
def llooseOk (recs : List LRec) (ij : Nat × Nat) : Bool :=
  match recs[ij.1]?, recs[ij.2]? with
  | some r, some s => !(lwanted r.p r.σ) || (!(isLE r.p.op) && ivo (lq s.h r.σ r.p.op) r.v && ivo (lq s.h' r.σ r.p.op) r.v)
  | _, _ => false
def ldraw (cal : FuncId → Bool) (φ : Oracle) (l : List LO) (ps : List (Nat × Nat)) (σ : Sg) (H : Heap) : Option (Sg × Heap) :=
  match ps with
  | [] => lops cal φ l σ H
  | p :: ps => (ltrace cal φ l σ H).bind fun q => if (p :: ps).all (llooseOk q.1) then some q.2 else none
def lexec (cal : FuncId → Bool) (φ : Oracle) (n : Nat) : LC → PBody
  | .skip, σ, H => some (.normal, σ, H)
  | .reg l, σ, H => (lops cal φ l σ H).bind fun r => some (.normal, r.1, r.2)
  | .drw l ps, σ, H => (ldraw cal φ l ps σ H).bind fun r => some (.normal, r.1, r.2)
  | .seq a b, σ, H => (lexec cal φ n a σ H).bind fun r => match r with
    | (.normal, σ', H') => lexec cal φ n b σ' H'
    | r => some r
  | .cond c a b, σ, H => match la σ c with
    | .bool true => lexec cal φ n a σ H
    | .bool false => lexec cal φ n b σ H
    | _ => none
  | .block id a, σ, H => (lexec cal φ n a σ H).bind fun r => match r with
    | (.exit id', σ', H') => if id' = id then some (.normal, σ', H') else some (.exit id', σ', H')
    | r => some r
  | .loop a, σ, H => piter (lexec cal φ n a) n σ H
  | .exit id, σ, H => some (.exit id, σ, H)
  | .ret, σ, H => some (.ret, σ, H)
  | .bad, _, _ => none

def lowP (P : Program) (p : POp) : LO := ⟨p.d, (lowOp P p.op).getD .bad, p.g⟩
def lowC (P : Program) : PC → LC
  | .skip => .skip
  | .reg l => .reg (l.map (lowP P))
  | .drw l ps => .drw (l.map (lowP P)) ps
  | .seq a b => .seq (lowC P a) (lowC P b)
  | .cond c a b => match lowA c with
    | some y => .cond y (lowC P a) (lowC P b)
    | none => .bad
  | .block id a => .block id (lowC P a)
  | .loop a => .loop (lowC P a)
  | .exit id => .exit id
  | .ret => .ret

section
variable {P : Program} {cal : FuncId → Bool} {φ : Oracle} (hcal : ∀ g, cal g = true → callable P g = true)
include hcal
theorem lowP_opV (p : POp) (σ : Sg) (H : Heap) : LeF (lopV cal φ (lowP P p) σ H) (popV P φ p σ H) := by
  have key : LeF (lstepV φ H (lstep cal H σ (lowP P p).op)) (stepV P φ H (istep P H (penv σ) p.op)) := by
    intro r hr
    cases hl : lowOp P p.op with
    | none =>
      simp only [lowP, hl, Option.getD_none, lstep, isLE, lq, lstepV, stepV] at hr
      cases hr
    | some lo =>
      simp only [lowP, hl, Option.getD_some] at hr
      cases hs : lstep cal H σ lo with
      | none => simp only [hs, lstepV, stepV] at hr; cases hr
      | some q =>
        rw [low_step hcal hl hs]
        rw [hs] at hr; exact hr
  unfold lopV popV
  simp only [show (lowP P p).g = p.g from rfl]
  cases p.g with
  | none => exact key
  | some q =>
    obtain ⟨t, want⟩ := q
    simp only
    split
    · exact key
    · exact LeF.refl _
theorem lowP_ops : ∀ (l : List POp) (σ : Sg) (H : Heap), LeF (lops cal φ (l.map (lowP P)) σ H) (pops P φ l σ H)
  | [], σ, H => LeF.refl _
  | p :: ps, σ, H => (lowP_opV hcal p σ H).bind fun r => lowP_ops ps _ _
def upRec (P : Program) (p : POp) (r : LRec) : PRec := ⟨p, r.σ, r.h, r.v, r.h'⟩
omit hcal in
theorem zipWith_get {α β γ : Type} (f : α → β → γ) {l : List α} {k : List β} {i : Nat} {x : α} {y : β} (h1 : l[i]? = some x) (h2 : k[i]? = some y) : (List.zipWith f l k)[i]? = some (f x y) := by
  simp [List.getElem?_zipWith, h1, h2]
theorem lowP_trace : ∀ (l : List POp) (σ : Sg) (H : Heap) {q : List LRec × Sg × Heap}, ltrace cal φ (l.map (lowP P)) σ H = some q → ptrace P φ l σ H = some (List.zipWith (upRec P) l q.1, q.2) ∧ q.1.length = l.length ∧ q.1.map (·.p) = l.map (lowP P)
  | [], σ, H, q, h => by simp only [List.map_nil, ltrace] at h; cases h; exact ⟨rfl, rfl, rfl⟩
  | p :: ps, σ, H, q, h => by
    simp only [List.map_cons, ltrace] at h
    obtain ⟨r, h1, h⟩ := oB h
    obtain ⟨q', h2, h⟩ := oB h
    cases h
    obtain ⟨g1, g2, g3⟩ := lowP_trace ps _ _ h2
    have h1' := lowP_opV hcal p σ H r h1
    refine ⟨?_, by simp [g2], by simp [g3]⟩
    simp only [ptrace, h1', Option.bind_some]
    rw [show pput σ p.d r.1 = pput σ (lowP P p).d r.1 from rfl, g1]
    rfl
theorem lowP_draw (l : List POp) (ps : List (Nat × Nat)) (σ : Sg) (H : Heap) : LeF (ldraw cal φ (l.map (lowP P)) ps σ H) (pdraw P φ l ps σ H) := by
  unfold ldraw pdraw
  cases ps with
  | nil => exact lowP_ops hcal l σ H
  | cons p ps =>
    intro r hr
    obtain ⟨q, h1, h2⟩ := oB hr
    obtain ⟨g1, g2, g3⟩ := lowP_trace hcal l σ H h1
    rw [g1]
    split at h2
    · rename_i hall
      cases h2
      simp only [Option.bind_some]
      rw [if_pos]
      rw [List.all_eq_true] at hall ⊢
      intro ij hij
      have := hall ij hij
      unfold llooseOk at this
      split at this
      · rename_i r s hr1 hs1
        have hi : ij.1 < l.length := by rw [← g2]; exact (List.getElem?_eq_some_iff.1 hr1).1
        have hj : ij.2 < l.length := by rw [← g2]; exact (List.getElem?_eq_some_iff.1 hs1).1
        have hpi : r.p = lowP P l[ij.1] := by
          have : (q.1.map (·.p))[ij.1]? = some r.p := by simp [hr1]
          rw [g3] at this; simp [hi] at this; exact this.symm
        unfold plooseOk
        rw [zipWith_get _ (List.getElem?_eq_getElem hi) hr1, zipWith_get _ (List.getElem?_eq_getElem hj) hs1]
        simp only [upRec]
        simp only [Bool.or_eq_true, Bool.and_eq_true, Bool.not_eq_true'] at this ⊢
        rcases this with hw | ⟨⟨hE, ha⟩, hb⟩
        · left; rw [hpi] at hw; exact hw
        · right
          cases hl : lowOp P l[ij.1].op with
          | none =>
            have hbad : r.p.op = .bad := by rw [hpi]; simp [lowP, hl]
            rw [hbad] at ha; simp [lq, ivo] at ha
          | some lo =>
            have hlo : r.p.op = lo := by rw [hpi]; simp [lowP, hl]
            rw [hlo] at hE ha hb
            exact ⟨by rw [low_quiet hcal hl hE (ivo_eq ha)]; exact ivo_refl _, by rw [low_quiet hcal hl hE (ivo_eq hb)]; exact ivo_refl _⟩
      · cases this
    · cases h2
omit hcal in
theorem piter_le {f g : PBody} (h : ∀ σ H, LeF (f σ H) (g σ H)) (k : Nat) : ∀ σ H, LeF (piter f k σ H) (piter g k σ H) := piter_mono h k k (Nat.le_refl k)
theorem low_exec {n : Nat} : ∀ (c : PC) (σ : Sg) (H : Heap), LeF (lexec cal φ n (lowC P c) σ H) (pexec P φ n c σ H) := by
  intro c
  induction c with
  | skip => intro σ H; exact LeF.refl _
  | reg l => intro σ H; exact (lowP_ops hcal l σ H).bind fun _ => LeF.refl _
  | drw l ps => intro σ H; exact (lowP_draw hcal l ps σ H).bind fun _ => LeF.refl _
  | seq a b iha ihb =>
    intro σ H
    refine (iha σ H).bind fun r => ?_
    obtain ⟨x, σ', H'⟩ := r
    cases x with
    | normal => exact ihb σ' H'
    | exit id => exact LeF.refl _
    | ret => exact LeF.refl _
  | cond c a b iha ihb =>
    intro σ H
    simp only [lowC]
    cases hc : lowA c with
    | none => intro r hr; cases hr
    | some y =>
      simp only [lexec, pexec, lowA_env hc]
      cases la σ y with
      | bool t => cases t; exact ihb σ H; exact iha σ H
      | _ => exact fun r hr => by cases hr
  | block id a ih => intro σ H; exact (ih σ H).bind fun r => LeF.refl _
  | loop a ih => intro σ H; exact piter_le ih n σ H
  | exit id => intro σ H; exact LeF.refl _
  | ret => intro σ H; exact LeF.refl _
end
end Go.Shade
