/- SHADE, part 19: whole functions: the ideal interpreter, and that it tells what the model's calls do. -/
import Derived.Test.YtdljmmdbpngchaaShadeDraw5
import Derived.Scope
namespace Go.Shade
open Go.RowKit
set_option linter.unusedSimpArgs false
set_option linter.unusedVariables false

inductive IX where
  | normal
  | exit (id : Nat)
  | ret
abbrev St := List IV × Heap
def iter (body : List IV → Heap → Option (IX × List IV × Heap)) : Nat → List IV → Heap → Option (IX × List IV × Heap)
  | 0, _, _ => none
  | k + 1, ts, H => (body ts H).bind fun r => match r with
    | (.normal, ts', H') => iter body k ts' H'
    | r => some r
def iexec (P : Program) (φ : Oracle) (n : Nat) : Code → List IV → Heap → Option (IX × List IV × Heap)
  | .skip, ts, H => some (.normal, ts, H)
  | .label _, ts, H => some (.normal, ts, H)
  | .region _ ops false, ts, H => (iops P φ ops ops.toList ts H).bind fun r => some (.normal, r.1, r.2)
  | .region _ ops true, ts, H => (idraw P φ ops ts H).bind fun r => some (.normal, r.1, r.2)
  | .seq a b, ts, H => (iexec P φ n a ts H).bind fun r => match r with
    | (.normal, ts', H') => iexec P φ n b ts' H'
    | r => some r
  | .cond c a b, ts, H => match env ts c with
    | some (.bool true) => iexec P φ n a ts H
    | some (.bool false) => iexec P φ n b ts H
    | _ => none
  | .block id a, ts, H => (iexec P φ n a ts H).bind fun r => match r with
    | (.exit id', ts', H') => if id' = id then some (.normal, ts', H') else some (.exit id', ts', H')
    | r => some r
  | .loop a, ts, H => iter (iexec P φ n a) n ts H
  | .exit id, ts, H => some (.exit id, ts, H)
  | .ret, ts, H => some (.ret, ts, H)
  | .scope a, ts, H => iexec P φ n a ts H
  | _, _, _ => none

def IX.to : IX → Exit
  | .normal => .normal
  | .exit id => .exit id
  | .ret => .ret

def Post (B0 : Nat) (w0 : World) (m : Mp) (x : IX) (ts : List IV) (H : Heap) (Q : Exit → Act → World → Prop) : Prop :=
  ∀ m' a' w', Ext m m' → Rel B0 w0 m' H w' → TR m' ts a' → Q x.to a' w'

theorem wp_iexec {P : Program} {φ : Oracle} (hφ : Sound P φ) (hm : P.follows .mixedOrders = true) (n : Nat) {B0 : Nat} {w0 : World} : ∀ (c : Code) (ts : List IV) (H : Heap) (x : IX) (ts' : List IV) (H' : Heap), iexec P φ n c ts H = some (x, ts', H') →
    ∀ (m : Mp) (a : Act) (w : World) (Q : Exit → Act → World → Prop), Rel B0 w0 m H w → TR m ts a → Post B0 w0 m x ts' H' Q → c.wp P Q a w := by
  intro c
  induction c with
  | skip =>
    intro ts H x ts' H' e m a w Q hR hT hQ
    simp only [iexec] at e; cases e
    exact wp_skip (hQ m a w (Ext.refl m) hR hT)
  | label l =>
    intro ts H x ts' H' e m a w Q hR hT hQ
    simp only [iexec] at e; cases e
    exact wp_label (hQ m a w (Ext.refl m) hR hT)
  | region id ops draw =>
    intro ts H x ts' H' e m a w Q hR hT hQ
    cases draw with
    | false =>
      simp only [iexec] at e
      obtain ⟨r, h1, h2⟩ := Option.bind_eq_some_iff.1 e
      cases h2
      exact wp_iregion hφ h1 hR hT (fun m' a' w' g1 g2 g3 => hQ m' a' w' g1 g2 g3)
    | true =>
      simp only [iexec] at e
      obtain ⟨r, h1, h2⟩ := Option.bind_eq_some_iff.1 e
      cases h2
      exact wp_idraw hφ hm h1 hR hT (fun m' a' w' g1 g2 g3 => hQ m' a' w' g1 g2 g3)
  | seq c d ihc ihd =>
    intro ts H x ts' H' e m a w Q hR hT hQ
    simp only [iexec] at e
    obtain ⟨⟨x1, ts1, H1⟩, h1, h2⟩ := Option.bind_eq_some_iff.1 e
    refine wp_seq (ihc ts H x1 ts1 H1 h1 m a w _ hR hT ?_)
    intro m' a' w' g1 g2 g3
    cases x1 with
    | normal => exact ihd ts1 H1 x ts' H' h2 m' a' w' Q g2 g3 (fun m2 a2 w2 k1 k2 k3 => hQ m2 a2 w2 (g1.trans k1) k2 k3)
    | exit id => simp only at h2; cases h2; exact hQ m' a' w' g1 g2 g3
    | ret => simp only at h2; cases h2; exact hQ m' a' w' g1 g2 g3
  | cond c x1 x2 ih1 ih2 =>
    intro ts H x ts' H' e m a w Q hR hT hQ
    simp only [iexec] at e
    split at e
    · rename_i hc
      have := hT.env _ _ hc; simp only [VR] at this
      exact wp_cond_true this (ih1 ts H x ts' H' e m a w Q hR hT hQ)
    · rename_i hc
      have := hT.env _ _ hc; simp only [VR] at this
      exact wp_cond_false this (ih2 ts H x ts' H' e m a w Q hR hT hQ)
    · cases e
  | block id c ih =>
    intro ts H x ts' H' e m a w Q hR hT hQ
    simp only [iexec] at e
    obtain ⟨⟨x1, ts1, H1⟩, h1, h2⟩ := Option.bind_eq_some_iff.1 e
    refine wp_block (ih ts H x1 ts1 H1 h1 m a w _ hR hT ?_)
    intro m' a' w' g1 g2 g3
    cases x1 with
    | normal => simp only at h2; cases h2; exact hQ m' a' w' g1 g2 g3
    | exit id' =>
      simp only at h2
      simp only [IX.to, Exit.inBlock]
      split at h2
      · rename_i hid; cases h2; rw [if_pos hid]; exact hQ m' a' w' g1 g2 g3
      · rename_i hid; cases h2; rw [if_neg hid]; exact hQ m' a' w' g1 g2 g3
    | ret => simp only at h2; cases h2; exact hQ m' a' w' g1 g2 g3
  | loop c ih =>
    intro ts H x ts' H' e m a w Q hR hT hQ
    simp only [iexec] at e
    have key : ∀ (k : Nat) (ts : List IV) (H : Heap) (m : Mp) (a : Act) (w : World), iter (iexec P φ n c) k ts H = some (x, ts', H') → Rel B0 w0 m H w → TR m ts a → Post B0 w0 m x ts' H' Q → Code.rounds P c Q k a w := by
      intro k
      induction k with
      | zero => intro ts H m a w e; simp [iter] at e
      | succ k ihk =>
        intro ts H m a w e hR hT hQ
        simp only [iter] at e
        obtain ⟨⟨x1, ts1, H1⟩, h1, h2⟩ := Option.bind_eq_some_iff.1 e
        rw [rounds_succ]
        refine ih ts H x1 ts1 H1 h1 m a w _ hR hT ?_
        intro m' a' w' g1 g2 g3
        cases x1 with
        | normal => exact ihk ts1 H1 m' a' w' h2 g2 g3 (fun m2 a2 w2 k1 k2 k3 => hQ m2 a2 w2 (g1.trans k1) k2 k3)
        | exit id => simp only at h2; cases h2; exact hQ m' a' w' g1 g2 g3
        | ret => simp only at h2; cases h2; exact hQ m' a' w' g1 g2 g3
    exact wp_loop_rounds n (key n ts H m a w e hR hT hQ)
  | exit id =>
    intro ts H x ts' H' e m a w Q hR hT hQ
    simp only [iexec] at e; cases e
    exact wp_exit (hQ m a w (Ext.refl m) hR hT)
  | ret =>
    intro ts H x ts' H' e m a w Q hR hT hQ
    simp only [iexec] at e; cases e
    exact wp_ret (hQ m a w (Ext.refl m) hR hT)
  | scope c ih =>
    intro ts H x ts' H' e m a w Q hR hT hQ
    simp only [iexec] at e
    exact wp_scope_straight (ih ts H x ts' H' e m a w _ hR hT (fun m' a' w' g1 g2 g3 => by have := hQ m' a' w' g1 g2 g3; cases x <;> exact this))
  | rangeFunc f ps as body _ _ => intro ts H x ts' H' e; simp [iexec] at e
  | goto l => intro ts H x ts' H' e; simp [iexec] at e
  | refuse why => intro ts H x ts' H' e; simp [iexec] at e

/-! ### functions -/
def iresult (P : Program) (ts : List IV) (H : Heap) : ResultVar → Option IV
  | .tmp t => some (ts.getD t (.tuple []))
  | .cell a t => match ts.getD a (.tuple []) with
    | .ptr b o => iload P t H b o
    | _ => none
def iresults (P : Program) (ts : List IV) (H : Heap) : List ResultVar → Option (List IV)
  | [] => some []
  | r :: rs => (iresult P ts H r).bind fun v => (iresults P ts H rs).bind fun vs => some (v :: vs)
def pack : List IV → IV
  | [v] => v
  | vs => .tuple vs
theorem run_iresult {P : Program} {B0 : Nat} {w0 w : World} {m : Mp} {H : Heap} (hR : Rel B0 w0 m H w) {ts : List IV} {a : Act} (hT : TR m ts a) {r : ResultVar} {v : IV} (e : iresult P ts H r = some v) :
    ∃ u, ((match r with | .tmp t => pure (a.tmps.getD t undef) | .cell x t => do loadVar t (← asAddr (a.tmps.getD x undef)) : Sem Value)).run P w = .ok u w ∧ VR m v u := by
  cases r with
  | tmp t =>
    simp only [iresult] at e; cases e
    exact ⟨_, rfl, hT.env (.tmp t) _ rfl⟩
  | cell x t =>
    simp only [iresult] at e
    split at e
    · rename_i b o hx
      have := hT.env (.tmp x) (.ptr b o) (by simp only [env, hx])
      simp only [VR, Act.eval] at this
      obtain ⟨l, hl, hv⟩ := this
      obtain ⟨u, h1, h2⟩ := run_iload (P := P) hR e hl
      exact ⟨u, by simp only [hv, asAddr, Sem.run_bind, Sem.run_pure, Result.andThen_ok]; exact h1, h2⟩
    · cases e
theorem run_iresults {P : Program} {B0 : Nat} {w0 w : World} {m : Mp} {H : Heap} (hR : Rel B0 w0 m H w) {ts : List IV} {a : Act} (hT : TR m ts a) : ∀ {rs : List ResultVar} {vs : List IV}, iresults P ts H rs = some vs →
    ∃ us, (rs.mapM fun r => (match r with | .tmp t => pure (a.tmps.getD t undef) | .cell x t => do loadVar t (← asAddr (a.tmps.getD x undef)) : Sem Value)).run P w = .ok us w ∧ VRs m vs us
  | [], vs, e => by simp only [iresults] at e; cases e; exact ⟨[], by simp, VRs.nil m⟩
  | r :: rs, vs, e => by
    simp only [iresults] at e
    obtain ⟨v, h1, e⟩ := Option.bind_eq_some_iff.1 e
    obtain ⟨vs', h2, e⟩ := Option.bind_eq_some_iff.1 e
    cases e
    obtain ⟨u, g1, g2⟩ := run_iresult hR hT h1
    obtain ⟨us, g3, g4⟩ := run_iresults hR hT h2
    refine ⟨u :: us, ?_, VRs.cons g2 g4⟩
    rw [List.mapM_cons, Sem.run_bind, g1, Result.andThen_ok, Sem.run_bind, g3]
    rfl
theorem run_results {P : Program} {B0 : Nat} {w0 w : World} {m : Mp} {H : Heap} (hR : Rel B0 w0 m H w) {ts : List IV} {a : Act} (hT : TR m ts a) {fn : Func} {vs : List IV} (e : iresults P ts H fn.results.toList = some vs) :
    ∃ u, (results fn a.tmps).run P w = .ok u w ∧ VR m (pack vs) u := by
  obtain ⟨us, h1, h2⟩ := run_iresults hR hT e
  have hrun : ∀ f : Array Value → Sem Value, ((fn.results.mapM fun r => (match r with | .tmp t => pure (a.tmps.getD t undef) | .cell x t => do loadVar t (← asAddr (a.tmps.getD x undef)) : Sem Value)) >>= f).run P w = (f us.toArray).run P w := by
    intro f
    rw [Array.mapM_eq_mapM_toList, Sem.run_bind, Sem.run_map, h1]
    rfl
  refine ⟨if h : us.toArray.size = 1 then us.toArray[0] else .tuple us.toArray, ?_, ?_⟩
  · unfold results
    exact hrun (fun vs => pure (if h : vs.size = 1 then vs[0] else .tuple vs))
  · cases vs with
    | nil => simp only [VRs] at h2; subst h2; simp only [pack, VR]; exact ⟨#[], rfl, VRs.nil m⟩
    | cons v vs =>
      simp only [VRs] at h2
      obtain ⟨u, us', rfl, g1, g2⟩ := h2
      cases vs with
      | nil => simp only [VRs] at g2; subst g2; simpa [pack] using g1
      | cons v2 vs2 =>
        have hl := g2.length
        have hne : ¬ (u :: us').toArray.size = 1 := by simp; intro e; subst e; simp at hl
        rw [dif_neg hne]
        simp only [pack, VR]
        exact ⟨_, rfl, VRs.cons g1 g2⟩

abbrev Table := FuncId → Option (List IV → Heap → Option (IV × Heap))
def SoundT (P : Program) (T : Table) : Prop := ∀ f g, T f = some g → ∀ args H r H', g args H = some (r, H') → SimCall P f args H r H'
def ibody (P : Program) (φ : Oracle) (n : Nat) (fn : Func) (args : List IV) (H : Heap) : Option (IV × Heap) :=
  match fn.body with
  | some c => (iexec P φ n c (args ++ List.replicate (fn.ntmps - args.length) (.tuple [])) H).bind fun r => match r with
    | (.exit _, _, _) => none
    | (_, ts, H') => (iresults P ts H' fn.results.toList).bind fun vs => some (pack vs, H')
  | none => none
def icall (P : Program) (T : Table) : Nat → Oracle
  | 0, _, _, _ => none
  | n + 1, f, args, H => match T f with
    | some g => g args H
    | none => match P.funcs[f]? with
      | some fn => ibody P (icall P T n) n fn args H
      | none => none

theorem sound_body {P : Program} {φ : Oracle} (hφ : Sound P φ) (hm : P.follows .mixedOrders = true) {n : Nat} {f : FuncId} {fn : Func} (hf : P.funcs[f]? = some fn) {args : List IV} {H H' : Heap} {r : IV} (e : ibody P φ n fn args H = some (r, H')) :
    SimCall P f args H r H' := by
  intro B0 w0 w m us hR hA
  unfold ibody at e
  split at e
  · rename_i c hc
    obtain ⟨⟨x, ts, H1⟩, h1, e⟩ := Option.bind_eq_some_iff.1 e
    have hl := hA.length
    simp only [Array.length_toList] at hl
    have hT : TR m (args ++ List.replicate (fn.ntmps - args.length) (.tuple [])) { tmps := us ++ Array.replicate (fn.ntmps - us.size) undef, defers := [] } := by
      refine ⟨?_, rfl⟩
      simp only [Array.toList_append, Array.toList_replicate]
      rw [hl]
      exact hA.append (VRs.replicate (VR_unit m) _)
    refine calls_of_wp hf hc (wp_iexec hφ hm n c _ H x ts H1 h1 m _ w _ hR hT ?_)
    intro m' a' w' g1 g2 g3
    have fin : ∀ vs, iresults P ts H1 fn.results.toList = some vs → r = pack vs → H' = H1 → a'.defers = [] ∧ ∃ v, (results fn a'.tmps).run P w' = .ok v w' ∧ ∃ m' u, Ending.returned v = .returned u ∧ Ext m m' ∧ Rel B0 w0 m' H' w' ∧ VR m' r u := by
      rintro vs hvs rfl rfl
      obtain ⟨u, k1, k2⟩ := run_results (P := P) g2 g3 hvs
      exact ⟨g3.2, u, k1, m', u, rfl, g1, g2, k2⟩
    cases x with
    | normal =>
      simp only at e
      obtain ⟨vs, hvs, e⟩ := Option.bind_eq_some_iff.1 e
      cases e
      exact fin vs hvs rfl rfl
    | ret =>
      simp only at e
      obtain ⟨vs, hvs, e⟩ := Option.bind_eq_some_iff.1 e
      cases e
      exact fin vs hvs rfl rfl
    | exit id => cases e
  · cases e
theorem sound_icall {P : Program} {T : Table} (hT : SoundT P T) (hm : P.follows .mixedOrders = true) : ∀ n, Sound P (icall P T n)
  | 0 => fun f args H r H' e => by simp [icall] at e
  | n + 1 => fun f args H r H' e => by
    simp only [icall] at e
    split at e
    · rename_i g hg; exact hT f g hg args H r H' e
    · split at e
      · rename_i fn hf; exact sound_body (sound_icall hT hm n) hm hf e
      · cases e
end Go.Shade
