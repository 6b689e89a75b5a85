/- SHADE, part 11: copy, clear, maps, bytes of a text, calls; then all operations with an effect, in one. -/
import Derived.Test.YtdljmmdbpngchaaShadeApp
namespace Go.Shade
open Go.RowKit
set_option linter.unusedSimpArgs false
set_option linter.unusedVariables false

/-! ### copy and clear -/
def icopy (P : Program) (H : Heap) (t : TypeId) (d x : IV) : Option (INext × Heap) :=
  match P.underlying t with
  | some (.slice e) => (szOf P e).bind fun sz => (xlen x).bind fun nx => (xlen d).bind fun nd =>
    match d with
    | .str _ => none
    | .nilSlice => some (.val (.int .i64 0), H)
    | .slice b o _ lb _ _ =>
      if min nx nd = 0 then some (.val (.int .i64 0), H) else
      (xcells P H e x (min nx nd)).bind fun new =>
      match H[b]? with
      | some (.row cs false) => if new.all IV.one = true ∧ o + new.length ≤ cs.length ∧ 0 < lb then some (.val (.int .i64 (min nx nd : Nat)), H.set b (.row (putAt cs o new) false)) else none
      | _ => none
    | _ => none
  | _ => none
theorem xcells_zero {P : Program} {m : Mp} {x : IV} {v : Value} {n : Nat} (hx : VR m x v) (h : xlen x = some n) (s : Nat) (w : World) : (Builtin.firstCells s 0 v).run P w = .ok #[] w := by
  unfold xlen at h
  split at h
  · simp only [VR] at hx; subst hx; simp [Builtin.firstCells, extract_mk]
  · simp only [VR] at hx; subst hx; rfl
  · simp only [VR] at hx; obtain ⟨l, o1, c, sp, _, rfl, _⟩ := hx; simp [Builtin.firstCells, loadCells, loadCellsFrom]
  · cases h
theorem run_icopy {P : Program} {B0 : Nat} {w0 w : World} {m : Mp} {H : Heap} (h : Rel B0 w0 m H w) {t xT ty : TypeId} {d x : IV} {vd vx : Value} (hd : VR m d vd) (hx : VR m x vx) {r : INext × Heap}
    (e : icopy P H t d x = some r) : OkTo P B0 w0 m w (do pure (.value (← Builtin.copy_ #[t, xT] ty #[vd, vx]))) r := by
  unfold icopy at e
  split at e
  · rename_i et hund
    replace e := Option.bind_eq_some_iff.1 e
    obtain ⟨sz, hsz, e⟩ := e
    replace e := Option.bind_eq_some_iff.1 e
    obtain ⟨nx, hnx, e⟩ := e
    replace e := Option.bind_eq_some_iff.1 e
    obtain ⟨nd, hnd, e⟩ := e
    have hlen := run_xlen (P := P) hx hnx w
    have pre : ∀ (base : Option Addr) (c : Nat) (us : Array Value), (Builtin.firstCells sz (min nx nd) vx).run P w = .ok us w →
        (Builtin.copy_ #[t, xT] ty #[.slice base nd c, vx]).run P w = ((match base with | some a => storeCells a us.toList | none => pure () : Sem Unit).run P w).andThen fun _ w' => .ok (goInt ((min nx nd : Nat) : Int)) w' := by
      intro base c us hus
      simp only [Builtin.copy_]
      simp only [List.getElem?_toArray, List.getElem?_cons_zero, List.getElem?_cons_succ, Sem.run_bind, run_underlying hund, Result.andThen_ok, hlen, run_size hsz]
      have : (Builtin.firstCells sz (Nat.min nx nd) vx).run P w = .ok us w := hus
      rw [this]
      cases base with
      | none => rfl
      | some a => simp only [Result.andThen_ok, Sem.run_bind]; rfl
    split at e
    · cases e
    · cases e
      simp only [xlen] at hnd; cases hnd
      simp only [VR] at hd; subst hd
      have hz := xcells_zero (P := P) hx hnx sz w
      refine ⟨m, w, .int .i64 0, ?_, Ext.refl m, h, VR_int m _ _⟩
      rw [vv]
      rw [pre none 0 #[] (by simpa using hz)]
      simp [goInt]
    · rename_i b o len lb ex sz'
      simp only [xlen] at hnd; cases hnd
      simp only [VR] at hd
      obtain ⟨l, o1, c, sp, hl, rfl, h1, h2, h3, h4, h5⟩ := hd
      split at e
      · rename_i h0
        cases e
        have hz := xcells_zero (P := P) hx hnx sz w
        refine ⟨m, w, .int .i64 0, ?_, Ext.refl m, h, VR_int m _ _⟩
        rw [vv]
        rw [pre _ c #[] (by rw [h0]; exact hz), h0]
        simp [goInt, storeCells]
      · replace e := Option.bind_eq_some_iff.1 e
        obtain ⟨new, hnew, e⟩ := e
        obtain ⟨nus, hnV, hnrun⟩ := run_xcells (P := P) h hsz hx hnew
        split at e
        · rename_i cs hb
          split at e
          · rename_i hc
            cases e
            obtain ⟨c1, c2, c3⟩ := hc
            obtain ⟨ho1, hsp⟩ := h4 c3
            subst ho1; subst hsp
            obtain ⟨g1, g2⟩ := h.put hb hl hnV c1 c2
            refine ⟨m, _, .int .i64 (min nx nd : Nat), ?_, Ext.refl m, g2, VR_int m _ _⟩
            rw [vv]
            rw [pre _ c nus.toArray hnrun]
            simp only [List.toList_toArray, g1 P, Result.andThen_ok]
            rfl
          · cases e
        · cases e
    · cases e
  · cases e

def iclear (P : Program) (H : Heap) (t : TypeId) (d : IV) : Option (INext × Heap) :=
  match P.underlying t, d with
  | some _, .nilMap => some (.val (.tuple []), H)
  | some _, .nilSlice => some (.val (.tuple []), H)
  | some _, .map r => match H[r]? with
    | some (.map _ clock) => some (.val (.tuple []), H.set r (.map [] clock))
    | _ => none
  | some (.slice e), .slice b o n lb _ _ =>
    if n = 0 then some (.val (.tuple []), H) else
    (zeroOf P e).bind fun z => match H[b]? with
    | some (.row cs false) => if isTuple z = false ∧ z.cells.all IV.one = true ∧ o + (zrep n z.cells).length ≤ cs.length then some (.val (.tuple []), H.set b (.row (putAt cs o (zrep n z.cells)) false)) else none
    | _ => none
  | _, _ => none

theorem run_getMap {P : Program} {w : World} {b clock : Nat} {es : Array MapEntry} (hb : w.heap[b]? = some (.map es clock)) : (getObj b).run P w = .ok (.map es clock) w := by
  simp [getObj, Sem.run, hb]
theorem run_setMap {P : Program} {w : World} {b clock : Nat} {es : Array MapEntry} (hb : w.heap[b]? = some (.map es clock)) (o : Obj) : (setObj b o).run P w = .ok () { w with heap := w.heap.setIfInBounds b o } := by
  simp [setObj, Sem.run, hb]

/-- A map is put in another's place. -/
theorem Rel.putMap {B0 : Nat} {w0 w : World} {m : Mp} {H : Heap} (h : Rel B0 w0 m H w) {r : Nat} {es : List (IV × IV × Nat)} {clock : Nat} (hr : H[r]? = some (.map es clock)) {l : Loc} (hl : m r = some l)
    (es2 : List (IV × IV × Nat)) (es2' : Array MapEntry) (clock2 : Nat) (hlen : es2.length = es2'.size) (hrel : ∀ (j : Nat) x, es2[j]? = some x → ∃ e, es2'[j]? = some e ∧ ERel m x e) :
    Rel B0 w0 m (H.set r (.map es2 clock2)) { w with heap := w.heap.setIfInBounds l.cb (.map es2' clock2) } := by
  obtain ⟨l', es', g1, g2, g3, g4, g5⟩ := h.good r _ hr
  rw [hl] at g1; cases g1
  have hlt : l.cb < w.heap.size := (Array.getElem?_eq_some_iff.1 g2).1
  have far : ∀ k, k ≠ l.cb → ({ w with heap := w.heap.setIfInBounds l.cb (.map es2' clock2) } : World).heap[k]? = w.heap[k]? := by
    intro k hk; simp [Array.getElem?_setIfInBounds, Ne.symm hk]
  have held_of : ∀ {a : Nat} {p : IObj}, (H.set r (IObj.map es2 clock2))[a]? = some p → ∃ p', H[a]? = some p' ∧ (p.held = true → p'.held = true) := by
    intro a p ha
    rw [List.getElem?_set] at ha
    by_cases e : r = a
    · subst e; exact ⟨_, hr, fun _ => rfl⟩
    · rw [if_neg e] at ha; exact ⟨p, ha, id⟩
  refine ⟨⟨h.below.os, h.below.tape, h.below.output, by simpa using h.below.size, fun k hk => ?_⟩, by simpa using h.base, fun k q hq => by simpa using h.dom k q hq, fun k q hk => ?_, fun a b p q la lb ha hb hp hq hne hma hmb => ?_⟩
  · rw [far k (by omega)]; exact h.below.block k hk
  · rw [List.getElem?_set] at hk
    by_cases e : r = k
    · subst e
      have hrl : r < H.length := (List.getElem?_eq_some_iff.1 hr).1
      simp [hrl] at hk; subst hk
      exact ⟨l, es2', hl, by simp [hlt], g3, hlen, hrel⟩
    · rw [if_neg e] at hk
      have hgk := h.good k q hk
      by_cases hd : q.held = true
      · exact hgk.move (Ext.refl _) (fun lk hlk _ => far _ (h.inj k r q _ lk l hk hr hd rfl (Ne.symm e) hlk hl))
      · cases q with
        | dead => trivial
        | map es c => simp [IObj.held] at hd
        | row cs' ro =>
          cases ro with
          | false => simp [IObj.held] at hd
          | true =>
            exact hgk.ro_move (Ext.refl _) (fun lk hlk hlt' _ => far _ (by omega))
  · obtain ⟨p', ha', hp'⟩ := held_of ha
    obtain ⟨q', hb', hq'⟩ := held_of hb
    exact h.inj a b p' q' la lb ha' hb' (hp' hp) (hq' hq) hne hma hmb

theorem zeroCells_mcells (zs : Array Value) (n : Nat) : Builtin.zeroCells zs n = mcells zs (n * zs.size) := rfl
theorem VR_unit (m : Mp) : VR m (.tuple []) (.tuple #[]) := by simp only [VR]; exact ⟨_, rfl, VRs.nil m⟩
theorem run_iclear {P : Program} {B0 : Nat} {w0 w : World} {m : Mp} {H : Heap} (h : Rel B0 w0 m H w) {t ty : TypeId} {ts : Array TypeId} {d : IV} {vd : Value} (ht : ts[0]? = some t) (hd : VR m d vd) {r : INext × Heap}
    (e : iclear P H t d = some r) : OkTo P B0 w0 m w (do pure (.value (← Builtin.clear_ ts ty #[vd]))) r := by
  unfold iclear at e
  split at e
  · rename_i q hund
    cases e
    simp only [VR] at hd; subst hd
    refine ⟨m, w, .tuple #[], ?_, Ext.refl m, h, VR_unit m⟩
    rw [vv]
    simp [Builtin.clear_, ht, run_underlying hund]
  · rename_i q hund
    cases e
    simp only [VR] at hd; subst hd
    refine ⟨m, w, .tuple #[], ?_, Ext.refl m, h, VR_unit m⟩
    rw [vv]
    simp [Builtin.clear_, ht, run_underlying hund]
  · rename_i q r' hund
    split at e
    · rename_i es clock hr
      cases e
      simp only [VR] at hd
      obtain ⟨l, hl, rfl⟩ := hd
      obtain ⟨l', es', g1, g2, g3, g4, g5⟩ := h.good r' _ hr
      rw [hl] at g1; cases g1
      refine ⟨m, _, .tuple #[], ?_, Ext.refl m, h.putMap hr hl [] #[] clock rfl (by simp), VR_unit m⟩
      rw [vv]
      simp [Builtin.clear_, ht, run_underlying hund, run_getMap g2, run_setMap g2]
    · cases e
  · rename_i et b o n lb ex sz hund
    simp only [VR] at hd
    obtain ⟨l, o1, c, sp, hl, rfl, h1, h2, h3, h4, h5⟩ := hd
    split at e
    · rename_i h0
      cases e; subst h0
      refine ⟨m, w, .tuple #[], ?_, Ext.refl m, h, VR_unit m⟩
      rw [vv]
      simp [Builtin.clear_, ht, run_underlying hund]
    · rename_i h0
      replace e := Option.bind_eq_some_iff.1 e
      obtain ⟨z, hz, e⟩ := e
      split at e
      · rename_i cs hb
        split at e
        · rename_i hc
          cases e
          obtain ⟨c1, c2, c3⟩ := hc
          obtain ⟨ho1, hsp⟩ := h4 (by omega)
          subst ho1; subst hsp
          obtain ⟨u, hu, hr⟩ := run_zero hz w m
          have hrc := hr.cells (fun l e => by subst e; simp [isTuple] at c1)
          have hV := mcells_VRs n hrc
          obtain ⟨g1, g2⟩ := h.put hb hl hV (zrep_all c2 n) c3
          refine ⟨m, _, .tuple #[], ?_, Ext.refl m, g2, VR_unit m⟩
          rw [vv]
          have hul : u.cells.size = z.cells.length := by rw [hrc.length]; simp
          have g1' := g1 P
          have hne : n = (n - 1) + 1 := by omega
          rw [hne]
          simp only [Builtin.clear_]
          simp only [List.getElem?_toArray, List.getElem?_cons_zero, ht, Sem.run_bind, run_underlying hund, Result.andThen_ok, hu, zeroCells_mcells, hul]
          rw [← hne]
          simp only [g1', Result.andThen_ok, Sem.run_pure]
        · cases e
      · cases e
  · cases e

/-! ### maps -/
theorem find_same {m : Mp} {x k : IV} {u v : Value} (h : cellEq x k = some true) (hu : VR m x u) (hv : VR m k v) (n : Nat) : Instr.sameBits (n + 1) v u = true := by
  unfold cellEq at h
  split at h
  · rename_i k1 a k2 b
    split at h
    · rename_i e; simp only [VR] at hu hv; subst hu; subst hv; subst e
      simp at h; subst h; simp [Instr.sameBits]
    · cases h
  · rename_i a b
    simp only [VR] at hu hv; subst hu; subst hv
    simp at h; subst h; simp [Instr.sameBits]
  · rename_i a b
    simp only [VR] at hu hv; subst hu; subst hv
    simp at h; subst h; simp [Instr.sameBits, mk_beq]
  · cases h
def iupdate (P : Program) (H : Heap) (t : TypeId) (d key x : IV) : Option Heap :=
  match P.underlying t, d with
  | some (.map kt _), .map r => match H[r]? with
    | some (.map es clock) => if scalarT P kt key then (ifind key es 0).bind fun f => match f with
        | some (i, _) => some (H.set r (.map (es.set i (key, x, ((es[i]?).map (·.2.2)).getD 0)) clock))
        | none => some (H.set r (.map (es ++ [(key, x, clock)]) (clock + 1)))
      else none
    | _ => none
  | _, _ => none
theorem run_iupdate {P : Program} {B0 : Nat} {w0 w : World} {m : Mp} {H H' : Heap} (h : Rel B0 w0 m H w) {t : TypeId} {d key x : IV} {vd vk vx : Value} (hd : VR m d vd) (hk : VR m key vk) (hx : VR m x vx)
    (e : iupdate P H t d key x = some H') : ∃ w', (Instr.mapUpdate t vd vk vx).run P w = .ok () w' ∧ Rel B0 w0 m H' w' := by
  unfold iupdate at e
  split at e
  · rename_i kt et r hund
    split at e
    · rename_i es clock hr
      split at e
      · rename_i hs
        replace e := Option.bind_eq_some_iff.1 e
        obtain ⟨f, hf, e⟩ := e
        simp only [VR] at hd
        obtain ⟨l, hl, rfl⟩ := hd
        obtain ⟨l', es', g1, g2, g3, g4, g5⟩ := h.good r _ hr
        rw [hl] at g1; cases g1
        obtain ⟨dk, hdk⟩ : ∃ d, P.underlying kt = some d := by
          unfold scalarT at hs
          cases hu : P.underlying kt with
          | none => simp [hu] at hs
          | some d => exact ⟨d, rfl⟩
        have hck := fun b => run_checkKey (P := P) hs hk b 9999 w
        have hfn := findNow_ifind (P := P) hdk hs hk es es'.toList 0 f (by simpa using g4) (fun j y hy => by obtain ⟨e, he, hr⟩ := g5 j y hy; exact ⟨e, by simpa using he, hr⟩) hf
        rcases hfn with ⟨rfl, hfn⟩ | ⟨j, q, z, rfl, hfn, hz, _, k', b', e', h5, h6, h7, h8⟩
        · simp only at e; cases e
          refine ⟨_, ?_, h.putMap hr hl (es ++ [(key, x, clock)]) (es'.push { key := vk, val := vx, born := clock }) (clock + 1) (by simp [g4]) (fun j y hy => ?_)⟩
          · simp only [Instr.mapUpdate, Sem.run_bind, run_underlying hund, Result.andThen_ok, run_getMap g2, hck, Instr.findKey, run_underlying hdk, hfn, Sem.run_pure]
            exact run_setMap g2 _
          · rw [List.getElem?_append] at hy
            split at hy
            · rename_i hlt
              obtain ⟨e, he, hr⟩ := g5 j y hy
              exact ⟨e, by rw [Array.getElem?_push, if_neg (by omega)]; exact he, hr⟩
            · rename_i hge
              have hj : j = es.length := by
                have := (List.getElem?_eq_some_iff.1 hy).1; simp at this; omega
              subst hj; simp at hy; subst hy
              exact ⟨_, by rw [Array.getElem?_push, if_pos g4], hk, hx, rfl⟩
        · simp only at e; cases e
          simp only [Nat.sub_zero] at h5 h7
          have hje : es'[j]? = some e' := by simpa using h7
          obtain ⟨e1, he1, hr1, hr2, hr3⟩ := g5 j _ h5
          rw [hje] at he1; cases he1
          have hjl : j < es.length := (List.getElem?_eq_some_iff.1 h5).1
          refine ⟨_, ?_, h.putMap hr hl _ (es'.modify j fun e => { e with key := vk, val := vx }) clock (by simp [g4]) (fun i y hy => ?_)⟩
          · simp only [Instr.mapUpdate, Sem.run_bind, run_underlying hund, Result.andThen_ok, run_getMap g2, hck, Instr.findKey, run_underlying hdk, hfn, Sem.run_pure, Instr.keyThatStays, hje, Option.map_some, Option.getD_some]
            rw [find_same h6 hk hr1 9999]
            simp only [if_true, Sem.run_pure, Result.andThen_ok]
            exact run_setMap g2 _
          · rw [List.getElem?_set] at hy
            by_cases ei : j = i
            · subst ei
              rw [if_pos rfl, if_pos hjl] at hy
              simp only [Option.some.injEq] at hy; subst hy
              refine ⟨{ e' with key := vk, val := vx }, by simp [Array.getElem?_modify, hje], hk, hx, ?_⟩
              simp [h5, hr3]
            · rw [if_neg ei] at hy
              obtain ⟨e, he, hr⟩ := g5 i y hy
              exact ⟨e, by simp [Array.getElem?_modify, ei, he], hr⟩
      · cases e
    · cases e
  · cases e

def idelete (P : Program) (H : Heap) (t : TypeId) (d key : IV) : Option Heap :=
  match P.underlying t, d with
  | some (.map kt _), .nilMap => if scalarT P kt key then some H else none
  | some (.map kt _), .map r => match H[r]? with
    | some (.map es clock) => if scalarT P kt key then (ifind key es 0).bind fun f => match f with
        | some (i, _) => some (H.set r (.map (es.eraseIdx i) clock))
        | none => some (H.set r (.map es clock))
      else none
    | _ => none
  | _, _ => none
theorem run_idelete {P : Program} {B0 : Nat} {w0 w : World} {m : Mp} {H H' : Heap} (h : Rel B0 w0 m H w) {t ty : TypeId} {ts : Array TypeId} {d key : IV} {vd vk : Value} (ht : ts[0]? = some t) (hd : VR m d vd) (hk : VR m key vk)
    (e : idelete P H t d key = some H') : ∃ w', (Builtin.delete_ ts ty #[vd, vk]).run P w = .ok (.tuple #[]) w' ∧ Rel B0 w0 m H' w' := by
  unfold idelete at e
  split at e
  · rename_i kt et hund
    split at e
    · rename_i hs
      cases e
      simp only [VR] at hd; subst hd
      have hck := fun b => run_checkKey (P := P) hs hk b 9999 w
      exact ⟨w, by simp [Builtin.delete_, ht, run_underlying hund, hck], h⟩
    · cases e
  · rename_i kt et r hund
    split at e
    · rename_i es clock hr
      split at e
      · rename_i hs
        replace e := Option.bind_eq_some_iff.1 e
        obtain ⟨f, hf, e⟩ := e
        simp only [VR] at hd
        obtain ⟨l, hl, rfl⟩ := hd
        obtain ⟨l', es', g1, g2, g3, g4, g5⟩ := h.good r _ hr
        rw [hl] at g1; cases g1
        obtain ⟨dk, hdk⟩ : ∃ d, P.underlying kt = some d := by
          unfold scalarT at hs
          cases hu : P.underlying kt with
          | none => simp [hu] at hs
          | some d => exact ⟨d, rfl⟩
        have hck := fun b => run_checkKey (P := P) hs hk b 9999 w
        have hfn := findNow_ifind (P := P) hdk hs hk es es'.toList 0 f (by simpa using g4) (fun j y hy => by obtain ⟨e, he, hr⟩ := g5 j y hy; exact ⟨e, by simpa using he, hr⟩) hf
        rcases hfn with ⟨rfl, hfn⟩ | ⟨j, q, z, rfl, hfn, hz, _, k', b', e', h5, h6, h7, h8⟩
        · simp only at e; cases e
          refine ⟨_, ?_, h.putMap hr hl es es' clock g4 g5⟩
          simp only [Builtin.delete_, List.getElem?_toArray, List.getElem?_cons_zero, List.getElem?_cons_succ, ht, Sem.run_bind, run_underlying hund, Result.andThen_ok, run_getMap g2, hck, Instr.findKey, run_underlying hdk, hfn, Sem.run_pure, run_setMap g2]
        · simp only at e; cases e
          simp only [Nat.sub_zero] at h5 h7
          have hjl : j < es.length := (List.getElem?_eq_some_iff.1 h5).1
          refine ⟨_, ?_, h.putMap hr hl (es.eraseIdx j) (es'.eraseIdxIfInBounds j) clock ?_ (fun i y hy => ?_)⟩
          · simp only [Builtin.delete_, List.getElem?_toArray, List.getElem?_cons_zero, List.getElem?_cons_succ, ht, Sem.run_bind, run_underlying hund, Result.andThen_ok, run_getMap g2, hck, Instr.findKey, run_underlying hdk, hfn, Sem.run_pure, run_setMap g2]
          · rw [List.length_eraseIdx, if_pos hjl, Array.eraseIdxIfInBounds, dif_pos (by omega)]; simp [g4]
          · rw [List.getElem?_eraseIdx] at hy
            have hE : ∀ k : Nat, (es'.eraseIdxIfInBounds j)[k]? = if k < j then es'[k]? else es'[k + 1]? := by
              intro k
              rw [Array.eraseIdxIfInBounds, dif_pos (by omega), Array.getElem?_eraseIdx]
            rw [hE]
            split at hy
            · rename_i hlt; rw [if_pos hlt]; exact g5 i y hy
            · rename_i hlt; rw [if_neg hlt]; exact g5 (i + 1) y hy
      · cases e
    · cases e
  · cases e
end Go.Shade
