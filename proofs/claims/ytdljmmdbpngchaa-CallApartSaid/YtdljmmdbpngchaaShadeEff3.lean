/- SHADE, part 12: bytes of a text, calls; then all operations in one. -/
import Derived.Test.YtdljmmdbpngchaaShadeEff2
namespace Go.Shade
open Go.RowKit
set_option linter.unusedSimpArgs false
set_option linter.unusedVariables false

theorem modify_push {α : Type} (a : Array α) (x : α) (f : α → α) : (a.push x).modify a.size f = a.push (f x) := by
  apply Array.ext_getElem?
  intro i
  rw [Array.getElem?_modify, Array.getElem?_push, Array.getElem?_push]
  by_cases h : a.size = i
  · subst h; simp
  · rw [if_neg h, if_neg (Ne.symm h), if_neg (Ne.symm h)]

def ibytesOf (P : Program) (H : Heap) (s d : TypeId) (x : IV) : Option (INext × Heap) :=
  match P.underlying s, P.underlying d, x with
  | some _, some (.slice e), .str l => match P.underlying e, szOf P e with
    | some (.int .u8), some 1 => some (.val (.slice H.length 0 l.length l.length false 1), H ++ [.row (l.map fun b => .int .u8 b.toNat) false])
    | _, _ => none
  | _, _, _ => none
theorem run_ibytesOf {P : Program} {B0 : Nat} {w0 w : World} {m : Mp} {H : Heap} (h : Rel B0 w0 m H w) {s d : TypeId} {x : IV} {v : Value} (hx : VR m x v) {r : INext × Heap}
    (e : ibytesOf P H s d x = some r) : OkTo P B0 w0 m w (do pure (.value (← convert s d v))) r := by
  unfold ibytesOf at e
  split at e
  · rename_i ds et l hs hd
    split at e
    · rename_i he hsz
      cases e
      simp only [VR] at hx; subst hx
      let q := Question.appendCap l.length 0 et
      let cap := q.cut (w.tape w.drawn q)
      have hcap : l.length ≤ cap := Nat.le_add_right _ _
      let w1 : World := { w with drawn := w.drawn + 1 }
      have hR1 : Rel B0 w0 m H w1 := h.drew _
      let C : Array Value := (⟨l.toArray⟩ : ByteArray).data.map (fun b => Value.int .u8 b.toNat) ++ Array.replicate (cap - l.length) (.int .u8 0)
      have hC : C.size = cap := by simp [C]; omega
      have hrel := hR1.newRow (l.map fun b => .int .u8 b.toNat) C et (C.size, C.size + 1) (by rw [hC]; simpa using hcap) (fun j hj => by omega) (fun j y hj => by
        rw [List.getElem?_map] at hj
        cases hb : l[j]? with
        | none => simp [hb] at hj
        | some b =>
          simp [hb] at hj; subst hj
          refine ⟨rfl, _, ?_, VR_int m _ _⟩
          have hlt := (List.getElem?_eq_some_iff.1 hb).1
          simp only [C]
          rw [Array.getElem?_append, if_pos (by simpa using hlt)]
          simp [hb])
      have hrel2 := hrel.same (w' := (w1.alloc (.cells C et (0, 0))).freeze ⟨w.heap.size, C.size, none⟩ 1) (by
        have hm : ∀ f : Obj → Obj, (w1.heap.push (.cells C et (0, 0))).modify w.heap.size f = w1.heap.push (f (.cells C et (0, 0))) := fun f => modify_push w1.heap _ f
        simp only [World.freeze, World.alloc]
        rw [if_neg (by omega)]
        exact hm (fun o => match o with | .cells c elem (lo, hi) => .cells c elem (if lo == hi then (C.size, C.size + 1) else (min lo C.size, max hi (C.size + 1))) | o => o)) rfl rfl rfl
      refine ⟨_, _, .slice (some ⟨w.heap.size, 0, none⟩) l.length cap, ?_, grow_ext h _, hrel2, ?_⟩
      · rw [vv]
        simp only [convert, Sem.run_bind, run_underlying hs, run_underlying hd, Result.andThen_ok]
        simp only [Sem.run_bind, run_underlying he, Result.andThen_ok, Conv.stringToBytes, run_choose, size_mk]
        have hforced : (Question.appendCap l.length 0 et).forced = false := rfl
        rw [hforced]
        simp only [Bool.false_eq_true, if_false, Result.andThen_ok, Sem.run_bind]
        have e2 : (Go.newRow et C).run P w1 = .ok ⟨w.heap.size, 0, none⟩ (w1.alloc (.cells C et (0, 0))) := by simp [Go.newRow]; rfl
        have e3 : (Go.newRow et (Array.map (fun b => Value.int IntKind.u8 ↑b.toNat) l.toArray ++ Array.replicate ((Question.appendCap l.length 0 et).cut (w.tape w.drawn (Question.appendCap l.length 0 et)) - l.length) (Value.int IntKind.u8 0))).run P { heap := w.heap, tape := w.tape, drawn := w.drawn + 1, os := w.os, output := w.output } = .ok ⟨w.heap.size, 0, none⟩ (w1.alloc (.cells C et (0, 0))) := e2
        rw [e3]
        have e4 : (w1.alloc (.cells C et (0, 0))).shape? w.heap.size = some (et, C.size) := by
          have : (w1.alloc (.cells C et (0, 0))).heap[w.heap.size]? = some (.cells C et (0, 0)) := by
            show (w.heap.push _)[w.heap.size]? = _
            simp
          simp [World.shape?, this]
        simp only [Result.andThen_ok, markStringish, Sem.run_bind, run_shape, e4, run_freeze, Sem.run_pure]
        rfl
      · simp only [VR]
        refine ⟨_, 0, cap, none, grow_at _ _ _, rfl, Nat.le_refl _, hcap, (fun h => by cases h), fun _ => ⟨rfl, rfl⟩, fun _ => ⟨?_, rfl⟩⟩
        simp only [hC]; omega
    · cases e
  · cases e

/-! ### calls -/
def callable (P : Program) (f : FuncId) : Bool :=
  match P.funcs[f]? with
  | some fn => !(fn.name == "runtime.NumGoroutine") && fn.body.isSome
  | none => false
theorem run_callFunc {P : Program} {f : FuncId} {args : Array Value} (h : callable P f = true) (w : World) : (callFunc f args).run P w = .ok (.enter f args) w := by
  unfold callable at h
  split at h
  · rename_i fn hf
    simp only [Bool.and_eq_true, Bool.not_eq_true'] at h
    obtain ⟨h1, h2⟩ := h
    have h3 : fn.body.isNone = false := by cases hb : fn.body <;> simp_all
    simp only [callFunc, Sem.run_bind, run_program, Result.andThen_ok, hf]
    simp only [h1, h3, Bool.false_eq_true, if_false, Sem.run_pure]
  · cases h
def mlook (P : Program) (t : TypeId) (name : String) : Option (FuncId × Bool) :=
  match P.info? t with
  | some i => match i.methods.find? (·.name == name) with
    | some mt => if mt.path.isEmpty then mt.func else none
    | none => none
  | none => none
def imethod (P : Program) (H : Heap) (t : TypeId) (v : IV) (name : String) : Option (FuncId × IV) :=
  (mlook P t name).bind fun fp => match P.underlying t, fp.2, v with
    | some (.pointer _), true, v => some (fp.1, v)
    | some (.pointer e), false, .ptr b o => (iload P e H b o).bind fun x => some (fp.1, x)
    | some (.pointer _), false, _ => none
    | some _, false, v => some (fp.1, v)
    | _, _, _ => none
theorem run_imethod {P : Program} {B0 : Nat} {w0 w : World} {m : Mp} {H : Heap} (h : Rel B0 w0 m H w) {t : TypeId} {v x : IV} {u : Value} {name : String} {f : FuncId} (hv : VR m v u) (e : imethod P H t v name = some (f, x)) :
    ∃ y, (method (P.types.size + Made.depth) t u name).run P w = .ok (f, y) w ∧ VR m x y := by
  unfold imethod at e
  replace e := Option.bind_eq_some_iff.1 e
  obtain ⟨⟨f', pr⟩, hm, e⟩ := e
  unfold mlook at hm
  split at hm
  · rename_i i hi
    split at hm
    · rename_i mt hmt
      split at hm
      · rename_i hp
        have hpath : mt.path = #[] := by simpa using hp
        have hdep : 0 < Made.depth := by decide
        have hfuel : ∃ k, P.types.size + Made.depth = k + 1 := ⟨P.types.size + Made.depth - 1, by omega⟩
        obtain ⟨k, hk⟩ := hfuel
        rw [hk]
        have main : ∀ y, (receiverAt t (.val u) pr (if mt.path.isEmpty then some ((name.splitOn ".").getLastD name) else none)).run P w = .ok y w → (method (k + 1) t u name).run P w = .ok (f', y) w := by
          intro y hy
          simp only [method, Sem.run_bind, run_info hi, Result.andThen_ok, hmt]
          simp only [hpath, follow, Sem.run_bind, Sem.run_pure, Result.andThen_ok]
          rw [hm]
          simp only [Sem.run_bind]
          rw [hpath] at hy
          rw [hy]; rfl
        simp only at e
        split at e
        · rename_i eT hund
          cases e
          refine ⟨u, main u ?_, hv⟩
          simp only [receiverAt, Sem.run_bind, run_underlying hund, Result.andThen_ok, Place.get, Sem.run_pure]
        · rename_i eT b o hund
          replace e := Option.bind_eq_some_iff.1 e
          obtain ⟨q, hq, e⟩ := e
          cases e
          simp only [VR] at hv
          obtain ⟨l, hl, rfl⟩ := hv
          obtain ⟨y, hy, hr⟩ := run_iload (P := P) h hq hl
          refine ⟨y, main y ?_, hr⟩
          rw [hp, if_pos rfl]
          simp only [receiverAt, Sem.run_bind, run_underlying hund, Result.andThen_ok, Place.get, Sem.run_pure]
          have hss : ∀ (s : String), (Builtin.ssaWrapNilChk_ #[t] t #[.pointer (some ⟨l.cb, l.co + o, none⟩), strVal "", strVal s]).run P w = .ok (.pointer (some ⟨l.cb, l.co + o, none⟩)) w := fun s => rfl
          rw [hss]
          simp only [Result.andThen_ok, asAddr, Sem.run_pure, hy]
        · cases e
        · rename_i dT hnp hund hnp2
          cases e
          refine ⟨u, main u ?_, hv⟩
          have hd : ∀ q, dT ≠ .pointer q := fun q hq => hnp q hq
          cases dT <;> first
            | exact absurd rfl (hd _)
            | simp only [receiverAt, Sem.run_bind, run_underlying hund, Result.andThen_ok, Place.get, Sem.run_pure]
        · cases e
      · cases hm
    · cases hm
  · cases hm

def ie (P : Program) (H : Heap) (ρ : Env) : Op → Option (INext × Heap)
  | .alloc t => (zeroOf P t).bind fun z => ibox z H
  | .box _ x => (ρ x).bind fun v => ibox v H
  | .buildSlice t len parts => (evps ρ parts.toList).bind fun ps => ibuildSlice P H t len ps
  | .store t a x => (ρ a).bind fun p => (ρ x).bind fun v => (istore P H t p v).bind fun H' => some (.skip, H')
  | .makeMap _ none => some (.val (.map H.length), H ++ [.map [] 0])
  | .makeMap t (some x) => match P.underlying t, ρ x with
    | some (.map ..), some (.int ..) => some (.val (.map H.length), H ++ [.map [] 0])
    | _, _ => none
  | .makeSlice t l c => (ρ l).bind fun a => (ρ c).bind fun b => imakeSlice P H t a b
  | .mapUpdate t d k x => (ρ d).bind fun a => (ρ k).bind fun b => (ρ x).bind fun c => (iupdate P H t a b c).bind fun H' => some (.skip, H')
  | .insert t d k x => (ρ d).bind fun a => (ρ k).bind fun b => (ρ x).bind fun c => (iupdate P H t a b c).bind fun H' => some (.skip, H')
  | .convert s d x => (ρ x).bind fun v => ibytesOf P H s d v
  | .call { callee := .builtin .append, args := ⟨[s, x]⟩, argTypes := ⟨[t, xT]⟩ } => (ρ s).bind fun a => (ρ x).bind fun b => iappend P H t xT a b
  | .call { callee := .builtin .copy, args := ⟨[d, x]⟩, argTypes := ⟨[t, _]⟩ } => (ρ d).bind fun a => (ρ x).bind fun b => icopy P H t a b
  | .call { callee := .builtin .clear, args := ⟨[d]⟩, argTypes := ⟨t :: _⟩ } => (ρ d).bind fun a => iclear P H t a
  | .call { callee := .builtin .delete, args := ⟨[d, k]⟩, argTypes := ⟨t :: _⟩ } => (ρ d).bind fun a => (ρ k).bind fun b => (idelete P H t a b).bind fun H' => some (.val (.tuple []), H')
  | .call { callee := .value f, args, .. } => (ρ f).bind fun fv => (evs ρ args.toList).bind fun vs => match fv with
    | .func (.func g) first cap => if callable P g then some (.enter g (first ++ vs ++ cap), H) else none
    | _ => none
  | .call { callee := .invoke r name, args, .. } => (ρ r).bind fun rv => (evs ρ args.toList).bind fun vs => match rv with
    | .iface t v => (imethod P H t v name).bind fun fx => if callable P fx.1 then some (.enter fx.1 (fx.2 :: vs), H) else none
    | _ => none
  | _ => none

theorem run_ie {P : Program} {B0 : Nat} {w0 w : World} {m : Mp} {H : Heap} (h : Rel B0 w0 m H w) {ρ : Env} {ρ' : Operand → Value} (hρ : ER m ρ ρ') {o : Oper} {r : INext × Heap} (e : ie P H ρ o.op = some r) :
    OkTo P B0 w0 m w (execOp ρ' o) r := by
  obtain ⟨dst, op, type, pos, after, guard⟩ := o
  simp only at e
  unfold ie at e
  split at e
  · exact ok_alloc h e
  · replace e := Option.bind_eq_some_iff.1 e
    obtain ⟨v, hv, e⟩ := e
    exact ok_box h _ (hρ _ _ hv) e
  · rename_i t len parts
    replace e := Option.bind_eq_some_iff.1 e
    obtain ⟨ps, hps, e⟩ := e
    have hx : execOp ρ' ⟨dst, .buildSlice t len parts, type, pos, after, guard⟩ = (do pure (.value (← Instr.buildSlice t len (parts.map fun (i, x) => (i, ρ' x)))) : Sem Next) := rfl
    have hp : PRs m ps (parts.map fun (i, x) => (i, ρ' x)).toList := by simpa using evps_PRs hρ hps
    rw [hx]
    exact run_ibuildSlice h hp e
  · replace e := Option.bind_eq_some_iff.1 e
    obtain ⟨a, ha, e⟩ := e
    replace e := Option.bind_eq_some_iff.1 e
    obtain ⟨v, hv, e⟩ := e
    replace e := Option.bind_eq_some_iff.1 e
    obtain ⟨H', hH, e⟩ := e
    cases e
    obtain ⟨w', h1, h2⟩ := run_istore h (hρ _ _ ha) (hρ _ _ hv) hH
    exact ⟨m, w', by simp [execOp, h1], Ext.refl m, h2⟩
  · cases e
    have hp := h.push (.map [] 0) (.map #[] 0) 0 ⟨⟨w.heap.size, 0, 0⟩, #[], grow_at _ _ _, by show (w.heap.push _)[w.heap.size]? = _; simp, h.base, rfl, by simp⟩
    refine ⟨_, _, .map (some w.heap.size), ?_, grow_ext h _, hp, by simp only [VR]; exact ⟨_, grow_at _ _ _, rfl⟩⟩
    simp [execOp, Instr.makeMap]
  · rename_i t x
    split at e
    · rename_i k et k' n hund hx
      cases e
      have hp := h.push (.map [] 0) (.map #[] 0) 0 ⟨⟨w.heap.size, 0, 0⟩, #[], grow_at _ _ _, by show (w.heap.push _)[w.heap.size]? = _; simp, h.base, rfl, by simp⟩
      have hv := hρ _ _ hx
      simp only [VR] at hv
      refine ⟨_, _, .map (some w.heap.size), ?_, grow_ext h _, hp, by simp only [VR]; exact ⟨_, grow_at _ _ _, rfl⟩⟩
      simp [execOp, Instr.makeMap, run_underlying hund, hv, asInt, asIntOf]
    · cases e
  · replace e := Option.bind_eq_some_iff.1 e
    obtain ⟨a, ha, e⟩ := e
    replace e := Option.bind_eq_some_iff.1 e
    obtain ⟨b, hb, e⟩ := e
    exact run_imakeSlice h (hρ _ _ ha) (hρ _ _ hb) e
  · replace e := Option.bind_eq_some_iff.1 e
    obtain ⟨a, ha, e⟩ := e
    replace e := Option.bind_eq_some_iff.1 e
    obtain ⟨b, hb, e⟩ := e
    replace e := Option.bind_eq_some_iff.1 e
    obtain ⟨c, hc, e⟩ := e
    replace e := Option.bind_eq_some_iff.1 e
    obtain ⟨H', hH, e⟩ := e
    cases e
    obtain ⟨w', h1, h2⟩ := run_iupdate h (hρ _ _ ha) (hρ _ _ hb) (hρ _ _ hc) hH
    exact ⟨m, w', by simp [execOp, h1], Ext.refl m, h2⟩
  · replace e := Option.bind_eq_some_iff.1 e
    obtain ⟨a, ha, e⟩ := e
    replace e := Option.bind_eq_some_iff.1 e
    obtain ⟨b, hb, e⟩ := e
    replace e := Option.bind_eq_some_iff.1 e
    obtain ⟨c, hc, e⟩ := e
    replace e := Option.bind_eq_some_iff.1 e
    obtain ⟨H', hH, e⟩ := e
    cases e
    obtain ⟨w', h1, h2⟩ := run_iupdate h (hρ _ _ ha) (hρ _ _ hb) (hρ _ _ hc) hH
    exact ⟨m, w', by simp [execOp, h1], Ext.refl m, h2⟩
  · replace e := Option.bind_eq_some_iff.1 e
    obtain ⟨a, ha, e⟩ := e
    exact run_ibytesOf h (hρ _ _ ha) e
  · rename_i s x t xT
    replace e := Option.bind_eq_some_iff.1 e
    obtain ⟨a, ha, e⟩ := e
    replace e := Option.bind_eq_some_iff.1 e
    obtain ⟨b, hb, e⟩ := e
    have := run_iappend (ty := type) h (hρ _ _ ha) (hρ _ _ hb) e
    have hx : execOp ρ' ⟨dst, .call { callee := .builtin .append, args := ⟨[s, x]⟩, argTypes := ⟨[t, xT]⟩ }, type, pos, after, guard⟩ = (do pure (.value (← Builtin.append_ #[t, xT] type #[ρ' s, ρ' x])) : Sem Next) := by simp [execOp, resolve, invoke, builtin]
    rw [hx]; exact this
  · rename_i d x t xT
    replace e := Option.bind_eq_some_iff.1 e
    obtain ⟨a, ha, e⟩ := e
    replace e := Option.bind_eq_some_iff.1 e
    obtain ⟨b, hb, e⟩ := e
    have := run_icopy (xT := xT) (ty := type) h (hρ _ _ ha) (hρ _ _ hb) e
    have hx : execOp ρ' ⟨dst, .call { callee := .builtin .copy, args := ⟨[d, x]⟩, argTypes := ⟨[t, xT]⟩ }, type, pos, after, guard⟩ = (do pure (.value (← Builtin.copy_ #[t, xT] type #[ρ' d, ρ' x])) : Sem Next) := by simp [execOp, resolve, invoke, builtin]
    rw [hx]; exact this
  · rename_i d t ts
    replace e := Option.bind_eq_some_iff.1 e
    obtain ⟨a, ha, e⟩ := e
    have := run_iclear (ts := ⟨t :: ts⟩) (ty := type) h rfl (hρ _ _ ha) e
    have hx : execOp ρ' ⟨dst, .call { callee := .builtin .clear, args := ⟨[d]⟩, argTypes := ⟨t :: ts⟩ }, type, pos, after, guard⟩ = (do pure (.value (← Builtin.clear_ ⟨t :: ts⟩ type #[ρ' d])) : Sem Next) := by simp [execOp, resolve, invoke, builtin]
    rw [hx]; exact this
  · rename_i d k t ts
    replace e := Option.bind_eq_some_iff.1 e
    obtain ⟨a, ha, e⟩ := e
    replace e := Option.bind_eq_some_iff.1 e
    obtain ⟨b, hb, e⟩ := e
    replace e := Option.bind_eq_some_iff.1 e
    obtain ⟨H', hH, e⟩ := e
    cases e
    obtain ⟨w', h1, h2⟩ := run_idelete (ts := ⟨t :: ts⟩) (ty := type) h rfl (hρ _ _ ha) (hρ _ _ hb) hH
    have hx : execOp ρ' ⟨dst, .call { callee := .builtin .delete, args := ⟨[d, k]⟩, argTypes := ⟨t :: ts⟩ }, type, pos, after, guard⟩ = (do pure (.value (← Builtin.delete_ ⟨t :: ts⟩ type #[ρ' d, ρ' k])) : Sem Next) := by simp [execOp, resolve, invoke, builtin]
    rw [hx]
    exact ⟨m, w', .tuple #[], by rw [vv]; exact h1, Ext.refl m, h2, VR_unit m⟩
  · rename_i f args ts
    replace e := Option.bind_eq_some_iff.1 e
    obtain ⟨fv, hf, e⟩ := e
    replace e := Option.bind_eq_some_iff.1 e
    obtain ⟨vs, hvs, e⟩ := e
    split at e
    · rename_i g first cap
      split at e
      · rename_i hcall
        cases e
        have hv := hρ _ _ hf
        simp only [VR] at hv
        obtain ⟨fa, ca, hv, h1, h2⟩ := hv
        refine ⟨fa ++ args.map ρ' ++ ca, ?_, h, ?_⟩
        · simp only [execOp, resolve, hv, Deferred.ofValue, Sem.run_bind, Sem.run_pure, Result.andThen_ok, invoke]
          exact run_callFunc hcall w
        · simp only [Array.toList_append, Array.toList_map]
          exact (h1.append (evs_VRs hρ hvs)).append h2
      · cases e
    · cases e
  · rename_i rr name args ts
    replace e := Option.bind_eq_some_iff.1 e
    obtain ⟨rv, hr, e⟩ := e
    replace e := Option.bind_eq_some_iff.1 e
    obtain ⟨vs, hvs, e⟩ := e
    split at e
    · rename_i t v
      replace e := Option.bind_eq_some_iff.1 e
      obtain ⟨⟨f, x⟩, hm, e⟩ := e
      simp only at e
      split at e
      · rename_i hcall
        cases e
        have hv := hρ _ _ hr
        simp only [VR] at hv
        obtain ⟨y, hv, hy⟩ := hv
        obtain ⟨z, h1, h2⟩ := run_imethod (P := P) h hy hm
        refine ⟨#[z] ++ args.map ρ', ?_, h, ?_⟩
        · have hext : (#[Value.iface t y] ++ args.map ρ').extract 1 (#[Value.iface t y] ++ args.map ρ').size = args.map ρ' := by
            apply Array.ext'
            simp [List.extract_eq_take_drop]
            exact List.take_of_length_le (by simp)
          have h0 : (#[Value.iface t y] ++ args.map ρ')[0]? = some (.iface t y) := by rw [Array.getElem?_append, if_pos (by simp)]; rfl
          simp only [execOp, resolve, hv, Sem.run_bind, Sem.run_pure, Result.andThen_ok, invoke, h0, hext, callMethod, run_program, h1]
          exact run_callFunc hcall w
        · have : (#[z] ++ args.map ρ').toList = z :: args.toList.map ρ' := by simp
          rw [this]
          exact VRs.cons h2 (evs_VRs hρ hvs)
      · cases e
    · cases e
  · cases e

def istep (P : Program) (H : Heap) (ρ : Env) (op : Op) : Option (INext × Heap) :=
  match iq P H ρ op with
  | some v => some (.val v, H)
  | none => ie P H ρ op
theorem run_istep {P : Program} {B0 : Nat} {w0 w : World} {m : Mp} {H : Heap} (h : Rel B0 w0 m H w) {ρ : Env} {ρ' : Operand → Value} (hρ : ER m ρ ρ') {o : Oper} {r : INext × Heap} (e : istep P H ρ o.op = some r) :
    OkTo P B0 w0 m w (execOp ρ' o) r := by
  unfold istep at e
  split at e
  · rename_i v hv
    cases e
    obtain ⟨u, h1, h2⟩ := run_iq h hρ hv
    exact ⟨m, w, u, h1, Ext.refl m, h, h2⟩
  · exact run_ie h hρ e
end Go.Shade
