/- SHADE, part 9: new memory, stores, append, copy. -/
import Derived.Test.YtdljmmdbpngchaaShadeQuiet4
namespace Go.Shade
open Go.RowKit
set_option linter.unusedSimpArgs false

/-! ### new rows -/
theorem Rel.newRow {B0 : Nat} {w0 w : World} {m : Mp} {H : Heap} (h : Rel B0 w0 m H w) (cs : List IV) (C : Array Value) (e : TypeId) (fr : Nat × Nat) (hn : cs.length ≤ C.size) (hfr : ∀ j, j < C.size → ¬ (fr.1 ≤ j ∧ j < fr.2))
    (hc : ∀ (j : Nat) v, cs[j]? = some v → v.one = true ∧ ∃ u, C[j]? = some u ∧ VR m v u) :
    Rel B0 w0 (grow m H.length ⟨w.heap.size, 0, C.size⟩) (H ++ [.row cs false]) (w.alloc (.cells C e fr)) := by
  refine h.push _ _ C.size ⟨⟨w.heap.size, 0, C.size⟩, C, e, fr, grow_at _ _ _, ?_, rfl, by simpa using hn, h.base, hfr, fun j v hj => ?_⟩
  · show (w.heap.push _)[w.heap.size]? = _
    simp
  · obtain ⟨h1, u, h2, h3⟩ := hc j v hj
    exact ⟨h1, u, by simpa using h2, h3.ext (grow_ext h _)⟩
theorem cells_rel {m : Mp} {cs : List IV} {C : Array Value} (h : VRs m cs C.toList) (h1 : cs.all IV.one = true) : ∀ (j : Nat) v, cs[j]? = some v → v.one = true ∧ ∃ u, C[j]? = some u ∧ VR m v u := by
  intro j v hj
  obtain ⟨u, hu, hr⟩ := h.get hj
  exact ⟨List.all_eq_true.1 h1 _ (List.mem_of_getElem? hj), u, by simpa using hu, hr⟩
theorem Rel.newVar {P : Program} {B0 : Nat} {w0 w : World} {m : Mp} {H : Heap} (h : Rel B0 w0 m H w) {x : IV} {v : Value} (t : TypeId) (hx : VR m x v) (ht : isTuple x = false) (h1 : x.cells.all IV.one = true) :
    ∃ m' w', (Go.newVar t v).run P w = .ok ⟨w.heap.size, 0, none⟩ w' ∧ Ext m m' ∧ Rel B0 w0 m' (H ++ [.row x.cells false]) w' ∧ VR m' (.ptr H.length 0) (.pointer (some ⟨w.heap.size, 0, none⟩)) := by
  have hc := hx.cells (fun l e => by subst e; simp [isTuple] at ht)
  have hl := hc.length
  simp only [Array.length_toList] at hl
  refine ⟨_, _, ?_, grow_ext h _, h.newRow x.cells v.cells t (0, 0) (by omega) (by simp) (cells_rel hc h1), ?_⟩
  · simp [Go.newVar, Go.newRow]
  · simp only [VR]; exact ⟨_, grow_at _ _ _, by simp⟩

inductive INext where
  | val (v : IV)
  | skip
  | enter (f : FuncId) (args : List IV)

def OkTo (P : Program) (B0 : Nat) (w0 : World) (m : Mp) (w : World) (s : Sem Next) (r : INext × Heap) : Prop :=
  match r.1 with
  | .val v => ∃ m' w' u, s.run P w = .ok (.value u) w' ∧ Ext m m' ∧ Rel B0 w0 m' r.2 w' ∧ VR m' v u
  | .skip => ∃ m' w', s.run P w = .ok .skip w' ∧ Ext m m' ∧ Rel B0 w0 m' r.2 w'
  | .enter f args => ∃ us : Array Value, s.run P w = .ok (.enter f us) w ∧ Rel B0 w0 m r.2 w ∧ VRs m args us.toList

def ibox (x : IV) (H : Heap) : Option (INext × Heap) := if isTuple x = false ∧ x.cells.all IV.one = true then some (.val (.ptr H.length 0), H ++ [.row x.cells false]) else none
theorem ok_box {P : Program} {B0 : Nat} {w0 w : World} {m : Mp} {H : Heap} (h : Rel B0 w0 m H w) {x : IV} {v : Value} (t : TypeId) (hx : VR m x v) {r : INext × Heap} (e : ibox x H = some r) :
    OkTo P B0 w0 m w (do pure (.value (← Instr.box t v))) r := by
  unfold ibox at e
  split at e
  · rename_i hc
    cases e
    obtain ⟨m', w', h1, h2, h3, h4⟩ := h.newVar (P := P) t hx hc.1 hc.2
    exact ⟨m', w', _, by simp [Instr.box, h1], h2, h3, h4⟩
  · cases e
theorem ok_alloc {P : Program} {B0 : Nat} {w0 w : World} {m : Mp} {H : Heap} (h : Rel B0 w0 m H w) {t : TypeId} {r : INext × Heap} (e : ((zeroOf P t).bind fun z => ibox z H) = some r) :
    OkTo P B0 w0 m w (do pure (.value (← Instr.alloc t true (.tuple #[])))) r := by
  obtain ⟨z, hz, e⟩ := Option.bind_eq_some_iff.1 e
  obtain ⟨u, hu, hr⟩ := run_zero hz w m
  unfold ibox at e
  split at e
  · rename_i hc
    cases e
    obtain ⟨m', w', h1, h2, h3, h4⟩ := h.newVar (P := P) t hr hc.1 hc.2
    exact ⟨m', w', _, by simp [Instr.alloc, hu, h1], h2, h3, h4⟩
  · cases e

/-! ### stores -/
def istore (P : Program) (H : Heap) (t : TypeId) (a x : IV) : Option Heap :=
  match a with
  | .ptr b o => match H[b]? with
    | some (.row cs false) => (szOf P t).bind fun n =>
      if isTuple x = false ∧ x.cells.length = n ∧ o + x.cells.length ≤ cs.length ∧ x.cells.all IV.one = true then some (H.set b (.row (putAt cs o x.cells) false)) else none
    | _ => none
  | _ => none
theorem run_istore {P : Program} {B0 : Nat} {w0 w : World} {m : Mp} {H H' : Heap} (h : Rel B0 w0 m H w) {t : TypeId} {a x : IV} {va vx : Value} (ha : VR m a va) (hx : VR m x vx) (e : istore P H t a x = some H') :
    ∃ w', (Instr.storeAt t va vx).run P w = .ok () w' ∧ Rel B0 w0 m H' w' := by
  unfold istore at e
  split at e
  · rename_i b o
    split at e
    · rename_i cs hb
      obtain ⟨n, hn, e⟩ := Option.bind_eq_some_iff.1 e
      split at e
      · rename_i hc
        cases e
        obtain ⟨c1, c2, c3, c4⟩ := hc
        simp only [VR] at ha
        obtain ⟨l, hl, rfl⟩ := ha
        have hcells := hx.cells (fun l e => by subst e; simp [isTuple] at c1)
        have hlen := hcells.length
        simp only [Array.length_toList] at hlen
        obtain ⟨h1, h2⟩ := h.put hb hl hcells c4 c3
        refine ⟨_, ?_, h2⟩
        simp only [Instr.storeAt, Instr.sureAddr, storeVar, Sem.run_bind, Sem.run_pure, Result.andThen_ok, run_size hn]
        rw [if_neg (by simp; omega)]
        simpa using h1 P
      · cases e
    · cases e
  · cases e

/-! ### rows of n elements -/
def zrep (n : Nat) (zs : List IV) : List IV := (List.replicate n zs).flatten
theorem zrep_length (n : Nat) (zs : List IV) : (zrep n zs).length = n * zs.length := by simp [zrep]
theorem zrep_get (zs : List IV) : ∀ (n j : Nat), (zrep n zs)[j]? = if j < n * zs.length then zs[j % zs.length]? else none
  | 0, j => by simp [zrep]
  | n + 1, j => by
    have ih := zrep_get zs n (j - zs.length)
    have hu : zrep (n + 1) zs = zs ++ zrep n zs := by simp [zrep, List.replicate_succ]
    rw [hu, List.getElem?_append]
    by_cases h : j < zs.length
    · rw [if_pos h, Nat.mod_eq_of_lt h, if_pos (by rw [Nat.add_mul]; omega)]
    · rw [if_neg h, ih]
      have hm : (j - zs.length) % zs.length = j % zs.length := by
        rw [← Nat.mod_eq_sub_mod (by omega)]
      rw [hm]
      by_cases h2 : j - zs.length < n * zs.length
      · rw [if_pos h2, if_pos (by rw [Nat.add_mul]; omega)]
      · rw [if_neg h2, if_neg (by rw [Nat.add_mul]; omega)]
theorem zrep_all {zs : List IV} (h : zs.all IV.one = true) (n : Nat) : (zrep n zs).all IV.one = true := by
  rw [List.all_eq_true] at *
  intro x hx
  simp only [zrep, List.mem_flatten, List.mem_replicate] at hx
  obtain ⟨l, ⟨_, rfl⟩, hx⟩ := hx
  exact h x hx
/-- The model's zero cells. -/
def mcells (zero : Array Value) (k : Nat) : Array Value := (Array.range k).map (fun i => zero[i % zero.size]!)
theorem mcells_VRs {m : Mp} {zs : List IV} {zero : Array Value} (n : Nat) (h : VRs m zs zero.toList) : VRs m (zrep n zs) (mcells zero (n * zs.length)).toList := by
  rw [VRs_iff]
  have hl := h.length
  simp only [Array.length_toList] at hl
  refine ⟨by simp [zrep_length, mcells], fun j x hj => ?_⟩
  rw [zrep_get] at hj
  split at hj
  · rename_i hlt
    obtain ⟨u, hu, hr⟩ := h.get hj
    refine ⟨u, ?_, hr⟩
    have hu' : zero[j % zero.size]? = some u := by rw [← hl]; simpa using hu
    simp only [mcells, Array.toList_map, Array.toList_range, List.getElem?_map, List.getElem?_range hlt, Option.map_some]
    rw [getElem!_def, hu']
  · cases hj

def ibuildSlice (P : Program) (H : Heap) (t : TypeId) (len : Nat) (parts : List (Nat × IV)) : Option (INext × Heap) :=
  match P.underlying t with
  | some (.slice e) => (szOf P e).bind fun s =>
    if 16777216 < len * s ∨ s = 0 then none else
    (if len = 0 then some [] else (zeroOf P e).bind fun z => if isTuple z = false ∧ z.cells.length = s ∧ z.cells.all IV.one = true then some (zrep len z.cells) else none).bind fun zs =>
    (ifill (fun i => some (i * s, s)) zs parts).bind fun cells =>
    if cells.all IV.one = true ∧ cells.length = len * s then some (.val (.slice H.length 0 len len true s), H ++ [.row cells false]) else none
  | _ => none
theorem run_ibuildSlice {P : Program} {B0 : Nat} {w0 w : World} {m : Mp} {H : Heap} (h : Rel B0 w0 m H w) {t : TypeId} {len : Nat} {parts : List (Nat × IV)} {parts' : Array (Nat × Value)} (hp : PRs m parts parts'.toList) {r : INext × Heap}
    (e : ibuildSlice P H t len parts = some r) : OkTo P B0 w0 m w (do pure (.value (← Instr.buildSlice t len parts'))) r := by
  unfold ibuildSlice at e
  split at e
  · rename_i et hund
    obtain ⟨s, hs, e⟩ := Option.bind_eq_some_iff.1 e
    split at e
    · cases e
    · rename_i hbig
      obtain ⟨zs, hzs, e⟩ := Option.bind_eq_some_iff.1 e
      obtain ⟨cells, hcells, e⟩ := Option.bind_eq_some_iff.1 e
      split at e
      · rename_i hone
        cases e
        have key : ∃ z0 : Array Value, ((len * s = 0 ∧ z0 = #[]) ∨ (len * s ≠ 0 ∧ ∃ u, (zeroValue et).run P w = .ok u w ∧ z0 = u.cells)) ∧ VRs m zs (mcells z0 (len * s)).toList := by
          by_cases h0 : len = 0
          · subst h0
            simp only [if_true] at hzs; cases hzs
            exact ⟨#[], .inl ⟨by simp, rfl⟩, by simp [mcells, VRs]⟩
          · rw [if_neg h0] at hzs
            obtain ⟨z, hz, hzs⟩ := Option.bind_eq_some_iff.1 hzs
            split at hzs
            · rename_i hc
              cases hzs
              obtain ⟨u, hu, hr⟩ := run_zero hz w m
              have hrc := hr.cells (fun l e => by subst e; simp [isTuple] at hc)
              have hpos : 0 < len * s := Nat.mul_pos (by omega) (by omega)
              refine ⟨u.cells, .inr ⟨by omega, u, hu, rfl⟩, ?_⟩
              have := mcells_VRs len hrc
              rwa [hc.2.1] at this
            · cases hzs
        obtain ⟨z0, k1, k2⟩ := key
        obtain ⟨R, hR1, hR2⟩ := ifill_fill _ _ _ _ _ _ hp k2 hcells
        have hRl := hR2.length
        simp only [Array.length_toList] at hRl
        have hrel := h.newRow cells R et (0, 0) (by omega) (by simp) (cells_rel hR2 hone.1)
        refine ⟨_, _, .slice (some ⟨w.heap.size, 0, none⟩) len len, ?_, grow_ext h _, hrel, ?_⟩
        · have hrun : (Instr.buildSlice t len parts').run P w = .ok (.slice (some ⟨w.heap.size, 0, none⟩) len len) (w.alloc (.cells R et (0, 0))) := by
            simp only [Instr.buildSlice, Sem.run_bind, run_underlying hund, Result.andThen_ok, run_size hs]
            rw [if_neg (by omega)]
            have hR1' : Instr.fill (fun i => some (i * s, s)) ((Array.range (len * s)).map fun x => z0[x % z0.size]!) parts'.toList = some R := hR1
            rcases k1 with ⟨k0, rfl⟩ | ⟨k0, u, hu, rfl⟩
            · rw [if_pos k0]
              simp only [Sem.run_bind, Sem.run_pure, Result.andThen_ok, hR1']
              simp [Go.newRow]
            · rw [if_neg k0]
              simp only [Sem.run_bind, Sem.run_pure, Result.andThen_ok, hu, hR1']
              simp [Go.newRow]
          simp [hrun]
        · simp only [VR]
          exact ⟨_, 0, len, none, grow_at _ _ _, rfl, Nat.le_refl _, Nat.le_refl _, fun _ => rfl, fun _ => ⟨rfl, rfl⟩, fun _ => ⟨by simp; omega, rfl⟩⟩
      · cases e
  · cases e

def imakeSlice (P : Program) (H : Heap) (t : TypeId) (len cap : IV) : Option (INext × Heap) :=
  match P.underlying t, len, cap with
  | some (.slice e), .int _ l, .int _ c => (szOf P e).bind fun s => (byOf P e).bind fun b => (zeroOf P e).bind fun z =>
    if isTuple z = false ∧ z.cells.length = s ∧ z.cells.all IV.one = true ∧ 0 < s ∧ 0 ≤ l ∧ l ≤ c ∧ b * c ≤ 281474976710656 ∧ c ≤ 9223372036854775807 then
      some (.val (.slice H.length 0 l.toNat c.toNat true s), H ++ [.row (zrep c.toNat z.cells) false]) else none
  | _, _, _ => none
theorem wrap_id {c : Int} (h0 : 0 ≤ c) (h1 : c ≤ 9223372036854775807) : IntKind.i64.wrap c = c := by
  unfold IntKind.wrap
  have e1 : (2 ^ IntKind.i64.bits : Int) = 18446744073709551616 := rfl
  have e2 : (2 ^ (IntKind.i64.bits - 1) : Int) = 9223372036854775808 := rfl
  have hm : c % 18446744073709551616 = c := Int.emod_eq_of_lt h0 (by omega)
  simp only [e1, e2, hm, IntKind.signed]
  rw [if_neg (by simp; omega)]
theorem run_imakeSlice {P : Program} {B0 : Nat} {w0 w : World} {m : Mp} {H : Heap} (h : Rel B0 w0 m H w) {t : TypeId} {len cap : IV} {vl vc : Value} (hl : VR m len vl) (hc : VR m cap vc) {r : INext × Heap}
    (e : imakeSlice P H t len cap = some r) : OkTo P B0 w0 m w (do pure (.value (← Instr.makeSlice t vl vc))) r := by
  unfold imakeSlice at e
  split at e
  · rename_i et k l k' c hund
    obtain ⟨s, hs, e⟩ := Option.bind_eq_some_iff.1 e
    obtain ⟨b, hb, e⟩ := Option.bind_eq_some_iff.1 e
    obtain ⟨z, hz, e⟩ := Option.bind_eq_some_iff.1 e
    split at e
    · rename_i hcond
      cases e
      obtain ⟨c1, c2, c3, c4, c5, c6, c7, c8⟩ := hcond
      simp only [VR] at hl hc; subst hl; subst hc
      obtain ⟨u, hu, hr⟩ := run_zero hz w m
      have hrc := hr.cells (fun l e => by subst e; simp [isTuple] at c1)
      have hlen := hrc.length
      simp only [Array.length_toList] at hlen
      have hV := mcells_VRs c.toNat hrc
      have hVl := hV.length
      simp only [Array.length_toList] at hVl
      obtain ⟨i, hi⟩ : ∃ i, P.info? et = some i := by
        unfold byOf at hb; cases hx : P.info? et with
        | none => simp [hx] at hb
        | some i => exact ⟨i, rfl⟩
      have hib : i.bytes = b := by unfold byOf at hb; simpa [hi] using hb
      rw [c2] at hV hVl
      have hrel := h.newRow _ _ et (0, 0) (Nat.le_of_eq hVl) (by simp) (cells_rel hV (zrep_all c3 _))
      refine ⟨_, _, .slice (some ⟨w.heap.size, 0, none⟩) l.toNat c.toNat, ?_, grow_ext h _, hrel, ?_⟩
      · have hrun : (Instr.makeSlice t (.int k l) (.int k' c)).run P w = .ok (.slice (some ⟨w.heap.size, 0, none⟩) l.toNat c.toNat) (w.alloc (.cells (mcells u.cells (c.toNat * s)) et (0, 0))) := by
          simp only [Instr.makeSlice, Sem.run_bind, run_underlying hund, Result.andThen_ok, asInt, asIntOf, Sem.run_pure, run_info hi, hib]
          rw [wrap_id c5 (by omega), wrap_id (by omega) c8]
          have hneg : (((decide (c < 0) || decide ((b : Int) * c > 2 ^ 48)) || decide (l < 0)) || decide (l > c)) = false := by
            simp; omega
          simp only [hneg, Bool.false_eq_true, if_false, Sem.run_bind, Sem.run_pure, Result.andThen_ok, run_askRoom, run_size hs]
          by_cases h0 : c.toNat * s = 0
          · have : c.toNat = 0 := by rcases Nat.mul_eq_zero.1 h0 with h | h; · exact h
                                     · omega
            have er : Array.range 0 = #[] := rfl
            simp [h0, mcells, Go.newRow, er]
          · rw [if_neg h0]
            simp [hu, mcells, Go.newRow]
        simp [hrun]
      · simp only [VR]
        refine ⟨_, 0, c.toNat, none, grow_at _ _ _, rfl, by omega, Nat.le_refl _, fun _ => rfl, fun _ => ⟨rfl, rfl⟩, fun _ => ⟨?_, rfl⟩⟩
        simp [mcells]
    · cases e
  · cases e
end Go.Shade
