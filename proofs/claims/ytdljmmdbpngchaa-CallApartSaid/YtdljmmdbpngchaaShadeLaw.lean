/- SHADE, part 29: from what a law's low code comes to, to the row's contract. -/
import Derived.Test.YtdljmmdbpngchaaShadeL4
import Derived.Test.YtdljmmdbpngchaaShadeArg
import Derived.WalkKit
import Derived.ProofKit
import Derived.OpenShut
import Derived.ShutString
import Derived.ChangeOld
namespace Go.Shade
open Go.RowKit Go.ChangeShapes Go.WideShapes Go.ChangeAt
set_option linter.unusedSimpArgs false
set_option linter.unusedVariables false

def T0 : Table := fun _ => none
theorem soundT0 (P : Program) : SoundT P T0 := fun f g h => by cases h
theorem trodAll_lt {K : Type} {enc : TypeId × Value → K} {P : Program} {w : World} {base : Nat} {spare : Nat → Bool} {held : Bool} : ∀ {ts : List TypeId} {vs : List Value} {ds : List (DataW K)} {p : List MemPlace}, DataW.TrodAll enc P w base spare held ts vs ds p → ∀ x ∈ p, x.block < w.heap.size
  | [], [], [], p, h => by simp only [DataW.TrodAll] at h; subst h; simp
  | t :: ts, v :: vs, d :: ds, p, h => by
    simp only [DataW.TrodAll] at h
    obtain ⟨p1, q1, ⟨n, h1⟩, h2, rfl⟩ := h
    intro x hx
    rcases List.mem_append.1 hx with hx | hx
    · exact DataW.trod_lt _ _ _ _ h1 x hx
    · exact trodAll_lt h2 x hx
  | [], _ :: _, _, _, h => by simp [DataW.TrodAll] at h
  | [], [], _ :: _, _, h => by simp [DataW.TrodAll] at h
  | _ :: _, [], _, _, h => by simp [DataW.TrodAll] at h
  | _ :: _, _ :: _, [], _, h => by simp [DataW.TrodAll] at h
theorem trodAll_len {K : Type} {enc : TypeId × Value → K} {P : Program} {w : World} {base : Nat} {spare : Nat → Bool} {held : Bool} : ∀ {ts : List TypeId} {vs : List Value} {ds : List (DataW K)} {p : List MemPlace}, DataW.TrodAll enc P w base spare held ts vs ds p → ds.length = ts.length
  | [], [], [], p, h => rfl
  | t :: ts, v :: vs, d :: ds, p, h => by
    simp only [DataW.TrodAll] at h
    obtain ⟨p1, q1, ⟨n, h1⟩, h2, rfl⟩ := h
    simp [trodAll_len h2]
  | [], _ :: _, _, _, h => by simp [DataW.TrodAll] at h
  | [], [], _ :: _, _, h => by simp [DataW.TrodAll] at h
  | _ :: _, [], _, _, h => by simp [DataW.TrodAll] at h
  | _ :: _, _ :: _, [], _, h => by simp [DataW.TrodAll] at h
theorem trodAll_stays {K : Type} {enc : TypeId × Value → K} {P : Program} {W W' : World} (hl : laidOutB P = true) (hb : Below W.heap.size W W') : ∀ {ts : List TypeId} {vs : List Value} {ds : List (DataW K)} {p : List MemPlace},
    (ts.all fun t => P.readableRec t && decide (t < P.types.size)) = true → DataW.TrodAll enc P W 0 (fun _ => true) true ts vs ds p → DataW.TrodAll enc P W' 0 (fun b => decide (b < W.heap.size)) true ts vs ds p
  | [], [], [], p, _, h => h
  | t :: ts, v :: vs, d :: ds, p, hr, h => by
    simp only [List.all_cons, Bool.and_eq_true, decide_eq_true_eq] at hr
    simp only [DataW.TrodAll] at h ⊢
    obtain ⟨p1, q1, h1, h2, rfl⟩ := h
    refine ⟨p1, q1, Below.trod hl hr.1.1 hr.1.2 h1 hb (by obtain ⟨n, hn⟩ := h1; exact DataW.trod_lt _ _ _ _ hn), trodAll_stays hl hb ?_ h2, rfl⟩
    exact hr.2
  | [], _ :: _, _, _, _, h => by simp [DataW.TrodAll] at h
  | [], [], _ :: _, _, _, h => by simp [DataW.TrodAll] at h
  | _ :: _, [], _, _, _, h => by simp [DataW.TrodAll] at h
  | _ :: _, _ :: _, [], _, _, h => by simp [DataW.TrodAll] at h

/-- What is to be shown of a law in the ideal: whatever fitting arguments lie in rows that are only read, it returns true. -/
def Good1 (P : Program) (T : Table) (f : FuncId) (as : List AT) : Prop := ∀ (H : Heap) (ivs : List IV), FitAll H as ivs → ∃ H', den P T f ivs H = some (.bool true, H')

theorem rel_start (W : World) : Rel W.heap.size W (fun _ => none) [] W :=
  ⟨Below.refl _ _, Nat.le_refl _, (fun _ _ h => by cases h), (fun i o h => by simp at h), (fun i j o p l k h => by simp at h)⟩

theorem calls_good {P : Program} {T : Table} (hT : SoundT P T) {f : FuncId} {as : List AT} (hg : Good1 P T f as) (hm : P.follows .mixedOrders = true) {K : Type} {enc : TypeId × Value → K} {ts : List TypeId} {n : Nat} (ha : atsOf P n ts = some as) {W : World} {args : Array Value} {ds : List (DataW K)} {p : List MemPlace} {r : Reach} {b0 : Nat}
    (hv : ∀ (j : Nat) t v, ts[j]? = some t → args.toList[j]? = some v → Value.okWide P W r b0 t v) (ht : DataW.TrodAll enc P W 0 (fun _ => true) true ts args.toList ds p) :
    Calls P f args W fun e W' => e = .returned (.bool true) ∧ Below W.heap.size W W' := by
  obtain ⟨m, X, ivs, _, hR, hV, hF⟩ := open_all rfl ha hv ht (rel_start W)
  obtain ⟨H', hd⟩ := hg _ ivs hF
  refine (sound_den hT hm f ivs _ _ H' hd W.heap.size W W m args hR hV).mono ?_
  rintro e W' ⟨m', u, rfl, _, hR', hu⟩
  simp only [VR] at hu; subst hu
  exact ⟨rfl, hR'.below⟩

theorem post_same' {K : Type} {enc : TypeId × Value → K} {P : Program} {fn : Func} {s : ChangeSpec} {tb : TypeId} (hvars : s.vars = []) (hrt : fn.resultTypes.toList = [tb]) (hsz : fn.resultTypes.size = 1) (htb : P.underlying tb = some .bool)
    (hs : ∀ ds : List (DataW K), ds.length = fn.params.toList.length → s.fn K ds = { results := [.lit (.bool true)], args := ds }) (hl : laidOutB P = true)
    (hr : (fn.params.toList.all fun t => P.readableRec t && decide (t < P.types.size)) = true) {W W' : World} {args : Array Value} {ds gs : List (DataW K)} {before : List MemPlace} (hW : DataW.Whole enc P fn.params.toList s.vars false W args.toList ds gs before) (bel : Below W.heap.size W W') :
    s.post enc P fn false true false false W args (.bool true) W' := by
  have hW' := hW
  obtain ⟨p, q, hA, hV, rfl, hfz, hnd⟩ := hW
  rw [hvars] at hV
  obtain ⟨rfl, rfl⟩ := trodVars_none hV
  have hfn := hs ds (trodAll_len hA)
  refine ⟨ds, [], _, [], p, [], hW', ?_, ?_, ?_, bel.frame _, fun h => by cases h⟩
  · rw [List.append_nil, hfn, hrt, hsz]
    exact trodAll_mk1 (shut_bool htb _)
  · rw [List.append_nil, hfn]
    exact trodAll_stays hl bel hr hA
  · rw [List.append_nil, hfn, hvars]; rfl
end Go.Shade
