/- SHADE, part 32: low code with what follows handed on: it unfolds by itself to plain functions. -/
import Derived.Test.YtdljmmdbpngchaaShadeEval
import Derived.Test.YtdljmmdbpngchaaShadeGc
namespace Go.Shade
open Go.RowKit
set_option linter.unusedSimpArgs false
set_option linter.unusedVariables false

def lstV (H : Heap) (n : Nat) (a x : IV) : Option (IV × Heap) := match lstore H n a x with
  | some H' => some (.tuple [], H')
  | none => none
def lupdV (H : Heap) (k : LS) (d i x : IV) : Option (IV × Heap) := match lupdate H k d i x with
  | some H' => some (.tuple [], H')
  | none => none
def ldelV (H : Heap) (k : LS) (d i : IV) : Option (IV × Heap) := match ldelete H k d i with
  | some H' => some (.tuple [], H')
  | none => none
def lmkMn (H : Heap) (x : IV) : Option (IV × Heap) := match x with
  | .int .. => some (.map H.length, H ++ [.map [] 0])
  | _ => none
def lmkS (H : Heap) (s b : Nat) (z : List IV) (l c : IV) : Option (IV × Heap) := match l, c with
  | .int _ l, .int _ c => if 0 ≤ l ∧ l ≤ c ∧ b * c ≤ 281474976710656 ∧ c ≤ 9223372036854775807 then some (.slice H.length 0 l.toNat c.toNat true s, H ++ [.row (zrep c.toNat z) false]) else none
  | _, _ => none
def ls2b (H : Heap) (x : IV) : Option (IV × Heap) := match x with
  | .str l => some (.slice H.length 0 l.length l.length false 1, H ++ [.row (l.map fun b => .int .u8 b.toNat) false])
  | _ => none
def lcpy (H : Heap) (s : Nat) (d x : IV) : Option (IV × Heap) := match lcopy H s d x with
  | some (.val v, H') => some (v, H')
  | _ => none
def lclrM (H : Heap) (d : IV) : Option (IV × Heap) := match d with
  | .nilMap => some (.tuple [], H)
  | .map r => match H[r]? with
    | some (.map _ clock) => some (.tuple [], H.set r (.map [] clock))
    | _ => none
  | _ => none
def lclrS (H : Heap) (z : List IV) (d : IV) : Option (IV × Heap) := match d with
  | .nilSlice => some (.tuple [], H)
  | .slice b o n lb _ _ =>
    if n = 0 then some (.tuple [], H) else
    match H[b]? with
    | some (.row cs false) => if o + (zrep n z).length ≤ cs.length then some (.tuple [], H.set b (.row (putAt cs o (zrep n z)) false)) else none
    | _ => none
  | _ => none
/-- What changes the heap, as a value and a heap. -/
def leV (cal : FuncId → Bool) (φ : Oracle) (H : Heap) (σ : Sg) : LOp → Option (IV × Heap)
  | .box x => lbox H (la σ x)
  | .zbox z => some (.ptr H.length 0, H ++ [.row z.cells false])
  | .bldS s n z parts => lbldS H s n z (lps σ parts)
  | .st n a x => lstV H n (la σ a) (la σ x)
  | .mkM => some (.map H.length, H ++ [.map [] 0])
  | .mkMn x => lmkMn H (la σ x)
  | .mkS s b z l c => lmkS H s b z (la σ l) (la σ c)
  | .upd k d i x => lupdV H k (la σ d) (la σ i) (la σ x)
  | .s2b x => ls2b H (la σ x)
  | .app s b d x => lapp H s b (la σ d) (la σ x)
  | .cpy s d x => lcpy H s (la σ d) (la σ x)
  | .clrM d => lclrM H (la σ d)
  | .clrS z d => lclrS H z (la σ d)
  | .del k d i => ldelV H k (la σ d) (la σ i)
  | .callF g args => φ g (las σ args) H
  | .callV f args => lcallV cal φ H (la σ f) (las σ args)
  | _ => none
theorem lcopy_val {H : Heap} {s : Nat} {d x : IV} {r : INext × Heap} (h : lcopy H s d x = some r) : ∃ v H', r = (.val v, H') := by
  unfold lcopy at h
  obtain ⟨nx, _, h⟩ := oB h
  obtain ⟨nd, _, h⟩ := oB h
  split at h
  · cases h
  · cases h; exact ⟨_, _, rfl⟩
  · split at h
    · cases h; exact ⟨_, _, rfl⟩
    · obtain ⟨new, _, h⟩ := oB h
      split at h
      · split at h
        · cases h; exact ⟨_, _, rfl⟩
        · cases h
      · cases h
  · cases h
theorem leV_eq {cal : FuncId → Bool} {φ : Oracle} {H : Heap} {σ : Sg} {op : LOp} (h : isLE op = true) : leV cal φ H σ op = lstepV φ H (le cal H σ op) := by
  cases op <;> simp only [isLE] at h <;> first | (cases h; done) | skip
  · simp only [leV, le, lbox, ibox]; split <;> rfl
  · rfl
  · rename_i s n z parts
    simp only [leV, le, lbldS]
    cases ifill (fun i => some (i * s, s)) (zrep n z) (lps σ parts) with
    | none => rfl
    | some c => simp only [Option.bind_some]; split <;> rfl
  · rename_i n a x
    simp only [leV, le, lstV]
    cases lstore H n (la σ a) (la σ x) <;> rfl
  · rfl
  · rename_i x
    simp only [leV, le, lmkMn]
    cases la σ x <;> rfl
  · rename_i s b z l c
    simp only [leV, le, lmkS]
    cases la σ l <;> cases la σ c <;> first | rfl | (simp only; split <;> rfl)
  · rename_i k d i x
    simp only [leV, le, lupdV]
    cases lupdate H k (la σ d) (la σ i) (la σ x) <;> rfl
  · rename_i x
    simp only [leV, le, ls2b]
    cases la σ x <;> rfl
  · rename_i s b d x
    simp only [leV, le, lapp]
    cases h : lappend H s b (la σ d) (la σ x) with
    | none => rfl
    | some r => obtain ⟨v, H', rfl⟩ := lappend_val h; rfl
  · rename_i s d x
    simp only [leV, le, lcpy]
    cases h : lcopy H s (la σ d) (la σ x) with
    | none => rfl
    | some r => obtain ⟨v, H', rfl⟩ := lcopy_val h; rfl
  · rename_i d
    simp only [leV, le, lclrM]
    cases la σ d <;> first | rfl | skip
    rename_i r
    simp only
    generalize H[r]? = q
    rcases q with _ | o
    · rfl
    · cases o <;> rfl
  · rename_i z d
    simp only [leV, le, lclrS]
    cases la σ d <;> first | rfl | skip
    simp only
    split
    · rfl
    · rename_i b o n lb ex sz hn
      generalize H[b]? = q
      rcases q with _ | o'
      · rfl
      · cases o' with
        | row cs ro => cases ro <;> first | rfl | (simp only; split <;> rfl)
        | _ => rfl
  · rename_i k d i
    simp only [leV, le, ldelV]
    cases ldelete H k (la σ d) (la σ i) <;> rfl
  · rfl
  · rename_i f args
    simp only [leV, le, lcallV]
    cases la σ f with
    | func fn first cap =>
      cases fn with
      | func g => simp only; split <;> rfl
      | _ => rfl
    | _ => rfl

def gq (b : Bool) (x : Option IV) : Option IV := if b = true then x else some (.tuple [])
def ge (b : Bool) (H : Heap) (x : Option (IV × Heap)) : Option (IV × Heap) := if b = true then x else some (.tuple [], H)
def cnd {R : Type} (v : IV) (a b : Option R) : Option R := match v with
  | .bool true => a
  | .bool false => b
  | _ => none
section
variable {R : Type}
def lopK (cal : FuncId → Bool) (φ : Oracle) (p : LO) (σ : Sg) (H : Heap) (k : IV → Heap → Option R) : Option R :=
  match p.g with
  | none => bif isLE p.op then ob (leV cal φ H σ p.op) fun r => k r.1 r.2 else ob (lq H σ p.op) fun v => k v H
  | some (t, w) => bif isLE p.op then ob (ge (isB (lk σ t) w) H (leV cal φ H σ p.op)) fun r => k r.1 r.2 else ob (gq (isB (lk σ t) w) (lq H σ p.op)) fun v => k v H
def lopsK (cal : FuncId → Bool) (φ : Oracle) : List LO → Sg → Heap → (Sg → Heap → Option R) → Option R
  | [], σ, H, k => k σ H
  | p :: ps, σ, H, k => lopK cal φ p σ H fun v H' => lopsK cal φ ps (pput σ p.d v) H' k
def ltraceK (cal : FuncId → Bool) (φ : Oracle) : List LO → Sg → Heap → (List LRec → Sg → Heap → Option R) → Option R
  | [], σ, H, k => k [] σ H
  | p :: ps, σ, H, k => lopK cal φ p σ H fun v H' => ltraceK cal φ ps (pput σ p.d v) H' fun rs => k (⟨p, σ, H, v, H'⟩ :: rs)
def ckd (b : Bool) (x : Option R) : Option R := if b = true then x else none
abbrev KT (R : Type) := IX → Sg → Heap → Option R
def seqK (b : Sg → Heap → KT R → Option R) (k : KT R) : KT R
  | .normal, σ, H => b σ H k
  | .exit id, σ, H => k (.exit id) σ H
  | .ret, σ, H => k .ret σ H
def blockK (id : Nat) (k : KT R) : KT R
  | .normal, σ, H => k .normal σ H
  | .exit id', σ, H => bif Nat.beq id' id then k .normal σ H else k (.exit id') σ H
  | .ret, σ, H => k .ret σ H
def itK (body : Sg → Heap → KT R → Option R) : Nat → Sg → Heap → KT R → Option R
  | 0, _, _, _ => none
  | n + 1, σ, H, k => body σ H (seqK (itK body n) k)
def drwK (cal : FuncId → Bool) (φ : Oracle) (l : List LO) (ps : List (Nat × Nat)) (σ : Sg) (H : Heap) (k : Sg → Heap → Option R) : Option R :=
  match ps with
  | [] => lopsK cal φ l σ H k
  | p :: ps => ltraceK cal φ l σ H fun rs σ H => ckd ((p :: ps).all (llooseOk rs)) (k σ H)
def lxK (cal : FuncId → Bool) (φ : Oracle) (n : Nat) : LC → Sg → Heap → KT R → Option R
  | .skip, σ, H, k => k .normal σ H
  | .reg l, σ, H, k => lopsK cal φ l σ H (k .normal)
  | .drw l ps, σ, H, k => drwK cal φ l ps σ H (k .normal)
  | .seq a b, σ, H, k => lxK cal φ n a σ H (seqK (lxK cal φ n b) k)
  | .cond c a b, σ, H, k => cnd (la σ c) (lxK cal φ n a σ H k) (lxK cal φ n b σ H k)
  | .block id a, σ, H, k => lxK cal φ n a σ H (blockK id k)
  | .loop a, σ, H, k => itK (lxK cal φ n a) n σ H k
  | .exit id, σ, H, k => k (.exit id) σ H
  | .ret, σ, H, k => k .ret σ H
  | .bad, _, _, _ => none
theorem lxK_seq {cal : FuncId → Bool} {φ : Oracle} {n : Nat} {a b : LC} {σ : Sg} {H : Heap} {k : KT R} : lxK cal φ n (.seq a b) σ H k = lxK cal φ n a σ H (seqK (lxK cal φ n b) k) := id rfl
theorem lxK_block {cal : FuncId → Bool} {φ : Oracle} {n id : Nat} {a : LC} {σ : Sg} {H : Heap} {k : KT R} : lxK cal φ n (.block id a) σ H k = lxK cal φ n a σ H (blockK id k) := rfl
theorem lxK_loop {cal : FuncId → Bool} {φ : Oracle} {n : Nat} {a : LC} {σ : Sg} {H : Heap} {k : KT R} : lxK cal φ n (.loop a) σ H k = itK (lxK cal φ n a) n σ H k := id rfl
theorem itK_succ {b : Sg → Heap → KT R → Option R} {n : Nat} {σ : Sg} {H : Heap} {k : KT R} : itK b (n + 1) σ H k = b σ H (seqK (itK b n) k) := id rfl
/-- A place where ways meet. -/
def jn {A : Type} (f : A) (g : A → Option R) : Option R := g f

theorem lopK_eq {cal : FuncId → Bool} {φ : Oracle} (p : LO) (σ : Sg) (H : Heap) (k : IV → Heap → Option R) : lopK cal φ p σ H k = (lopV cal φ p σ H).bind fun r => k r.1 r.2 := by
  unfold lopK lopV lstep
  cases p.g with
  | none =>
    simp only
    cases hE : isLE p.op with
    | true => simp only [cond_true, if_true, leV_eq hE, ob]
    | false =>
      simp only [cond_false, Bool.false_eq_true, if_false, ob]
      cases lq H σ p.op <;> rfl
  | some q =>
    obtain ⟨t, w⟩ := q
    simp only
    cases hE : isLE p.op with
    | true =>
      simp only [cond_true, if_true, ob, ge]
      split
      · rw [leV_eq hE]
      · rfl
    | false =>
      simp only [cond_false, Bool.false_eq_true, if_false, ob, gq]
      split
      · cases lq H σ p.op <;> rfl
      · rfl
theorem lopsK_eq {cal : FuncId → Bool} {φ : Oracle} : ∀ (l : List LO) (σ : Sg) (H : Heap) (k : Sg → Heap → Option R), lopsK cal φ l σ H k = (lops cal φ l σ H).bind fun r => k r.1 r.2
  | [], σ, H, k => rfl
  | p :: ps, σ, H, k => by
    simp only [lopsK, lops, lopK_eq, Option.bind_assoc]
    congr 1
    funext r
    exact lopsK_eq ps _ _ k
theorem ltraceK_eq {cal : FuncId → Bool} {φ : Oracle} : ∀ (l : List LO) (σ : Sg) (H : Heap) (k : List LRec → Sg → Heap → Option R), ltraceK cal φ l σ H k = (ltrace cal φ l σ H).bind fun r => k r.1 r.2.1 r.2.2
  | [], σ, H, k => rfl
  | p :: ps, σ, H, k => by
    simp only [ltraceK, ltrace, lopK_eq, Option.bind_assoc]
    congr 1
    funext r
    rw [ltraceK_eq ps]
    rfl
theorem itK_eq {f : PBody} {b : Sg → Heap → (IX → Sg → Heap → Option R) → Option R} (h : ∀ σ H k, b σ H k = (f σ H).bind fun r => k r.1 r.2.1 r.2.2) : ∀ (n : Nat) (σ : Sg) (H : Heap) (k : IX → Sg → Heap → Option R), itK b n σ H k = (piter f n σ H).bind fun r => k r.1 r.2.1 r.2.2
  | 0, σ, H, k => rfl
  | n + 1, σ, H, k => by
    simp only [itK, piter, h, Option.bind_assoc]
    congr 1
    funext r
    obtain ⟨x, σ', H'⟩ := r
    cases x with
    | normal => exact itK_eq h n σ' H' k
    | exit id => rfl
    | ret => rfl
theorem lxK_eq {cal : FuncId → Bool} {φ : Oracle} {n : Nat} : ∀ (c : LC) (σ : Sg) (H : Heap) (k : IX → Sg → Heap → Option R), lxK cal φ n c σ H k = (lexec cal φ n c σ H).bind fun r => k r.1 r.2.1 r.2.2 := by
  intro c
  induction c with
  | skip => intro σ H k; rfl
  | reg l => intro σ H k; simp only [lxK, lexec, lopsK_eq, Option.bind_assoc]; rfl
  | drw l ps =>
    intro σ H k
    cases ps with
    | nil => simp only [lxK, lexec, drwK, ldraw, lopsK_eq, Option.bind_assoc]; rfl
    | cons p ps =>
      simp only [lxK, lexec, drwK, ldraw, ltraceK_eq, Option.bind_assoc]
      congr 1
      funext q
      unfold ckd
      split <;> rfl
  | seq a b iha ihb =>
    intro σ H k
    simp only [lxK, lexec, iha, Option.bind_assoc]
    congr 1
    funext r
    obtain ⟨x, σ', H'⟩ := r
    cases x with
    | normal => exact ihb σ' H' k
    | exit id => rfl
    | ret => rfl
  | cond c a b iha ihb =>
    intro σ H k
    simp only [lxK, lexec, cnd, iha, ihb]
    cases la σ c with
    | bool t => cases t <;> rfl
    | _ => rfl
  | block id a ih =>
    intro σ H k
    simp only [lxK, lexec, ih, Option.bind_assoc]
    congr 1
    funext r
    obtain ⟨x, σ', H'⟩ := r
    cases x with
    | normal => rfl
    | exit id' =>
      simp only [blockK]
      by_cases e : id' = id
      · subst e; rw [if_pos rfl, show Nat.beq id' id' = true from Nat.beq_refl id']; rfl
      · rw [if_neg e]
        have : Nat.beq id' id = false := by
          cases hb : Nat.beq id' id with
          | false => rfl
          | true => exact absurd (Nat.eq_of_beq_eq_true hb) e
        rw [this]; rfl
    | ret => rfl
  | loop a ih =>
    intro σ H k
    simp only [lxK, lexec]
    exact itK_eq ih n σ H k
  | exit id => intro σ H k; rfl
  | ret => intro σ H k; rfl
  | bad => intro σ H k; rfl
end
def resK : List LRes → List IV → Sg → Heap → Option (IV × Heap)
  | [], acc, σ, H => some (pack acc.reverse, H)
  | .tmp t :: rs, acc, σ, H => resK rs (lk σ t :: acc) σ H
  | .cell1 t :: rs, acc, σ, H => ob (lload1 H (lk σ t)) fun v => resK rs (v :: acc) σ H
  | .celln t n :: rs, acc, σ, H => ob (lloadn H n (lk σ t)) fun v => resK rs (v :: acc) σ H
theorem resK_eq : ∀ (rs : List LRes) (acc : List IV) (σ : Sg) (H : Heap), resK rs acc σ H = (lresults σ H rs).bind fun vs => some (pack (acc.reverse ++ vs), H)
  | [], acc, σ, H => by simp [resK, lresults]
  | r :: rs, acc, σ, H => by
    cases r <;> simp only [resK, lresults, lresult, ob, Option.bind_some, Option.bind_assoc, resK_eq rs, List.reverse_cons, List.append_assoc, List.cons_append, List.nil_append]
def endK (rs : List LRes) : IX → Sg → Heap → Option (IV × Heap)
  | .exit _, _, _ => none
  | .normal, σ, H => resK rs [] σ H
  | .ret, σ, H => resK rs [] σ H
def lrunK (cal : FuncId → Bool) (φ : Oracle) (n : Nat) (lf : LFun) (args : List IV) (H : Heap) : Option (IV × Heap) := lxK cal φ n lf.pc (initFrom 0 args) H (endK lf.rs)
theorem lrunK_le {cal : FuncId → Bool} {φ : Oracle} {n : Nat} {lf : LFun} {args : List IV} {H : Heap} {r : IV × Heap} (h : lrunK cal φ n lf args H = some r) : lrun cal φ lf args H = some r := by
  unfold lrunK at h
  rw [lxK_eq] at h
  obtain ⟨q, h1, h2⟩ := oB h
  unfold lrun
  rw [lxd_some.2 ⟨n, h1⟩]
  obtain ⟨x, σ, H'⟩ := q
  cases x with
  | normal => simp only [endK, resK_eq] at h2; simpa [lback] using h2
  | ret => simp only [endK, resK_eq] at h2; simpa [lback] using h2
  | exit id => simp [endK] at h2
/-! ### what follows, told by parts -/
section
variable {R : Type}
def kN (f : Sg → Heap → Option R) (k : KT R) : KT R
  | .normal, σ, H => f σ H
  | .exit id, σ, H => k (.exit id) σ H
  | .ret, σ, H => k .ret σ H
def kE (id : Nat) (f : Sg → Heap → Option R) (k : KT R) : KT R
  | .normal, σ, H => k .normal σ H
  | .exit id', σ, H => bif Nat.beq id' id then f σ H else k (.exit id') σ H
  | .ret, σ, H => k .ret σ H
def kR (f : Sg → Heap → Option R) (k : KT R) : KT R
  | .normal, σ, H => k .normal σ H
  | .exit id, σ, H => k (.exit id) σ H
  | .ret, σ, H => f σ H
theorem kN_mk {f : Sg → Heap → Option R} {k k' : KT R} (h : ∀ σ H, k .normal σ H = f σ H) (e : k = k') : k = kN f k' := by
  subst e; funext x σ H; cases x <;> first | exact h σ H | rfl
theorem kE_mk {id : Nat} {f : Sg → Heap → Option R} {k k' : KT R} (h : ∀ σ H, k (.exit id) σ H = f σ H) (e : k = k') : k = kE id f k' := by
  subst e; funext x σ H
  cases x with
  | exit id' =>
    simp only [kE]
    cases hb : Nat.beq id' id with
    | false => rfl
    | true => have := Nat.eq_of_beq_eq_true hb; subst this; exact h σ H
  | _ => rfl
theorem kR_mk {f : Sg → Heap → Option R} {k k' : KT R} (h : ∀ σ H, k .ret σ H = f σ H) (e : k = k') : k = kR f k' := by
  subst e; funext x σ H; cases x <;> first | exact h σ H | rfl
theorem seqK_mk {b : Sg → Heap → KT R → Option R} {k : KT R} {g : Sg → Heap → Option R} (h : ∀ σ H, b σ H k = g σ H) : seqK b k = kN g k := by
  funext x σ H; cases x <;> first | exact h σ H | rfl
end
def lzbox (H : Heap) (z : IV) : Option (IV × Heap) := some (.ptr H.length 0, H ++ [.row z.cells false])
def lmkM (H : Heap) : Option (IV × Heap) := some (.map H.length, H ++ [.map [] 0])
def lixg (n : Nat) (x i : IV) : Option IV := match x, i with
  | .agg cs, .int _ j => if 0 ≤ j ∧ j < n then cs[j.toNat]? else none
  | _, _ => none
def lbld (z : List IV) (parts : List (Nat × Nat × IV)) : Option IV := (lfill z parts).bind fun r => some (.agg r)
def lasrt (t : TypeId) (z : IV) (ok : Bool) (x : IV) : Option IV := match x with
  | .nilIface => if ok then some (.tuple [z, .bool false]) else none
  | .iface t' v => if t' = t then some (if ok then .tuple [v, .bool true] else v) else if ok then some (.tuple [z, .bool false]) else none
  | _ => none
/-! ### rules -/
theorem gq_true {x : Option IV} : gq true x = x := id rfl
theorem gq_false {x : Option IV} : gq false x = some (.tuple []) := id rfl
theorem ge_true {H : Heap} {x : Option (IV × Heap)} : ge true H x = x := id rfl
theorem ge_false {H : Heap} {x : Option (IV × Heap)} : ge false H x = some (.tuple [], H) := id rfl
theorem cnd_true {R : Type} {a b : Option R} : cnd (.bool true) a b = a := id rfl
theorem cnd_false {R : Type} {a b : Option R} : cnd (.bool false) a b = b := id rfl
@[congr] theorem gq_congr {b b' : Bool} {x : Option IV} (h : b = b') : gq b x = gq b' x := by rw [h]
@[congr] theorem ge_congr {b b' : Bool} {H : Heap} {x : Option (IV × Heap)} (h : b = b') : ge b H x = ge b' H x := by rw [h]
@[congr] theorem cnd_congr {R : Type} {v v' : IV} {a b : Option R} (h : v = v') : cnd v a b = cnd v' a b := by rw [h]
theorem jn_eq {R A : Type} {f : A} {g : A → Option R} : jn f g = g f := id rfl
theorem lzbox_eq {H : Heap} {z : IV} : lzbox H z = some (.ptr H.length 0, H ++ [.row z.cells false]) := id rfl
theorem cells_agg {cs : List IV} : IV.cells (.agg cs) = cs := id rfl
theorem cells_one {v : IV} (h : v.one = true) : v.cells = [v] := by cases v <;> first | rfl | (simp [IV.one] at h)
theorem lmkM_eq {H : Heap} : lmkM H = some (.map H.length, H ++ [.map [] 0]) := id rfl
theorem lstV_ptr {H : Heap} {n b o : Nat} {x : IV} : lstV H n (.ptr b o) x = ob (putO (H[b]?) b o n x H) fun H' => some (.tuple [], H') := by
  unfold lstV
  rw [lstore_ptr]
  cases putO (H[b]?) b o n x H <;> rfl
theorem ckd_true {R : Type} {x : Option R} : ckd true x = x := id rfl
attribute [go_sem ↓] gq_true gq_false ge_true ge_false cnd_true cnd_false
attribute [go_sem] lzbox_eq cells_agg cells_one lmkM_eq lstV_ptr Nat.zero_add Nat.add_zero ckd_true
end Go.Shade
