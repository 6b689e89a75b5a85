/- Part 0 of the proof. -/
import Derived.Calls
import Derived.Below
import Derived.LoopN
import Derived.Orders
import Derived.WalkKit
import Derived.Laws.IdiomCopy
import Derived.Laws.StructEq
import Derived.Laws.Slices
import Derived.Laws.BytesString
import Derived.Laws.Tables
import Derived.Lib.Bytealg
import Derived.KernelRfl
import Derived.Laws.Externs
import Derived.Lib.AppendZerosOnto
set_option linter.all false
namespace Go.Shade
theorem obs {α β : Type _} {o : Option α} {f : α → Option β} {b : β} (h : o.bind f = some b) : ∃ a, o = some a ∧ f a = some b := Option.bind_eq_some_iff.1 h
theorem ges {α : Type _} {l : List α} {i : Nat} {a : α} (h : l[i]? = some a) : ∃ h : i < l.length, l[i] = a := List.getElem?_eq_some_iff.1 h
theorem nble {a b : Nat} (h : Nat.ble a b = true) : a ≤ b := Nat.le_of_ble_eq_true h
open Go.RowKit
variable {i : Nat}
inductive IV where
 | bool (b:Bool)
 | int (k:IntKind) (n:Int)
 | str (s:List UInt8)
 | ptr (b o:Nat)
 | nilPtr
 | slice (b o n lb:Nat) (ex:Bool) (sz:Nat)
 | nilSlice
 | map (r:Nat)
 | nilMap
 | func (f:Fn) (first captured:List IV)
 | nilFunc
 | iface (t:TypeId) (v:IV)
 | nilIface
 | agg (cs:List IV)
 | tuple (vs:List IV)
 deriving Inhabited
structure Loc where
 cb:Nat
 co:Nat
 cs:Nat
abbrev Mp :=Nat->Option Loc
def Ext (m m':Mp):Prop:=∀i l,m i=some l->m' i=some l
theorem Ext.refl (m:Mp):Ext m m:=fun _ _ h=>h
theorem Ext.trans {a b c:Mp}(h:Ext a b)(k:Ext b c):Ext a c:=fun i l e=>k i l (h i l e)
mutual
def VR (m:Mp):IV->Value->Prop
 | .bool b,v=>v=.bool b
 | .int k n,v=>v=.int k n
 | .str s,v=>v=.string ⟨s.toArray⟩
 | .ptr b o,v=>∃l,m b=some l/\v=.pointer (some ⟨l.cb,l.co+o,none⟩)
 | .nilPtr,v=>v=.pointer none
 | .slice b o n lb ex sz,v=>∃l o' c sp,m b=some l/\v=.slice (some ⟨l.cb,o',sp⟩) n c/\n<=lb/\lb<=c/\(ex=true->c=lb)/\(0<lb->o'=l.co+o/\sp=none)/\(0<sz->o'+c*sz<=l.cs/\sp=none)
 | .nilSlice,v=>v=.slice none 0 0
 | .map r,v=>∃l,m r=some l/\v=.map (some l.cb)
 | .nilMap,v=>v=.map none
 | .func f a b,v=>∃a' b',v=.func f a' b'/\VRs m a a'.toList/\VRs m b b'.toList
 | .nilFunc,v=>v=.nilFunc
 | .iface t x,v=>∃y,v=.iface t y/\VR m x y
 | .nilIface,v=>v=.nilIface
 | .agg l,v=>∃a,v=.agg a/\VRs m l a.toList
 | .tuple l,v=>∃a,v=.tuple a/\VRs m l a.toList
def VRs (m:Mp):List IV->List Value->Prop
 | [],vs=>vs=[]
 | x::xs,vs=>∃v vs',vs=v::vs'/\VR m x v/\VRs m xs vs'
end
theorem VR_int (m:Mp)(k:IntKind)(n:Int):VR m (.int k n) (.int k n):=by simp only[VR]
theorem VR_bool (m:Mp)(b:Bool):VR m (.bool b) (.bool b):=by simp only[VR]
theorem VR_str (m:Mp)(s:List UInt8):VR m (.str s) (.string ⟨s.toArray⟩):=by simp only[VR]
mutual
theorem VR.ext {m m':Mp}(hm:Ext m m'):∀(x:IV) (v:Value),VR m x v->VR m' x v
 | .bool b,v,h=>by simpa[VR]using h
 | .int k n,v,h=>by simpa[VR]using h
 | .str s,v,h=>by simpa[VR]using h
 | .ptr b o,v,h=>by
  obtain⟨l,h1,h2⟩:=by simpa only[VR]using h
  simp only[VR];exact⟨l,hm _ _ h1,h2⟩
 | .nilPtr,v,h=>by simpa[VR]using h
 | .slice b o n lb ex sz,v,h=>by
  obtain⟨l,o',c,sp,h1,h2⟩:=by simpa only[VR]using h
  simp only[VR];exact⟨l,o',c,sp,hm _ _ h1,h2⟩
 | .nilSlice,v,h=>by simpa[VR]using h
 | .map r,v,h=>by
  obtain⟨l,h1,h2⟩:=by simpa only[VR]using h
  simp only[VR];exact⟨l,hm _ _ h1,h2⟩
 | .nilMap,v,h=>by simpa[VR]using h
 | .func f a b,v,h=>by
  obtain⟨a',b',h1,h2,h3⟩:=by simpa only[VR]using h
  simp only[VR];exact⟨a',b',h1,VRs.ext hm a _ h2,VRs.ext hm b _ h3⟩
 | .nilFunc,v,h=>by simpa[VR]using h
 | .iface t x,v,h=>by
  obtain⟨y,h1,h2⟩:=by simpa only[VR]using h
  simp only[VR];exact⟨y,h1,VR.ext hm x _ h2⟩
 | .nilIface,v,h=>by simpa[VR]using h
 | .agg l,v,h=>by
  obtain⟨a,h1,h2⟩:=by simpa only[VR]using h
  simp only[VR];exact⟨a,h1,VRs.ext hm l _ h2⟩
 | .tuple l,v,h=>by
  obtain⟨a,h1,h2⟩:=by simpa only[VR]using h
  simp only[VR];exact⟨a,h1,VRs.ext hm l _ h2⟩
theorem VRs.ext {m m':Mp}(hm:Ext m m'):∀(xs:List IV) (vs:List Value),VRs m xs vs->VRs m' xs vs
 | [],vs,h=>by simpa[VRs]using h
 | x::xs,vs,h=>by
  obtain⟨v,vs',h1,h2,h3⟩:=by simpa only[VRs]using h
  simp only[VRs];exact⟨v,vs',h1,VR.ext hm x _ h2,VRs.ext hm xs _ h3⟩
end
theorem VRs_iff {m:Mp}:∀(xs:List IV) (vs:List Value),VRs m xs vs↔(xs.length=vs.length/\∀(i:Nat) (x:IV),xs[i]? =some x->∃v,vs[i]? =some v/\VR m x v)
 | [],vs=>by
  simp only[VRs];constructor
  ·rintro rfl;simp
  ·rintro⟨h,_⟩;exact(List.length_eq_zero_iff.1 h.symm)
 | x::xs,vs=>by
  simp only[VRs];constructor
  ·rintro⟨v,vs',rfl,h2,h3⟩;obtain⟨h4,h5⟩:=(VRs_iff xs vs').1 h3;refine⟨by simp[h4],fun i y hy=> ?_⟩
   cases i with
   | zero=>simp at hy;subst hy;exact⟨v,by simp,h2⟩
   | succ i=>simpa using h5 i y (by simpa using hy)
  ·rintro⟨h4,h5⟩
   cases vs with
   | nil=>simp at h4
   | cons v vs' =>
    obtain⟨u,hu,h2⟩:=h5 0 x (by simp);simp at hu;subst hu;exact⟨v,vs',rfl,h2,(VRs_iff xs vs').2 ⟨by simpa using h4,fun i y hy=>by simpa using h5 (i+1) y (by simpa using hy)⟩⟩
theorem VRs.length {m:Mp}{xs:List IV}{vs:List Value}(h:VRs m xs vs):xs.length=vs.length:=((VRs_iff _ _).1 h).1
theorem VRs.get {m:Mp}{xs:List IV}{vs:List Value}(h:VRs m xs vs){x:IV}(hx:xs[i]? =some x):∃v,vs[i]? =some v/\VR m x v:=((VRs_iff _ _).1 h).2 i x hx
theorem VRs.append {m:Mp}:∀{xs:List IV} {vs:List Value} {ys:List IV} {us:List Value},VRs m xs vs->VRs m ys us->VRs m (xs++ys) (vs++us)
 | [],vs,ys,us,h,k=>by simp only[VRs]at h;subst h;simpa using k
 | x::xs,vs,ys,us,h,k=>by
  simp only[VRs]at h;obtain⟨v,vs',rfl,h2,h3⟩:=h;simp only[List.cons_append,VRs];exact⟨v,vs'++us,rfl,h2,h3.append k⟩
theorem VRs.set {m:Mp}{xs:List IV}{vs:List Value}(h:VRs m xs vs)(i:Nat){x:IV}{v:Value}(hx:VR m x v):VRs m (xs.set i x) (vs.set i v):=by
 rw[VRs_iff]at *;refine⟨by simp[h.1],fun j y hy=> ?_⟩;rw[List.getElem?_set]at hy ⊢;by_cases e:i=j
 ·subst e;simp only[if_true]at hy ⊢;split at hy
  ·rename_i hlt;simp only[Option.some.injEq]at hy;subst hy;exact⟨v,by simp[←h.1,hlt],hx⟩
  ·exact absurd hy (by simp)
 ·simp only[e,if_false]at hy ⊢;exact h.2 j y hy
theorem VRs.take {m:Mp}{xs:List IV}{vs:List Value}(h:VRs m xs vs)(n:Nat):VRs m (xs.take n) (vs.take n):=by
 rw[VRs_iff]at *;refine⟨by simp[h.1],fun j y hy=> ?_⟩;rw[List.getElem?_take]at hy ⊢;split at hy
 ·rename_i hlt;simpa[hlt]using h.2 j y hy
 ·exact absurd hy (by simp)
theorem VRs.drop {m:Mp}{xs:List IV}{vs:List Value}(h:VRs m xs vs)(n:Nat):VRs m (xs.drop n) (vs.drop n):=by
 rw[VRs_iff]at *;refine⟨by simp[h.1],fun j y hy=> ?_⟩;rw[List.getElem?_drop]at hy ⊢;exact h.2 _ y hy
theorem VRs.nil (m:Mp):VRs m [] []:=by simp[VRs]
theorem VRs.cons {m:Mp}{x:IV}{v:Value}{xs:List IV}{vs:List Value}(h:VR m x v)(k:VRs m xs vs):VRs m (x::xs) (v::vs):=by
 simp only[VRs];exact⟨v,vs,rfl,h,k⟩
theorem VRs.replicate {m:Mp}{x:IV}{v:Value}(h:VR m x v):∀n,VRs m (List.replicate n x) (List.replicate n v)
 | 0=>VRs.nil m
 | n+1=>by simp only[List.replicate_succ];exact VRs.cons h (VRs.replicate h n)
def IV.one :IV->Bool
 | .agg _ | .tuple _=>false
 | _=>true
def vone :Value->Bool
 | .agg _ | .tuple _=>false
 | _=>true
def IV.cells :IV->List IV
 | .agg cs=>cs
 | v=>[v]
theorem VR.one {m:Mp}{x:IV}{v:Value}(h:VR m x v)(hx:x.one=true):vone v=true:=by
 cases x<;>simp only[VR]at h<;>first
  | (subst h;rfl)
  | (simp[IV.one]at hx;done)
  | (obtain⟨l,h1,h2⟩:=h;subst h2;rfl)
  | (obtain⟨l,o,c,sp,h1,h2,_⟩:=h;subst h2;rfl)
  | (obtain⟨a,b,h1,_⟩:=h;subst h1;rfl)
  | (obtain⟨y,h1,_⟩:=h;subst h1;rfl)
theorem VR.cells {m:Mp}{x:IV}{v:Value}(h:VR m x v)(hx:∀l,x≠ .tuple l):VRs m x.cells v.cells.toList:=by
 cases x<;>simp only[VR]at h<;>first
  | (subst h;simp[IV.cells,Value.cells,VRs,VR];done)
  | (obtain⟨a,rfl,ha⟩:=h;simpa[IV.cells,Value.cells]using ha)
  | exact absurd rfl (hx _)
  | skip
 all_goals
  first
  | (obtain⟨l,h1,rfl⟩:=h;simp only[IV.cells,Value.cells];exact VRs.cons (by simp only[VR];exact⟨l,h1,rfl⟩) (VRs.nil m))
  | (obtain⟨l,o',c,sp,h1,rfl,h2⟩:=h;simp only[IV.cells,Value.cells];exact VRs.cons (by simp only[VR];exact⟨l,o',c,sp,h1,rfl,h2⟩) (VRs.nil m))
  | (obtain⟨a',b',rfl,h2⟩:=h;simp only[IV.cells,Value.cells];exact VRs.cons (by simp only[VR];exact⟨a',b',rfl,h2⟩) (VRs.nil m))
  | (obtain⟨y,rfl,h2⟩:=h;simp only[IV.cells,Value.cells];exact VRs.cons (by simp only[VR];exact⟨y,rfl,h2⟩) (VRs.nil m))
inductive IObj where
 | row (cs:List IV) (ro:Bool)
 | map (es:List (IV×IV×Nat)) (clock:Nat)
 | iter (r:Option Nat) (since:Nat) (seen:List Nat) (last:Nat)
 | dead
abbrev Heap :=List IObj
def ERel (m:Mp)(x:IV×IV×Nat)(e:MapEntry):Prop:=VR m x.1 e.key/\VR m x.2.1 e.val/\e.born=x.2.2
def Good (B0:Nat)(m:Mp)(w:World)(i:Nat):IObj->Prop
 | .row cs false=>∃l C e fr,m i=some l/\w.heap[l.cb]? =some (.cells C e fr)/\C.size=l.cs/\l.co+cs.length<=l.cs/\B0<=l.cb/\(∀j,j<l.cs->¬(fr.1<=j/\j<fr.2)) /\
   ∀j v,cs[j]? =some v->v.one=true/\∃u,C[l.co+j]? =some u/\VR m v u
 | .row cs true=>∃l,m i=some l/\(cs≠ []->∃C e fr,w.heap[l.cb]? =some (.cells C e fr)/\l.cb<B0/\∀j v,cs[j]? =some v->v.one=true/\∃u,C[l.co+j]? =some u/\VR m v u)
 | .map es clock=>∃l es',m i=some l/\w.heap[l.cb]? =some (.map es' clock)/\B0<=l.cb/\es.length=es'.size/\∀(j:Nat) x,es[j]? =some x->∃e,es'[j]? =some e/\ERel m x e
 | .iter r since seen last=>∃l r',m i=some l/\l.co=0/\w.heap[l.cb]? =some (.mapIter r' since seen.toArray last)/\B0<=l.cb/\((r=none/\r'=none)∨∃k lk,r=some k/\m k=some lk/\r'=some lk.cb)
 | .dead=>True
def IObj.held :IObj->Bool
 | .row _ false | .map _ _ | .iter .. =>true
 | _=>false
structure Rel (B0:Nat)(w0:World)(m:Mp)(H:Heap)(w:World):Prop where
 below:Below B0 w0 w
 base:B0<=w.heap.size
 dom:∀i l,m i=some l->i<H.length
 good:∀i o,H[i]? =some o->Good B0 m w i o
 inj:∀i j o p l k,H[i]? =some o->H[j]? =some p->o.held=true->p.held=true->i≠j->m i=some l->m j=some k->l.cb≠k.cb
theorem Good.held_ge {B0:Nat}{m:Mp}{w:World}{o:IObj}(h:Good B0 m w i o)(ho:o.held=true):∃l,m i=some l/\B0<=l.cb/\l.cb<w.heap.size:=by
 have key:∀{k:Nat} {x:Obj},w.heap[k]? =some x->k<w.heap.size:=fun hk=>(Array.getElem?_eq_some_iff.1 hk).1
 cases o with
 | row cs ro =>
  cases ro with
  | false=>obtain⟨l,C,e,fr,h1,h2,_,_,h3,_⟩:=h;exact⟨l,h1,h3,key h2⟩
  | true=>simp[IObj.held]at ho
 | map es c=>obtain⟨l,es',h1,h2,h3,_⟩:=h;exact⟨l,h1,h3,key h2⟩
 | iter r s e a=>obtain⟨l,r',h1,_,h2,h3,_⟩:=h;exact⟨l,h1,h3,key h2⟩
 | dead=>simp[IObj.held]at ho
theorem Good.ro_move {B0:Nat}{m m':Mp}{w w':World}{cs:List IV}(h:Good B0 m w i (.row cs true))(hm:Ext m m')(hw:∀l,m i=some l->l.cb<B0->l.cb<w.heap.size->w'.heap[l.cb]? =w.heap[l.cb]?):Good B0 m' w' i (.row cs true):=by
 obtain⟨l,h1,h2⟩:=h;refine⟨l,hm _ _ h1,fun hne=> ?_⟩;obtain⟨C,e,fr,h3,h4,h7⟩:=h2 hne;exact⟨C,e,fr,(hw l h1 h4 (Array.getElem?_eq_some_iff.1 h3).1).trans h3,h4,fun j v hj=>by obtain⟨h8,u,h9,h10⟩:=h7 j v hj;exact⟨h8,u,h9,h10.ext hm⟩⟩
theorem Good.move {B0:Nat}{m m':Mp}{w w':World}{i:Nat}{o:IObj}(h:Good B0 m w i o)(hm:Ext m m')(hw:∀l,m i=some l->l.cb<w.heap.size->w'.heap[l.cb]? =w.heap[l.cb]?):Good B0 m' w' i o:=by
 have key:∀{k:Nat} {x:Obj},w.heap[k]? =some x->k<w.heap.size:=fun hk=>(Array.getElem?_eq_some_iff.1 hk).1
 cases o with
 | row cs ro =>
  cases ro with
  | false =>
   obtain⟨l,C,e,fr,h1,h2,h3,h4,h5,h6,h7⟩:=h;exact⟨l,C,e,fr,hm _ _ h1,(hw l h1 (key h2)).trans h2,h3,h4,h5,h6,fun j v hj=>by obtain⟨h8,u,h9,h10⟩:=h7 j v hj;exact⟨h8,u,h9,h10.ext hm⟩⟩
  | true =>
   exact Good.ro_move h hm fun l hl _ hlt=>hw l hl hlt
 | map es c =>
  obtain⟨l,es',h1,h2,h3,h4,h5⟩:=h;exact⟨l,es',hm _ _ h1,(hw l h1 (key h2)).trans h2,h3,h4,fun j x hj=>by obtain⟨e,h6,h7,h8,h9⟩:=h5 j x hj;exact⟨e,h6,h7.ext hm,h8.ext hm,h9⟩⟩
 | iter r s e a =>
  obtain⟨l,r',h1,h0,h2,h3,h4⟩:=h;refine⟨l,r',hm _ _ h1,h0,(hw l h1 (key h2)).trans h2,h3,?_⟩;rcases h4 with h4 | ⟨k,lk,h5,h6,h7⟩
  ·exact .inl h4
  ·exact .inr ⟨k,lk,h5,hm _ _ h6,h7⟩
 | dead=>trivial
end Go.Shade
namespace Go.Shade
open Go.RowKit
variable {B0 : Nat} {C : Array Value} {H : Heap} {cs : List IV} {e : TypeId} {fr : Nat × Nat} {m : Mp} {w w0 : World}
theorem below_same {B:Nat}{w':World}(h:Below B w0 w)(hh:w'.heap=w.heap)(ho:w'.os=w.os)(ht:w'.tape=w.tape)(hp:w'.output=w.output):Below B w0 w' :=
 ⟨ho.trans h.os,ht.trans h.tape,hp.trans h.output,by rw[hh];exact h.size,fun k hk=>by rw[hh];exact h.block k hk⟩
theorem Rel.same {w':World}(h:Rel B0 w0 m H w)(hh:w'.heap=w.heap)(ho:w'.os=w.os)(ht:w'.tape=w.tape)(hp:w'.output=w.output):Rel B0 w0 m H w' :=
 ⟨below_same h.below hh ho ht hp,by rw[hh];exact h.base,h.dom,fun i o hi=>(h.good i o hi).move (Ext.refl _) (fun l _ _=>by rw[hh]),h.inj⟩
theorem Rel.drew (h:Rel B0 w0 m H w)(n:Nat):Rel B0 w0 m H { w with drawn:=n }:=h.same rfl rfl rfl rfl
theorem Rel.under {B0:Nat}{w0 w w':World}{m:Mp}{H:Heap}(h:Rel B0 w0 m H w)(hb:Below w.heap.size w w'):Rel B0 w0 m H w':=by
 refine⟨h.below.trans (hb.mono h.base),Nat.le_trans h.base hb.size,h.dom,fun i o hi=> ?_,h.inj⟩;exact(h.good i o hi).move (Ext.refl _) (fun k hk hlt=>hb.block _ hlt)
theorem cell_of {cb:Nat}(h:w.heap[cb]? =some (.cells C e fr))(o:Nat):w.cell? ⟨cb,o,none⟩=C[o]? :=by
 simp[World.cell?,h]
theorem frozen_of {cb:Nat}(h:w.heap[cb]? =some (.cells C e fr))(o:Nat):w.frozen? ⟨cb,o,none⟩=decide (fr.1<=o/\o<fr.2):=by
 obtain⟨lo,hi⟩:=fr;simp[World.frozen?,h]
theorem add_none (b o i:Nat):(⟨b,o,none⟩:Addr).add i=⟨b,o+i,none⟩:=by
 unfold Addr.add;split<;>simp_all
theorem vone_one (v:Value):v.oneCell'=vone v:=by cases v<;>rfl
theorem Rel.row (h:Rel B0 w0 m H w){i:Nat}{ro:Bool}(hi:H[i]? =some (.row cs ro)) :
  ∃l,m i=some l/\∀j v,cs[j]? =some v->v.one=true/\∃u,w.cell? ⟨l.cb,l.co+j,none⟩=some u/\VR m v u:=by
 have hg:=h.good i _ hi
 cases ro with
 | false =>
  obtain⟨l,C,e,fr,h1,h2,_,_,_,_,h7⟩:=hg;exact⟨l,h1,fun j v hj=>by obtain⟨h8,u,h9,h10⟩:=h7 j v hj;exact⟨h8,u,by rw[cell_of h2];exact h9,h10⟩⟩
 | true =>
  obtain⟨l,h1,hg⟩:=hg;refine⟨l,h1,fun j v hj=> ?_⟩;obtain⟨C,e,fr,h2,_,h7⟩:=hg (by intro e;subst e;simp at hj);obtain⟨h8,u,h9,h10⟩:=h7 j v hj;exact⟨h8,u,by rw[cell_of h2];exact h9,h10⟩
theorem Rel.cells {B0:Nat}{w0 w:World}{m:Mp}{H:Heap}(h:Rel B0 w0 m H w){i:Nat}{cs:List IV}{ro:Bool}(hi:H[i]? =some (.row cs ro)){l:Loc}(hl:m i=some l)(o n:Nat)(hn:o+n<=cs.length) :
  ∃us:List Value,us.length=n/\VRs m ((cs.drop o).take n) us/\∀j v,us[j]? =some v->w.cell? ((⟨l.cb,l.co+o,none⟩:Addr).add j)=some v:=by
 obtain⟨l',hl',hc⟩:=h.row hi;rw[hl]at hl';cases hl'
 have key:∀n,o+n<=cs.length->∃us:List Value,us.length=n/\VRs m ((cs.drop o).take n) us/\∀j v,us[j]? =some v->w.cell? ((⟨l.cb,l.co+o,none⟩:Addr).add j)=some v:=by
  intro n
  induction n with
  | zero=>intro _;exact⟨[],rfl,by simp[VRs],by simp⟩
  | succ n ih =>
   intro hn;obtain⟨us,h1,h2,h3⟩:=ih (by omega);have hlt:o+n<cs.length:=by omega
   obtain⟨_,u,h4,h5⟩:=hc (o+n) cs[o+n] (List.getElem?_eq_getElem hlt);refine⟨us++[u],by simp[h1],?_,fun j v hj=> ?_⟩
   ·have he:(cs.drop o).take (n+1)=(cs.drop o).take n++[cs[o+n]]:=by
     rw[List.take_succ_eq_append_getElem (by simp;omega)];simp
    rw[he];exact h2.append (VRs.cons h5 (VRs.nil m))
   ·rw[add_none];rw[List.getElem?_append]at hj;split at hj
    ·have:=h3 j v hj;rwa [add_none]at this
    ·rename_i hge;have hj0:j - us.length=0:=by
      rcases Nat.eq_zero_or_pos (j - us.length)with h | h
      ·exact h
      ·rw[List.getElem?_eq_none (by simp;omega)]at hj;exact absurd hj (by simp)
     rw[hj0]at hj;simp at hj;subst hj;have:j=n:=by omega
     subst this;rw[Nat.add_assoc];exact h4
 exact key n hn
theorem setCells_far {g:Nat}:∀(vs:List Value) (o:Nat) (w:World) (k:Nat),k≠g->(w.setCells g o vs).heap[k]? =w.heap[k]?
 | [],_,_,_,_=>rfl
 | v::r,o,w,k,h=>by rw[World.setCells,setCells_far r _ _ k h];exact Below.heap_setCell w _ v k h
theorem setCells_same (g:Nat):∀(vs:List Value) (o:Nat) (w:World),(w.setCells g o vs).os=w.os/\(w.setCells g o vs).tape=w.tape/\(w.setCells g o vs).output=w.output/\(w.setCells g o vs).heap.size=w.heap.size/\(w.setCells g o vs).drawn=w.drawn
 | [],_,_=>⟨rfl,rfl,rfl,rfl,rfl⟩
 | v::r,o,w=>by
  rw[World.setCells];obtain⟨h1,h2,h3,h4,h5⟩:=setCells_same g r (o+1) (w.setCell ⟨g,o,none⟩ v);exact⟨h1,h2,h3,by rw[h4];simp[World.setCell],h5⟩
theorem setCell_block {g:Nat}(h:w.heap[g]? =some (.cells C e fr))(o:Nat)(v:Value):(w.setCell ⟨g,o,none⟩ v).heap[g]? =some (.cells (C.setIfInBounds o v) e fr):=by
 simp[World.setCell,Array.getElem?_modify,h]
theorem setCells_block {g:Nat}{e:TypeId}{fr:Nat×Nat}:∀(vs:List Value) (o:Nat) (w:World) (C:Array Value),w.heap[g]? =some (.cells C e fr)->o+vs.length<=C.size ->
  ∃C',(w.setCells g o vs).heap[g]? =some (.cells C' e fr)/\C'.size=C.size/\∀j,C'[j]? =if o<=j/\j<o+vs.length then vs[j - o]? else C[j]?
 | [],o,w,C,h,_=>⟨C,h,rfl,fun j=>by rw[if_neg (by simp only[List.length_nil];omega)]⟩
 | v::r,o,w,C,h,hn=>by
  simp only[List.length_cons]at hn;obtain⟨C',h1,h2,h3⟩:=setCells_block r (o+1) (w.setCell ⟨g,o,none⟩ v) _ (setCell_block h o v) (by simp;omega);refine⟨C',by rw[World.setCells];exact h1,by rw[h2];simp,fun j=> ?_⟩;rw[h3,Array.getElem?_setIfInBounds];by_cases e1:j=o
  ·subst e1;simp only[List.length_cons];rw[if_neg (by omega),if_pos trivial,if_pos (by omega),if_pos (by omega)];simp
  ·by_cases e2:o+1<=j/\j<o+1+r.length
   ·rw[if_pos e2,if_pos (by simp;omega)];obtain⟨k,rfl⟩:∃k,j=o+1+k:=⟨j - (o+1),by omega⟩;have:o+1+k - o=k+1:=by omega
    rw[this,show o+1+k - (o+1)=k by omega];simp
   ·rw[if_neg e2,if_neg (Ne.symm e1),if_neg (by simp;omega)]
def putAt (cs:List IV)(o:Nat):List IV->List IV
 | [v]=>cs.set o v
 | vs=>cs.take o++vs++cs.drop (o+vs.length)
theorem putAt_length {vs:List IV}{o:Nat}(h:o+vs.length<=cs.length):(putAt cs o vs).length=cs.length:=by
 unfold putAt;split
 ·simp
 ·simp;omega
theorem putAt_get {vs:List IV}{o:Nat}(h:o+vs.length<=cs.length)(j:Nat):(putAt cs o vs)[j]? =if o<=j/\j<o+vs.length then vs[j - o]? else cs[j]? :=by
 unfold putAt;split
 ·rename_i v;simp only[List.length_singleton]at h ⊢;rw[List.getElem?_set];by_cases e:o=j
  ·subst e;simp;omega
  ·rw[if_neg e,if_neg (by omega)]
 ·rw[List.append_assoc,List.getElem?_append,List.length_take];by_cases e1:j<o
  ·rw[if_pos (by omega),if_neg (by omega),List.getElem?_take,if_pos e1]
  ·rw[if_neg (by omega),Nat.min_eq_left (by omega),List.getElem?_append];by_cases e2:j - o<vs.length
   ·rw[if_pos e2,if_pos (by omega)]
   ·rw[if_neg e2,if_neg (by omega),List.getElem?_drop]
    congr 1;omega
theorem Rel.put {B0:Nat}{w0 w:World}{m:Mp}{H:Heap}(h:Rel B0 w0 m H w){i:Nat}{cs:List IV}(hi:H[i]? =some (.row cs false)){l:Loc}(hl:m i=some l){o:Nat}{xs:List IV}{vs:List Value}
  (hx:VRs m xs vs) (h1:xs.all IV.one=true) (hn:o+xs.length<=cs.length) :
  (∀(P:Program),(storeCells ⟨l.cb,l.co+o,none⟩ vs).run P w=.ok () (w.setCells l.cb (l.co+o) vs)) /\
  Rel B0 w0 m (H.set i (.row (putAt cs o xs) false)) (w.setCells l.cb (l.co+o) vs):=by
 have hg:=h.good i _ hi;obtain⟨l',C,e,fr,g1,g2,g3,g4,g5,g6,g7⟩:=hg;rw[hl]at g1;cases g1
 have hlen:=hx.length;have hone:∀v∈vs,v.oneCell'=true:=by
  intro v hv;obtain⟨j,hj⟩:=List.mem_iff_getElem?.1 hv;have hjl:j<xs.length:=by rw[hlen];exact(ges hj).1
  obtain⟨u,hu,hr⟩:=hx.get (List.getElem?_eq_getElem hjl);rw[hj]at hu;cases hu
  rw[vone_one];exact hr.one (List.all_eq_true.1 h1 _ (List.getElem_mem hjl))
 refine⟨fun P=> ?_,?_⟩
 ·have:=run_storeCells_cells (P:=P) l.cb (l.co+o) vs 0 w (fun j hj=>by
   rw[cell_of g2,Array.getElem?_eq_getElem (by omega)];rfl) (fun j hj=>by
   rw[frozen_of g2];exact decide_eq_false (g6 _ (by omega))) hone
  simpa using this
 ·obtain⟨s1,s2,s3,s4,s5⟩:=setCells_same l.cb vs (l.co+o) w;obtain⟨C',c1,c2,c3⟩:=setCells_block vs (l.co+o) w C g2 (by omega);refine⟨⟨s1.trans h.below.os,s2.trans h.below.tape,s3.trans h.below.output,by rw[s4];exact h.below.size,fun k hk=> ?_⟩,by rw[s4];exact h.base,fun k q hq=>by simpa using h.dom k q hq,fun k q hk=> ?_,fun a b p q la lb ha hb hp hq hne hma hmb=> ?_⟩
  ·rw[setCells_far _ _ _ _ (by omega)];exact h.below.block k hk
  ·rw[List.getElem?_set]at hk;by_cases e:i=k
   ·subst e;have hlt:i<H.length:=(ges hi).1;simp[hlt]at hk;subst hk;refine⟨l,C',e,fr,hl,c1,c2.trans g3,by rw[putAt_length hn];exact g4,g5,g6,fun j v hj=> ?_⟩;rw[putAt_get hn]at hj;rw[c3];by_cases e3:o<=j/\j<o+xs.length
    ·rw[if_pos e3]at hj;rw[if_pos (by omega)];obtain⟨u,hu,hr⟩:=hx.get hj;refine⟨List.all_eq_true.1 h1 _ (List.mem_of_getElem? hj),u,?_,hr⟩;rw[show l.co+j - (l.co+o)=j - o by omega];exact hu
    ·rw[if_neg e3]at hj;rw[if_neg (by omega)];exact g7 j v hj
   ·rw[if_neg e]at hk;have hgk:=h.good k q hk;by_cases hd:q.held=true
    ·refine hgk.move (Ext.refl _) (fun lk hlk _=>setCells_far _ _ _ _ ?_);exact h.inj k i q _ lk l hk hi hd rfl (Ne.symm e) hlk hl
    ·cases q with
     | dead=>trivial
     | map es c=>simp[IObj.held]at hd
     | iter r s e a=>simp[IObj.held]at hd
     | row cs' ro =>
      cases ro with
      | false=>simp[IObj.held]at hd
      | true =>
       refine hgk.ro_move (Ext.refl _) (fun lk hlk hlt _=>setCells_far _ _ _ _ ?_);omega
  ·have held_of:∀{a:Nat} {p:IObj},(H.set i (IObj.row (putAt cs o xs) false))[a]? =some p->∃p',H[a]? =some p'/\(p.held=true->p'.held=true):=by
    intro a p ha;rw[List.getElem?_set]at ha;by_cases e:i=a
    ·subst e;exact⟨_,hi,fun _=>rfl⟩
    ·rw[if_neg e]at ha;exact⟨p,ha,id⟩
   obtain⟨p',ha',hp'⟩:=held_of ha;obtain⟨q',hb',hq'⟩:=held_of hb;exact h.inj a b p' q' la lb ha' hb' (hp' hp) (hq' hq) hne hma hmb
def grow (m:Mp)(n:Nat)(l:Loc):Mp:=fun i=>if i=n then some l else m i
theorem grow_ext (h:Rel B0 w0 m H w)(l:Loc):Ext m (grow m H.length l):=by
 intro i k hi;have:=h.dom i k hi;simp[grow,show i≠H.length by omega,hi]
theorem grow_at (m:Mp)(n:Nat)(l:Loc):grow m n l n=some l:=by simp[grow]
theorem Rel.push {B0:Nat}{w0 w:World}{m:Mp}{H:Heap}(h:Rel B0 w0 m H w)(o:IObj)(ob:Obj)(n:Nat)
  (hg:Good B0 (grow m H.length ⟨w.heap.size,0,n⟩) (w.alloc ob) H.length o) :
  Rel B0 w0 (grow m H.length ⟨w.heap.size,0,n⟩) (H++[o]) (w.alloc ob):=by
 have hext:=grow_ext h ⟨w.heap.size,0,n⟩;have hold:∀i p,H[i]? =some p->i≠H.length:=fun i p hi=>by have:=(ges hi).1;omega
 refine⟨h.below.alloc h.base ob,by have:=h.base;show B0<=(w.heap.push ob).size;rw[Array.size_push];omega,fun i l hi=> ?_,fun i p hi=> ?_,fun i j p q li lj hi hj hp hq hne hmi hmj=> ?_⟩
 ·simp only[grow]at hi;split at hi
  ·simp;omega
  ·have:=h.dom i l hi;simp;omega
 ·rw[List.getElem?_append]at hi;split at hi
  ·rename_i hlt;exact(h.good i p hi).move hext (fun l hl hlt'=>Below.heap_alloc w ob _ hlt')
  ·rename_i hge;have hz:i - H.length=0:=by
    rcases Nat.eq_zero_or_pos (i - H.length)with e | e
    ·exact e
    ·rw[List.getElem?_eq_none (by simp;omega)]at hi;exact absurd hi (by simp)
   rw[hz]at hi;simp at hi;subst hi;have:i=H.length:=by omega
   subst this;exact hg
 ·have lt_of:∀{i:Nat} {p:IObj} {li:Loc},i≠H.length->(H++[o])[i]? =some p->p.held=true->grow m H.length ⟨w.heap.size,0,n⟩ i=some li->H[i]? =some p/\m i=some li/\li.cb<w.heap.size:=by
   intro i p li hne hi hp hmi;rw[List.getElem?_append]at hi;split at hi
   ·simp only[grow,if_neg hne]at hmi;obtain⟨l',h1,_,h3⟩:=(h.good i p hi).held_ge hp;rw[hmi]at h1;cases h1
    exact⟨hi,hmi,h3⟩
   ·rw[List.getElem?_eq_none (by simp;omega)]at hi;exact absurd hi (by simp)
  by_cases ei:i=H.length
  ·subst ei;obtain⟨_,_,hlt⟩:=lt_of (Ne.symm hne) hj hq hmj;simp only[grow,if_true]at hmi;cases hmi
   simp;omega
  ·by_cases ej:j=H.length
   ·subst ej;obtain⟨_,_,hlt⟩:=lt_of ei hi hp hmi;simp only[grow,if_true]at hmj;cases hmj
    simp;omega
   ·obtain⟨a1,a2,_⟩:=lt_of ei hi hp hmi;obtain⟨b1,b2,_⟩:=lt_of ej hj hq hmj;exact h.inj i j p q li lj a1 b1 hp hq hne a2 b2
end Go.Shade
namespace Go.Shade
open Go.RowKit
variable {P : Program} {t : TypeId} {x : IV}
def ofV1 :Value->Option IV
 | .bool b=>some (.bool b)
 | .int k n=>some (.int k n)
 | .string s=>some (.str s.data.toList)
 | .pointer none=>some .nilPtr
 | .slice none 0 0=>some .nilSlice
 | .map none=>some .nilMap
 | .nilFunc=>some .nilFunc
 | .nilIface=>some .nilIface
 | _=>none
def ofVs :List Value->Option (List IV)
 | []=>some []
 | v::vs=>(ofV1 v).bind fun x=>(ofVs vs).bind fun xs=>some (x::xs)
def ofV :Value->Option IV
 | .agg cs=>(ofVs cs.toList).bind fun l=>some (.agg l)
 | .tuple cs=>(ofVs cs.toList).bind fun l=>some (.tuple l)
 | .iface t v=>(ofV1 v).bind fun x=>some (.iface t x)
 | v=>ofV1 v
theorem ofV1_VR (m:Mp){v:Value}(h:ofV1 v=some x):VR m x v:=by
 unfold ofV1 at h;split at h<;>first
  | (cases h;simp[VR];done)
  | (cases h;done)
theorem ofVs_VRs (m:Mp):∀{vs:List Value} {xs:List IV},ofVs vs=some xs->VRs m xs vs
 | [],xs,h=>by simp only[ofVs]at h;cases h;exact VRs.nil m
 | v::vs,xs,h=>by
  simp only[ofVs]at h;obtain⟨x,h1,h2⟩:=obs h;obtain⟨ys,h3,h4⟩:=obs h2
  cases h4
  exact VRs.cons (ofV1_VR m h1) (ofVs_VRs m h3)
theorem ofV_VR (m:Mp){v:Value}(h:ofV v=some x):VR m x v:=by
 cases v<;>simp only[ofV]at h<;>first
  | exact ofV1_VR m h
  | (obtain⟨l,h1,h2⟩:=obs h;cases h2;simp only[VR];exact⟨_,rfl,ofVs_VRs m h1⟩)
  | (obtain⟨l,h1,h2⟩:=obs h;cases h2;simp only[VR];exact⟨_,rfl,ofV1_VR m h1⟩)
def isAggT (P:Program)(t:TypeId):Option Bool :=
 match P.underlying t with
 | some (.struct _) | some (.array _ _)=>some true
 | some _=>some false
 | none=>none
def szOf (P:Program)(t:TypeId):Option Nat:=(P.info? t).map (·.size)
def byOf (P:Program)(t:TypeId):Option Nat:=(P.info? t).map (·.bytes)
def zeroOf (P:Program)(t:TypeId):Option IV:=((P.info? t).bind (·.zero)).bind ofV
theorem run_isAgg {b:Bool}(h:isAggT P t=some b)(w:World):(isAgg t).run P w=.ok b w:=by
 unfold isAggT at h
 cases hu:P.underlying t with
 | none=>simp[hu]at h
 | some d =>
  rw[hu]at h;unfold isAgg;rw[Sem.run_bind,run_underlying hu]
  cases d<;>simp_all
theorem run_info {i:TypeInfo}(h:P.info? t=some i)(w:World):(typeInfo t).run P w=.ok i w:=by
 simp[typeInfo,h]
theorem run_size {n:Nat}(h:szOf P t=some n)(w:World):(sizeOf t).run P w=.ok n w:=by
 unfold szOf at h
 cases hi:P.info? t with
 | none=>simp[hi]at h
 | some i=>simp[hi]at h;simp[sizeOf,run_info hi,h]
theorem run_zero (h:zeroOf P t=some x)(w:World)(m:Mp):∃u,(zeroValue t).run P w=.ok u w/\VR m x u:=by
 unfold zeroOf at h;obtain⟨z,h1,h2⟩:=obs h;obtain⟨i,h3,h4⟩:=obs h1;exact⟨z,by simp[zeroValue,run_info h3,h4],ofV_VR m h2⟩
def iload (P:Program)(t:TypeId)(H:Heap)(b o:Nat):Option IV :=
 match H[b]? with
 | some (.row cs _) =>
  match isAggT P t with
  | some true=>(szOf P t).bind fun n=>if o+n<=cs.length then some (.agg ((cs.drop o).take n))else none
  | some false=>cs[o]?
  | none=>none
 | _=>none
theorem run_iload {B0:Nat}{w0 w:World}{m:Mp}{H:Heap}(h:Rel B0 w0 m H w){b o:Nat}{v:IV}(hv:iload P t H b o=some v){l:Loc}(hl:m b=some l) :
  ∃u,(loadVar t ⟨l.cb,l.co+o,none⟩).run P w=.ok u w/\VR m v u:=by
 unfold iload at hv;split at hv
 ·rename_i cs ro hb
  cases ha:isAggT P t with
  | none=>simp[ha]at hv
  | some c =>
   cases c with
   | true =>
    simp only[ha]at hv;obtain⟨n,h1,h2⟩:=obs hv;split at h2
    ·rename_i hn
     cases h2
     obtain⟨us,g1,g2,g3⟩:=h.cells hb hl o n hn;refine⟨.agg us.toArray,?_,by simp only[VR];exact⟨_,rfl,g2⟩⟩;have:=run_loadCells_list (P:=P) w ⟨l.cb,l.co+o,none⟩ us g3;rw[g1]at this;simp[loadVar,run_isAgg ha,run_size h1,this]
    ·exact absurd h2 (by simp)
   | false =>
    simp only[ha]at hv;obtain⟨l',hl',hc⟩:=h.row hb;rw[hl]at hl';cases hl'
    obtain⟨_,u,h1,h2⟩:=hc o v hv;exact⟨u,by simp[loadVar,run_isAgg ha,h1],h2⟩
 ·exact absurd hv (by simp)
def iarith (op:BinOp)(k:IntKind)(a b:Int):Option IV :=
 match op with
 | .add=>some (.int k (k.wrap (a+b)))
 | .sub=>some (.int k (k.wrap (a - b)))
 | .mul=>some (.int k (k.wrap (a*b)))
 | .quo=>if b=0 then none else some (.int k (k.wrap (a.tdiv b)))
 | .rem=>if b=0 then none else some (.int k (a.tmod b))
 | .and=>some (.int k (k.wrap (BitVec.ofInt k.bits a &&& BitVec.ofInt k.bits b).toNat))
 | .or=>some (.int k (k.wrap (BitVec.ofInt k.bits a ||| BitVec.ofInt k.bits b).toNat))
 | .xor=>some (.int k (k.wrap (BitVec.ofInt k.bits a ^^^ BitVec.ofInt k.bits b).toNat))
 | .andNot=>some (.int k (k.wrap (BitVec.ofInt k.bits a &&& ~~~(BitVec.ofInt k.bits b)).toNat))
 | .eql=>some (.bool (a==b))
 | .neq=>some (.bool (a != b))
 | .lss=>some (.bool (decide (a<b)))
 | .leq=>some (.bool (decide (a<=b)))
 | .gtr=>some (.bool (decide (a > b)))
 | .geq=>some (.bool (decide (a ≥ b)))
 | .shl | .shr=>none
def ishift (op:BinOp)(k:IntKind)(a b:Int):Option IV :=
 if b<0 then none else
 match op with
 | .shl=>some (.int k (k.wrap (a*2 ^ (min b.toNat k.bits))))
 | .shr=>some (.int k (a.fdiv (2 ^ (min b.toNat k.bits))))
 | _=>none
def istr (op:BinOp)(a b:List UInt8):Option IV :=
 match op with
 | .add=>if a.length+b.length<=9223372036854775807 then some (.str (a++b))else none
 | .eql=>some (.bool (a==b))
 | .neq=>some (.bool (!(a==b)))
 | .lss=>some (.bool (Op.bytesLess a b))
 | .leq=>some (.bool (Op.bytesLess a b||a==b))
 | .gtr=>some (.bool (!(Op.bytesLess a b||a==b)))
 | .geq=>some (.bool (!(Op.bytesLess a b)))
 | _=>none
def cellEq :IV->IV->Option Bool
 | .int k a,.int k' b=>if k=k' then some (a==b)else none
 | .bool a,.bool b=>some (a==b)
 | .str a,.str b=>some (a==b)
 | _,_=>none
def scalarT (P:Program)(t:TypeId)(x:IV):Bool :=
 match P.underlying t,x with
 | some (.int _),.int _ _=>true
 | some .bool,.bool _=>true
 | some .string,.str _=>true
 | _,_=>false
def eqFields (P:Program):List Field->List IV->List IV->Option Bool
 | [],_,_=>some true
 | f::fs,xs,ys =>
  if f.name= "_" then none else
  match xs[f.offset]?,ys[f.offset]? with
  | some x,some y =>
   if scalarT P f.type x&&scalarT P f.type y then
    (cellEq x y).bind fun b=>(eqFields P fs xs ys).bind fun r=>some (b&&r)
   else none
  | _,_=>none
def ieq (P:Program)(t:TypeId)(x y:IV):Option Bool :=
 match P.underlying t,x,y with
 | some .bool,.bool a,.bool b=>some (a==b)
 | some (.pointer _),.nilPtr,.nilPtr=>some true
 | some (.pointer _),.nilPtr,.ptr _ _=>some false
 | some (.pointer _),.ptr _ _,.nilPtr=>some false
 | some (.pointer e),.ptr b o,.ptr b' o'=>match szOf P e with
  | some (_+1)=>if b=b' then some (o==o')else none
  | _=>none
 | some (.slice _),.nilSlice,.nilSlice=>some true
 | some (.slice _),.nilSlice,.slice .. =>some false
 | some (.slice _),.slice ..,.nilSlice=>some false
 | some (.map ..),.nilMap,.nilMap=>some true
 | some (.map ..),.nilMap,.map _=>some false
 | some (.map ..),.map _,.nilMap=>some false
 | some (.func ..),.nilFunc,.nilFunc=>some true
 | some (.func ..),.nilFunc,.func .. =>some false
 | some (.func ..),.func ..,.nilFunc=>some false
 | some (.interface _),.nilIface,.nilIface=>some true
 | some (.interface _),.nilIface,.iface .. =>some false
 | some (.interface _),.iface ..,.nilIface=>some false
 | some (.interface _),.iface tx vx,.iface ty vy =>
  if tx≠ty then some false else
  match P.info? tx with
  | some i=>if i.comparable&&scalarT P tx vx&&scalarT P tx vy then cellEq vx vy else none
  | none=>none
 | some (.struct fs),.agg xs,.agg ys=>if P.stoodInHeld t then none else eqFields P fs.toList xs ys
 | _,_,_=>none
def geq (P:Program)(cst:Bool)(t:TypeId):IV->IV->Bool
 | .nilIface,.nilIface=>cst
 | .agg _,.agg _=> !(P.eqGuardType P.depth t)
 | _,_=>true
def ibin (P:Program)(op:BinOp)(cst:Bool)(t:TypeId)(x y:IV):Option IV :=
 match x,y with
 | .int k a,.int k' b =>
  match op with
  | .shl | .shr=>ishift op k a b
  | _=>if k=k' then iarith op k a b else none
 | .str a,.str b=>istr op a b
 | x,y =>
  match op with
  | .eql=>if geq P cst t x y then(ieq P t x y).bind fun b=>some (.bool b)else none
  | .neq=>if geq P cst t x y then(ieq P t x y).bind fun b=>some (.bool (!b))else none
  | _=>none
def isConst :Operand->Bool
 | .const _=>true
 | _=>false
theorem toList_mk (l:List UInt8):(⟨l.toArray⟩:ByteArray).toList=l:=by
 rw[ByteArray.toList_eq]
theorem size_mk (l:List UInt8):(⟨l.toArray⟩:ByteArray).size=l.length:=by simp[ByteArray.size]
theorem append_mk (a b:List UInt8):(⟨a.toArray⟩++⟨b.toArray⟩:ByteArray)=⟨(a++b).toArray⟩:=by
 apply ByteArray.ext;simp
end Go.Shade
namespace Go.Shade
open Go.RowKit
variable {P : Program} {a b u v : Value} {m : Mp} {op : BinOp} {r : Bool} {t : TypeId} {x y : IV}
theorem guard_plain {X Y:Operand}(w:World)(h1:a≠ .nilIface∨b≠ .nilIface)(h2:(∀l,a≠ .agg l)∨(∀l,b≠ .agg l)) :
  (eqGuard op t X Y a b).run P w=.ok () w:=by
 unfold eqGuard
 repeat' split
 all_goals first
  | rfl
  | (exfalso;rcases h1 with h | h<;>exact h rfl)
  | (exfalso;rcases h2 with h | h<;>exact h _ rfl)
theorem run_arith {k:IntKind}{a b:Int}{r:IV}(h:iarith op k a b=some r)(t:TypeId)(w:World)(m:Mp) :
  ∃u,(binOp op t (.int k a) (.int k b)).run P w=.ok u w/\VR m r u:=by
 cases op<;>simp only[iarith]at h
 case quo =>
  split at h
  ·cases h
  ·rename_i hb;cases h;exact⟨_,by simp[binOp,Op.intDiv,hb],VR_int m _ _⟩
 case rem =>
  split at h
  ·cases h
  ·rename_i hb;cases h;exact⟨_,by simp[binOp,Op.intDiv,hb],VR_int m _ _⟩
 case shl=>cases h
 case shr=>cases h
 all_goals cases h
 all_goals first
  | (refine⟨_,?_,VR_int m _ _⟩;simp only[binOp,ne_eq,not_true,if_false,Op.intArith,Op.intBits];rfl)
  | (refine⟨_,?_,VR_bool m _⟩;simp[binOp,Op.intCmp];done)
theorem run_shift {k k':IntKind}{a b:Int}{r:IV}(hop:op=.shl∨op=.shr)(h:ishift op k a b=some r)(t:TypeId)(w:World)(m:Mp) :
  ∃u,(binOp op t (.int k a) (.int k' b)).run P w=.ok u w/\VR m r u:=by
 unfold ishift at h;split at h
 ·cases h
 ·rename_i hb;rcases hop with rfl | rfl
  ·simp only at h;cases h;exact⟨_,by simp[binOp,Op.shift,hb],VR_int m _ _⟩
  ·simp only at h;cases h;exact⟨_,by simp[binOp,Op.shift,hb],VR_int m _ _⟩
theorem run_str {a b:List UInt8}{r:IV}(h:istr op a b=some r)(t:TypeId)(w:World)(m:Mp) :
  ∃u,(binOp op t (.string ⟨a.toArray⟩) (.string ⟨b.toArray⟩)).run P w=.ok u w/\VR m r u:=by
 have hmax:IntKind.i64.max=9223372036854775807:=rfl
 cases op<;>simp only[istr]at h
 case add =>
  split at h
  ·rename_i hs
   cases h
   refine⟨_,?_,VR_str m _⟩;simp only[binOp,Op.stringOp,size_mk,append_mk,hmax];rw[if_neg (by omega)];rfl
  ·cases h
 all_goals cases h
 all_goals exact⟨_,by simp[binOp,Op.stringOp,toList_mk],VR_bool m _⟩
theorem scalar_value (hs:scalarT P t x=true)(hv:VR m x v) :
  (∃k k' n,P.underlying t=some (.int k)/\x=.int k' n/\v=.int k' n)∨(∃b,P.underlying t=some .bool/\x=.bool b/\v=.bool b)∨(∃s,P.underlying t=some .string/\x=.str s/\v=.string ⟨s.toArray⟩):=by
 unfold scalarT at hs;split at hs
 ·rename_i h;simp only[VR]at hv;exact .inl ⟨_,_,_,h,rfl,hv⟩
 ·rename_i h;simp only[VR]at hv;exact .inr (.inl ⟨_,h,rfl,hv⟩)
 ·rename_i h;simp only[VR]at hv;exact .inr (.inr ⟨_,h,rfl,hv⟩)
 ·exact absurd hs (by simp)
theorem mk_beq (a b:List UInt8):((⟨a.toArray⟩:ByteArray)==⟨b.toArray⟩)=(a==b):=by
 show(a.toArray==b.toArray)=(a==b);simp
theorem run_cellEq (hx:scalarT P t x=true)(hy:scalarT P t y=true)(hu:VR m x u)(hv:VR m y v)(h:cellEq x y=some r)(d:Nat)(w:World) :
  (Op.equalIn (d+1) t u v).run P w=.ok r w:=by
 rcases scalar_value hx hu with⟨k,k1,n,h1,rfl,rfl⟩ | ⟨b,h1,rfl,rfl⟩ | ⟨s,h1,rfl,rfl⟩ <;>
 rcases scalar_value hy hv with⟨k',k2,n',h2,rfl,rfl⟩ | ⟨b',h2,rfl,rfl⟩ | ⟨s',h2,rfl,rfl⟩ <;>
 (try (rw[h1]at h2;cases h2;done))<;>simp only[cellEq]at h
 ·split at h
  ·rename_i e;cases h;subst e;simp[Op.equalIn,run_underlying h1]
  ·exact absurd h (by simp)
 ·cases h;simp[Op.equalIn,run_underlying h1]
 ·cases h;simp[Op.equalIn,run_underlying h1,mk_beq]
theorem run_part {cs:Array Value}{off:Nat}(ha:isAggT P t=some false)(h:cs[off]? =some v)(w:World):(part t cs off).run P w=.ok v w:=by
 simp[part,run_isAgg ha,h]
theorem scalar_isAgg (hs:scalarT P t x=true):isAggT P t=some false:=by
 unfold scalarT at hs;unfold isAggT;split at hs<;>simp_all
theorem run_eqFields {P:Program}{m:Mp}(d:Nat)(w:World):∀(fs:List Field) {xs ys:List IV} {us vs:Array Value} {r:Bool},VRs m xs us.toList->VRs m ys vs.toList->eqFields P fs xs ys=some r ->
  (Op.eqFields (d+1) us vs fs).run P w=.ok r w
 | [],xs,ys,us,vs,r,_,_,h=>by
  simp only[eqFields]at h;cases h;rfl
 | f::fs,xs,ys,us,vs,r,hx,hy,h=>by
  simp only[eqFields]at h;split at h
  ·cases h
  ·rename_i hn;split at h
   ·rename_i x y h1 h2;split at h
    ·rename_i hs;simp only[Bool.and_eq_true]at hs;obtain⟨b,h3,h4⟩:=obs h;obtain⟨r',h5,h6⟩:=obs h4
     cases h6
     obtain⟨u,hu,hru⟩:=hx.get h1;obtain⟨v,hv,hrv⟩:=hy.get h2;have e1:=run_part (P:=P) (scalar_isAgg hs.1) (cs:=us) (off:=f.offset) (v:=u) (by simpa using hu) w;have e2:=run_part (P:=P) (scalar_isAgg hs.2) (cs:=vs) (off:=f.offset) (v:=v) (by simpa using hv) w;have e3:=run_cellEq (P:=P) hs.1 hs.2 hru hrv h3 d w;have ih:=run_eqFields d w fs hx hy h5;rw[Op.eqFields];simp only[ne_eq,hn,not_false_eq_true,if_true,Sem.run_bind,e1,e2,e3,Result.andThen_ok]
     cases b with
     | true=>simpa using ih
     | false=>simp
    ·cases h
   ·cases h
theorem run_structEq (d:Nat)(w:World){fs:Array Field}{xs ys:List IV}{a b:Array Value}(hund:P.underlying t=some (.struct fs))(hs:P.stoodInHeld t=false)(ha:VRs m xs a.toList)(hb:VRs m ys b.toList)(h:eqFields P fs.toList xs ys=some r):(Op.equalIn (d+2) t (.agg a) (.agg b)).run P w=.ok r w:=by
 have hf:P.fieldsOf t=fs:=by simp[Program.fieldsOf,hund]
 rw[run_equalIn_struct (P:=P) w (d+1) t a b (by rw[hf];exact hund) hs,hf];exact run_eqFields d w _ ha hb h
theorem run_ieqIn (hu:VR m x u)(hv:VR m y v)(h:ieq P t x y=some r)(d:Nat)(w:World) :
  (Op.equalIn (d+2) t u v).run P w=.ok r w:=by
 unfold ieq at h;split at h
 all_goals try (rename_i hund;simp only[VR]at hu hv)
 ·cases h;subst hu;subst hv;rw[Op.equalIn,Sem.run_bind,run_underlying hund];rfl
 ·cases h;subst hu;subst hv;rw[Op.equalIn,Sem.run_bind,run_underlying hund];rfl
 ·cases h;obtain⟨l,_,rfl⟩:=hv;subst hu;rw[Op.equalIn,Sem.run_bind,run_underlying hund];rfl
 ·cases h;obtain⟨l,_,rfl⟩:=hu;subst hv;rw[Op.equalIn,Sem.run_bind,run_underlying hund];rfl
 ·obtain⟨l,hl,rfl⟩:=hu;obtain⟨l',hl',rfl⟩:=hv;split at h
  ·rename_i n hsz;split at h
   ·rename_i e;subst e;cases h
    rw[hl]at hl';cases hl'
    rw[Op.equalIn,Sem.run_bind,run_underlying hund,Result.andThen_ok];show((sizeOf _ >>= fun n=>_:Sem Bool)).run P w=_;rw[Sem.run_bind,run_size hsz,Result.andThen_ok,if_pos (by omega)];simp only[sameAddr,beq_self_eq_true,if_true];show Result.ok _ w=_
    congr 1
    rw[Bool.eq_iff_iff];simp
   ·cases h
  ·cases h
 ·cases h;subst hu;subst hv;rw[Op.equalIn,Sem.run_bind,run_underlying hund];rfl
 ·cases h;obtain⟨l,o',c,sp,_,rfl,_⟩:=hv;subst hu;rw[Op.equalIn,Sem.run_bind,run_underlying hund];rfl
 ·cases h;obtain⟨l,o',c,sp,_,rfl,_⟩:=hu;subst hv;rw[Op.equalIn,Sem.run_bind,run_underlying hund];rfl
 ·cases h;subst hu;subst hv;rw[Op.equalIn,Sem.run_bind,run_underlying hund];rfl
 ·cases h;obtain⟨l,_,rfl⟩:=hv;subst hu;rw[Op.equalIn,Sem.run_bind,run_underlying hund];rfl
 ·cases h;obtain⟨l,_,rfl⟩:=hu;subst hv;rw[Op.equalIn,Sem.run_bind,run_underlying hund];rfl
 ·cases h;subst hu;subst hv;rw[Op.equalIn,Sem.run_bind,run_underlying hund];rfl
 ·cases h;obtain⟨_,_,rfl,_⟩:=hv;subst hu;rw[Op.equalIn,Sem.run_bind,run_underlying hund];rfl
 ·cases h;obtain⟨_,_,rfl,_⟩:=hu;subst hv;rw[Op.equalIn,Sem.run_bind,run_underlying hund];rfl
 ·cases h;subst hu;subst hv;rw[Op.equalIn,Sem.run_bind,run_underlying hund];rfl
 ·cases h;obtain⟨_,rfl,_⟩:=hv;subst hu;rw[Op.equalIn,Sem.run_bind,run_underlying hund];rfl
 ·cases h;obtain⟨_,rfl,_⟩:=hu;subst hv;rw[Op.equalIn,Sem.run_bind,run_underlying hund];rfl
 ·obtain⟨a,rfl,ha⟩:=hu;obtain⟨b,rfl,hb⟩:=hv;split at h
  ·rename_i hne;cases h;rw[Op.equalIn,Sem.run_bind,run_underlying hund,Result.andThen_ok];simp only[ne_eq,hne,not_false_eq_true,if_true];rfl
  ·rename_i he;have he:=Classical.not_not.1 he;subst he;split at h
   ·rename_i i hi;split at h
    ·rename_i hs;simp only[Bool.and_eq_true]at hs;have:=run_cellEq (P:=P) hs.1.2 hs.2 ha hb h d w;rw[Op.equalIn,Sem.run_bind,run_underlying hund,Result.andThen_ok];simp only[ne_eq,not_true,if_false];rw[Sem.run_bind,run_info hi,Result.andThen_ok,hs.1.1];exact this
    ·cases h
   ·cases h
 ·split at h
  ·cases h
  ·rename_i hs;simp only[Bool.not_eq_true]at hs;obtain⟨a,rfl,ha⟩:=hu;obtain⟨b,rfl,hb⟩:=hv;exact run_structEq d w hund hs ha hb h
 ·cases h
theorem run_ieq (hu:VR m x u)(hv:VR m y v)(h:ieq P t x y=some r)(w:World) :
  (Op.equal t u v).run P w=.ok r w:=run_ieqIn hu hv h 9998 w
theorem binOp_eql (h1:∀k n k' n',a=.int k n->b=.int k' n'->False)(h2:∀s s',a=.string s->b=.string s'->False)(h3:∀k n,a≠ .float k n)(h4:∀k n n',a≠ .complex k n n') :
  binOp .eql t a b=(do pure (.bool (←Op.equal t a b)):Sem Value)/\binOp .neq t a b=(do pure (.bool (!(←Op.equal t a b))):Sem Value):=by
 cases a<;>first
  | exact absurd rfl (h3 _ _)
  | exact absurd rfl (h4 _ _ _)
  | (cases b<;>first
    | exact⟨rfl,rfl⟩
    | exact(h1 _ _ _ _ rfl rfl).elim
    | exact(h2 _ _ rfl rfl).elim)
theorem run_guard {X Y:Operand}(ha:VR m x a)(hb:VR m y b)(h:geq P (isConst X||isConst Y) t x y=true)(w:World) :
  (eqGuard op t X Y a b).run P w=.ok () w:=by
 unfold geq at h;split at h
 ·simp only[VR]at ha hb;subst ha;subst hb
  cases op<;>cases X<;>cases Y<;>first
   | rfl
   | (simp[isConst]at h;done)
 ·simp only[VR]at ha hb;obtain⟨a',rfl,_⟩:=ha;obtain⟨b',rfl,_⟩:=hb
  cases op<;>first
   | rfl
   | (simp only[Bool.not_eq_true']at h;simp[eqGuard,h])
 ·rename_i h1 h2;refine guard_plain w ?_ ?_
  ·by_cases e:x=.nilIface
   ·right;rintro rfl;refine h1 e ?_
    cases y<;>simp[VR]at hb ⊢
   ·left;rintro rfl;refine e ?_
    cases x<;>simp[VR]at ha ⊢
  ·by_cases e:∃l,x=.agg l
   ·obtain⟨l,rfl⟩:=e;right;rintro l' rfl
    cases y<;>simp[VR]at hb
    exact h2 _ _ rfl rfl
   ·left;rintro l rfl;refine e ?_
    cases x<;>simp[VR]at ha ⊢
theorem run_ibin {P:Program}{m:Mp}{op:BinOp}{t:TypeId}{X Y:Operand}{x y r:IV}{a b:Value}(ha:VR m x a)(hb:VR m y b)(h:ibin P op (isConst X||isConst Y) t x y=some r)(w:World) :
  ∃u,((do eqGuard op t X Y a b;binOp op t a b):Sem Value).run P w=.ok u w/\VR m r u:=by
 unfold ibin at h;split at h
 ·rename_i k n k' n';simp only[VR]at ha hb;subst ha;subst hb;have hg:=guard_plain (P:=P) (op:=op) (t:=t) (X:=X) (Y:=Y) (a:=.int k n) (b:=.int k' n') w (.inl (by simp)) (.inl (by simp));rw[Sem.run_bind,hg,Result.andThen_ok];split at h
  ·exact run_shift (.inl rfl) h t w m
  ·exact run_shift (.inr rfl) h t w m
  ·split at h
   ·rename_i e;subst e;exact run_arith h t w m
   ·cases h
 ·rename_i s s';simp only[VR]at ha hb;subst ha;subst hb;have hg:=guard_plain (P:=P) (op:=op) (t:=t) (X:=X) (Y:=Y) (a:=.string ⟨s.toArray⟩) (b:=.string ⟨s'.toArray⟩) w (.inl (by simp)) (.inl (by simp));rw[Sem.run_bind,hg,Result.andThen_ok];exact run_str h t w m
 ·rename_i h1 h2;have hq:=binOp_eql (t:=t) (a:=a) (b:=b)
   (fun k n k' n' ea eb=>by
    subst ea;subst eb
    cases x<;>simp[VR]at ha
    cases y<;>simp[VR]at hb
    exact h1 _ _ _ _ rfl rfl)
   (fun s s' ea eb=>by
    subst ea;subst eb
    cases x<;>simp[VR]at ha
    cases y<;>simp[VR]at hb
    exact h2 _ _ rfl rfl)
   (fun k n e=>by subst e;cases x<;>simp[VR]at ha)
   (fun k n n' e=>by subst e;cases x<;>simp[VR]at ha)
  split at h
  ·split at h
   ·rename_i hge;obtain⟨bb,h3,h4⟩:=obs h
    cases h4
    refine⟨.bool bb,?_,VR_bool m bb⟩;rw[Sem.run_bind,run_guard ha hb hge w,Result.andThen_ok,hq.1,Sem.run_bind,run_ieq (P:=P) ha hb h3 w];rfl
   ·cases h
  ·split at h
   ·rename_i hge;obtain⟨bb,h3,h4⟩:=obs h
    cases h4
    refine⟨.bool (!bb),?_,VR_bool m _⟩;rw[Sem.run_bind,run_guard ha hb hge w,Result.andThen_ok,hq.2,Sem.run_bind,run_ieq (P:=P) ha hb h3 w];rfl
   ·cases h
  ·cases h
end Go.Shade
namespace Go.Shade
open Go.RowKit
variable {P : Program} {m : Mp}
def OR (m:Mp):Option IV->Option Value->Prop
 | none,v=>v=none
 | some x,v=>∃u,v=some u/\VR m x u
def bnd (d:Nat):Option IV->Option Nat
 | none=>some d
 | some (.int _ i)=>if 0<=i then some i.toNat else none
 | _=>none
theorem run_bnd {d:Nat}{x:IV}{v:Value}{l:Nat}(h:bnd d (some x)=some l)(hv:VR m x v)(y:Nat)(hl:l<=y)(code:BoundsCode)(w:World):(Instr.sliceBound v y code).run P w=.ok l w:=by
 unfold bnd at h;split at h
 ·rename_i e;cases e
 ·rename_i k i e
  cases e
  simp only[VR]at hv;subst hv;split at h
  ·rename_i h0
   cases h
   exact run_sliceBound (P:=P) w k i y code h0 (by omega)
  ·cases h
 ·cases h
theorem run_bounds {lo hi mx:Option IV}{lo' hi' mx':Option Value}{n cap l h:Nat}(isS:Bool)(hlo:OR m lo lo')(hhi:OR m hi hi')(hmx:OR m mx mx')(el:bnd 0 lo=some l)(eh:bnd n hi=some h)(hlh:l<=h)(k:Nat)(hk:(mx=none/\k=cap/\(hi=none∨h<=cap))∨(∃z,mx=some z/\bnd 0 mx=some k/\hi.isSome=true/\h<=k/\k<=cap))(w:World) :
  (Instr.sliceBounds isS n cap lo' hi' mx').run P w=.ok (l,h,k) w:=by
 have key:(lo'=none/\l=0)∨∃u,lo'=some u/\∀code,(Instr.sliceBound u h code).run P w=.ok l w:=by
  cases lo with
  | none=>simp only[OR]at hlo;simp only[bnd]at el;cases el;exact .inl ⟨hlo,rfl⟩
  | some x=>obtain⟨u,rfl,hu⟩:=hlo;exact .inr ⟨u,rfl,fun code=>run_bnd el hu h hlh code w⟩
 rcases hk with⟨rfl,hkc,hh⟩ | ⟨z,rfl,ek,hi1,hhk,hkc⟩
 ·subst hkc;simp only[OR]at hmx;subst hmx
  cases hi with
  | none =>
   simp only[OR]at hhi;subst hhi;simp only[bnd]at eh;cases eh
   unfold Instr.sliceBounds;rcases key with⟨rfl,rfl⟩ | ⟨u,rfl,key⟩
   ·rfl
   ·simp only[Sem.run_bind,Sem.run_pure,Result.andThen_ok,key]
  | some x =>
   obtain⟨u,rfl,hu⟩:=hhi;have hc:h<=k:=by
    rcases hh with hh | hh
    ·cases hh
    ·exact hh
   unfold Instr.sliceBounds;rcases key with⟨rfl,rfl⟩ | ⟨u,rfl,key⟩
   ·simp only[Sem.run_bind,Sem.run_pure,Result.andThen_ok,run_bnd eh hu k hc _ w]
   ·simp only[Sem.run_bind,Sem.run_pure,Result.andThen_ok,run_bnd eh hu k hc _ w,key]
 ·obtain⟨u,rfl,hu⟩:=hmx
  cases hi with
  | none=>simp at hi1
  | some x =>
   obtain⟨v,rfl,hv⟩:=hhi;unfold Instr.sliceBounds;rcases key with⟨rfl,rfl⟩ | ⟨u,rfl,key⟩
   ·simp only[Sem.run_bind,Sem.run_pure,Result.andThen_ok,run_bnd ek hu cap hkc _ w,run_bnd eh hv k hhk _ w]
   ·simp only[Sem.run_bind,Sem.run_pure,Result.andThen_ok,run_bnd ek hu cap hkc _ w,run_bnd eh hv k hhk _ w,key]
def nilSl (lo hi mx:Option IV):Bool:=bnd 0 lo==some 0&&(bnd 0 hi==some 0&&(match mx with
 | none=>true
 | some z=>hi.isSome&&bnd 0 (some z)==some 0))
def islice (P:Program)(H:Heap)(t:TypeId)(x:IV)(lo hi mx:Option IV):Option IV :=
 match P.underlying t,x with
 | some (.slice e),.slice b o n lb ex sz =>
  (szOf P e).bind fun s=>(bnd n hi).bind fun h=>(bnd 0 lo).bind fun l =>
   if sz≠0/\sz≠s then none else
   match mx with
   | none=>if l<=h/\h<=lb then some (.slice b (o+l*s) (h - l) (lb - l) ex sz)else none
   | some z=>(bnd 0 (some z)).bind fun k=>if hi.isSome=true/\l<=h/\h<=k/\k<=lb then some (.slice b (o+l*s) (h - l) (k - l) true sz)else none
 | some (.slice e),.nilSlice =>
  (szOf P e).bind fun _=>if nilSl lo hi mx then some .nilSlice else none
 | some .string,.str s =>
  (bnd s.length hi).bind fun h=>(bnd 0 lo).bind fun l=>if mx.isNone=true/\l<=h/\h<=s.length then some (.str ((s.drop l).take (h - l)))else none
 | some (.array n e),.ptr b o =>
  (szOf P e).bind fun s=>(bnd n hi).bind fun h=>(bnd 0 lo).bind fun l =>
   match H[b]? with
   | some (.row cs false)=>if mx.isNone=true/\l<=h/\h<=n/\o+n*s<=cs.length then some (.slice b (o+l*s) (h - l) (n - l) true s)else none
   | _=>none
 | _,_=>none
theorem extract_mk (s:List UInt8)(l h:Nat):(⟨s.toArray⟩:ByteArray).extract l h=⟨((s.drop l).take (h - l)).toArray⟩:=by
 apply ByteArray.ext;simp[ByteArray.data_extract]
theorem run_islice {B0:Nat}{w0 w:World}{H:Heap}(hR:Rel B0 w0 m H w){t:TypeId}{x:IV}{lo hi mx:Option IV}{v:Value}{lo' hi' mx':Option Value}{r:IV}(hx:VR m x v)(hlo:OR m lo lo')(hhi:OR m hi hi')(hmx:OR m mx mx')(h:islice P H t x lo hi mx=some r) :
  ∃u,(Instr.sliceAt t v lo' hi' mx').run P w=.ok u w/\VR m r u:=by
 unfold islice at h;split at h
 ·rename_i e b o n lb ex sz hund;obtain⟨s,hs,h⟩:=obs h;obtain⟨hh,eh,h⟩:=obs h;obtain⟨l,el,h⟩:=obs h;simp only[VR]at hx;obtain⟨lc,o1,c,sp,hl,rfl,hn,hlb,hex,hoff,hsz⟩:=hx;split at h
  ·cases h
  ·rename_i hss;have hss:sz=0∨sz=s:=by omega
   have step:∀k,(Instr.sliceBounds true n c lo' hi' mx').run P w=.ok (l,hh,k) w ->
     (Instr.sliceAt t (.slice (some ⟨lc.cb,o1,sp⟩) n c) lo' hi' mx').run P w=.ok (.slice (if k=l then some ⟨lc.cb,o1,sp⟩else some ((⟨lc.cb,o1,sp⟩:Addr).add (l*s))) (hh - l) (k - l)) w:=by
    intro k hb;have hb':=hb;simp only[Instr.sliceAt,Sem.run_bind,run_underlying hund,Result.andThen_ok];simp only[Instr.slice,Sem.run_bind,run_underlying hund,Result.andThen_ok,hb',run_size hs];simp only[Sem.run_pure,Option.map_some]
   have fin:∀k lb' ex',l<=k->k<=c->lb'+l<=k->hh<=lb'+l->(ex'=true->k=lb'+l)->lb'+l<=lb ->
     VR m (.slice b (o+l*s) (hh - l) lb' ex' sz) (.slice (if k=l then some ⟨lc.cb,o1,sp⟩else some ((⟨lc.cb,o1,sp⟩:Addr).add (l*s))) (hh - l) (k - l)):=by
    intro k lb' ex' h1 h2 h3 h4 h5 h6;simp only[VR];by_cases e:k=l
    ·rw[if_pos e];refine⟨lc,o1,k - l,sp,hl,rfl,by omega,by omega,fun he=>by have:=h5 he;omega,fun h0=>by omega,fun h0=> ?_⟩;have:=hsz h0;rw[e,Nat.sub_self,Nat.zero_mul];exact⟨by omega,this.2⟩
    ·rw[if_neg e];have hblock:((⟨lc.cb,o1,sp⟩:Addr).add (l*s))=⟨lc.cb,((⟨lc.cb,o1,sp⟩:Addr).add (l*s)).off,((⟨lc.cb,o1,sp⟩:Addr).add (l*s)).spot⟩:=by
      unfold Addr.add;split<;>rfl
     refine⟨lc,((⟨lc.cb,o1,sp⟩:Addr).add (l*s)).off,k - l,((⟨lc.cb,o1,sp⟩:Addr).add (l*s)).spot,hl,congrArg (fun a=>Value.slice (some a) (hh - l) (k - l)) hblock,by omega,by omega,fun he=>by have:=h5 he;omega,fun h0=> ?_,fun h0=> ?_⟩
     ·obtain⟨e1,e2⟩:=hoff (by omega);subst e2;rw[add_none];exact⟨by simp only;omega,rfl⟩
     have:=hsz h0;obtain⟨this,e2⟩:=this;subst e2;rw[add_none];refine⟨?_,rfl⟩;simp only;have hs':s=sz:=by omega
     subst hs';have hmul:l*s+(k - l)*s=k*s:=by rw[←Nat.add_mul];congr 1;omega
     have hle:k*s<=c*s:=Nat.mul_le_mul_right _ h2;omega
   cases mx with
   | none =>
    simp only at h;split at h
    ·rename_i hc
     cases h
     have hb:=run_bounds (P:=P) true hlo hhi hmx el eh hc.1 c (.inl ⟨rfl,rfl,.inr (by omega)⟩) w;exact⟨_,step c hb,fin c (lb - l) ex (by omega) (by omega) (by omega) (by omega) (fun he=>by have:=hex he;omega) (by omega)⟩
    ·cases h
   | some z =>
    simp only at h;obtain⟨k,ek,h⟩:=obs h;split at h
    ·rename_i hc
     cases h
     have hkc:k<=c:=by omega
     have hb:=run_bounds (P:=P) (cap:=c) true hlo hhi hmx el eh hc.2.1 k (.inr ⟨z,rfl,ek,hc.1,hc.2.2.1,hkc⟩) w;have hkl:l<=k:=by omega
     have f:=fin k (k - l) true hkl (by omega) (by omega) (by omega) (fun _=>by omega) (by omega);exact⟨_,step k hb,f⟩
    ·cases h
 ·rename_i e hund;obtain⟨s,hs,h⟩:=obs h;split at h
  ·rename_i hc
   cases h
   simp only[nilSl,Bool.and_eq_true,beq_iff_eq]at hc;obtain⟨el,eh,em⟩:=hc;simp only[VR]at hx;subst hx;have hb:(Instr.sliceBounds true 0 0 lo' hi' mx').run P w=.ok (0,0,0) w:=by
    cases mx with
    | none=>exact run_bounds (P:=P) (n:=0) (cap:=0) true hlo hhi hmx el eh (Nat.le_refl _) 0 (.inl ⟨rfl,rfl,.inr (Nat.le_refl _)⟩) w
    | some z =>
     simp only[Bool.and_eq_true,beq_iff_eq]at em;exact run_bounds (P:=P) (n:=0) (cap:=0) true hlo hhi hmx el eh (Nat.le_refl _) 0 (.inr ⟨z,rfl,em.2,em.1,Nat.le_refl _,Nat.le_refl _⟩) w
   refine⟨.slice none 0 0,?_,by simp only[VR]⟩;simp only[Instr.sliceAt,Sem.run_bind,run_underlying hund,Result.andThen_ok];simp only[Instr.slice,Sem.run_bind,run_underlying hund,Result.andThen_ok,hb,run_size hs];rfl
  ·cases h
 ·rename_i s hund;obtain⟨hh,eh,h⟩:=obs h;obtain⟨l,el,h⟩:=obs h;split at h
  ·rename_i hc
   cases h
   obtain⟨h1,h2,h3⟩:=hc;have hm:mx=none:=by cases mx<;>simp_all
   subst hm;simp only[OR]at hmx;subst hmx;simp only[VR]at hx;subst hx;have hb:=run_bounds (P:=P) (n:=s.length) (cap:=s.length) (mx':=none) false hlo hhi (by simp[OR]) el eh h2 s.length (.inl ⟨rfl,rfl,.inr h3⟩) w;refine⟨_,?_,VR_str m _⟩;simp only[Instr.sliceAt,Sem.run_bind,run_underlying hund,Result.andThen_ok];simp only[Instr.slice,Sem.run_bind,run_underlying hund,Result.andThen_ok,Option.isSome_none,Bool.false_eq_true,if_false,size_mk,hb,Sem.run_pure,extract_mk]
  ·cases h
 ·rename_i n e b o hund;obtain⟨s,hs,h⟩:=obs h;obtain⟨hh,eh,h⟩:=obs h;obtain⟨l,el,h⟩:=obs h;split at h
  ·rename_i cs hrow;split at h
   ·rename_i hc
    cases h
    obtain⟨h1,h2,h3,h4⟩:=hc;have hm:mx=none:=by cases mx<;>simp_all
    subst hm;simp only[OR]at hmx;subst hmx;simp only[VR]at hx;obtain⟨lc,hl,rfl⟩:=hx;have hg:=hR.good b _ hrow;obtain⟨lc',C,e',fr,g1,g2,g3,g4,_⟩:=hg;rw[hl]at g1;cases g1
    have hb:=run_bounds (P:=P) (n:=n) (cap:=n) (mx':=none) false hlo hhi (by simp[OR]) el eh h2 n (.inl ⟨rfl,rfl,.inr h3⟩) w;refine⟨.slice (some (if n=l then⟨lc.cb,lc.co+o,none⟩else⟨lc.cb,lc.co+o+l*s,none⟩)) (hh - l) (n - l),?_,?_⟩
    ·simp only[Instr.sliceAt,Sem.run_bind,run_underlying hund,Result.andThen_ok,Instr.sureAddr,Sem.run_pure,hb,run_size hs,add_none]
    ·simp only[VR];by_cases en:n=l
     ·rw[if_pos en];refine⟨lc,lc.co+o,n - l,none,hl,rfl,by omega,by omega,fun _=>rfl,fun h0=>by omega,fun h0=>⟨?_,rfl⟩⟩;rw[en,Nat.sub_self,Nat.zero_mul];have:0<=n*s:=Nat.zero_le _;omega
     ·rw[if_neg en];refine⟨lc,lc.co+o+l*s,n - l,none,hl,rfl,by omega,by omega,fun _=>rfl,fun h0=>⟨by omega,rfl⟩,fun h0=>⟨?_,rfl⟩⟩;have hmul:l*s+(n - l)*s=n*s:=by rw[←Nat.add_mul];congr 1;omega
      omega
   ·cases h
  ·cases h
 ·cases h
end Go.Shade
namespace Go.Shade
open Go.RowKit
variable {B0 : Nat} {H : Heap} {P : Program} {cs : List IV} {m : Mp} {r x : IV} {t : TypeId} {v : Value} {w w0 : World}
def ifieldAddr (P:Program)(s:TypeId)(x:IV)(f:Nat):Option IV :=
 match P.underlying s,x with
 | some (.struct fs),.ptr b o=>match fs[f]? with
  | some fd=>match szOf P fd.type with
   | some (_+1)=>some (.ptr b (o+fd.offset))
   | _=>none
  | none=>none
 | _,_=>none
theorem run_ifieldAddr {s:TypeId}{f:Nat}(hx:VR m x v)(h:ifieldAddr P s x f=some r)(w:World) :
  ∃u,(Instr.fieldAt s v f).run P w=.ok u w/\VR m r u:=by
 unfold ifieldAddr at h;split at h
 ·rename_i fs b o hund;split at h
  ·rename_i fd hf;split at h
   ·rename_i n hsz
    cases h
    simp only[VR]at hx;obtain⟨l,hl,rfl⟩:=hx;refine⟨.pointer (some ⟨l.cb,l.co+(o+fd.offset),none⟩),?_,by simp only[VR];exact⟨l,hl,rfl⟩⟩;simp only[Instr.fieldAt,Sem.run_bind,run_underlying hund,Result.andThen_ok,hf,Instr.sureAddr,Sem.run_pure,fieldPlace,run_size hsz];rw[if_neg (by omega),Sem.run_pure,add_none,Nat.add_assoc];rfl
   ·cases h
  ·cases h
 ·cases h
def iindexAddr (P:Program)(t:TypeId)(x i:IV):Option IV :=
 match P.underlying t,x,i with
 | some (.slice e),.slice b o n _ _ _,.int _ j=>(szOf P e).bind fun s=>if 0<=j/\j<n then some (.ptr b (o+j.toNat*s))else none
 | some (.array n e),.ptr b o,.int _ j=>(szOf P e).bind fun s=>if 0<=j/\j<n then some (.ptr b (o+j.toNat*s))else none
 | _,_,_=>none
theorem run_iindexAddr {i:IV}{vi:Value}(hx:VR m x v)(hi:VR m i vi)(h:iindexAddr P t x i=some r)(w:World) :
  ∃u,(Instr.indexAt t v vi).run P w=.ok u w/\VR m r u:=by
 unfold iindexAddr at h;split at h
 ·rename_i e b o n lb ex sz k j hund;obtain⟨s,hs,h⟩:=obs h;split at h
  ·rename_i hj
   cases h
   simp only[VR]at hx hi;subst hi;obtain⟨l,o1,c,sp,hl,rfl,hn,hlb,_,hoff,_⟩:=hx;refine⟨.pointer (some ⟨l.cb,l.co+(o+j.toNat*s),none⟩),?_,by simp only[VR];exact⟨l,hl,rfl⟩⟩;simp only[Instr.indexAt,asIntOf,Sem.run_bind,Sem.run_pure,Result.andThen_ok,run_underlying hund];rw[if_pos hj];obtain⟨e1,e2⟩:=hoff (by omega);subst e2;simp only[Sem.run_bind,run_size hs,Result.andThen_ok,Sem.run_pure,add_none];rw[e1,Nat.add_assoc]
  ·cases h
 ·rename_i n e b o k j hund;obtain⟨s,hs,h⟩:=obs h;split at h
  ·rename_i hj
   cases h
   simp only[VR]at hx hi;subst hi;obtain⟨l,hl,rfl⟩:=hx;refine⟨.pointer (some ⟨l.cb,l.co+(o+j.toNat*s),none⟩),?_,by simp only[VR];exact⟨l,hl,rfl⟩⟩;simp only[Instr.indexAt,asIntOf,Sem.run_bind,Sem.run_pure,Result.andThen_ok,run_underlying hund,Instr.sureAddr];rw[if_pos hj];simp only[Sem.run_bind,run_size hs,Result.andThen_ok,Sem.run_pure,add_none];rw[Nat.add_assoc]
  ·cases h
 ·cases h
def ipart (P:Program)(t:TypeId)(cs:List IV)(off:Nat):Option IV :=
 match isAggT P t with
 | some true=>(szOf P t).bind fun n=>if off+n<=cs.length then some (.agg ((cs.drop off).take n))else none
 | some false=>cs[off]?
 | none=>none
theorem run_ipart {off:Nat}{us:Array Value}(hx:VRs m cs us.toList)(h:ipart P t cs off=some r)(w:World) :
  ∃u,(part t us off).run P w=.ok u w/\VR m r u:=by
 unfold ipart at h
 cases ha:isAggT P t with
 | none=>simp[ha]at h
 | some c =>
  cases c with
  | true =>
   simp only[ha]at h;obtain⟨n,hn,h⟩:=obs h;split at h
   ·cases h
    refine⟨.agg (us.extract off (off+n)),by simp[part,run_isAgg ha,run_size hn],?_⟩;simp only[VR];refine⟨_,rfl,?_⟩;have:(us.extract off (off+n)).toList=(us.toList.drop off).take n:=by
     rw[Array.toList_extract,List.extract_eq_take_drop];congr 1;omega
    rw[this];exact(hx.drop off).take n
   ·cases h
  | false =>
   simp only[ha]at h;obtain⟨u,hu,hr⟩:=hx.get h;exact⟨u,run_part ha (by simpa using hu) w,hr⟩
def ifield (P:Program)(t:TypeId)(x:IV)(f:Nat):Option IV :=
 match P.underlying t,x with
 | some (.struct fs),.agg cs=>match fs[f]? with
  | some fd=>ipart P fd.type cs fd.offset
  | none=>none
 | _,_=>none
theorem run_ifield {f:Nat}(hx:VR m x v)(h:ifield P t x f=some r)(w:World) :
  ∃u,(Instr.field t v f).run P w=.ok u w/\VR m r u:=by
 unfold ifield at h;split at h
 ·rename_i fs cs hund;split at h
  ·rename_i fd hf;simp only[VR]at hx;obtain⟨us,rfl,hus⟩:=hx;obtain⟨u,hu,hr⟩:=run_ipart hus h w;exact⟨u,by simp only[Instr.field,Sem.run_bind,run_underlying hund,Result.andThen_ok,hf,asAgg,Sem.run_pure,hu],hr⟩
  ·cases h
 ·cases h
def iindex (P:Program)(t:TypeId)(x i:IV):Option IV :=
 match P.underlying t,x,i with
 | some (.array n e),.agg cs,.int _ j=>(szOf P e).bind fun s=>if 0<=j/\j<n then ipart P e cs (j.toNat*s)else none
 | some .string,.str s,.int _ j=>if 0<=j then(s[j.toNat]?).bind fun c=>some (.int .u8 c.toNat)else none
 | _,_,_=>none
theorem run_iindex {i:IV}{vi:Value}(hx:VR m x v)(hi:VR m i vi)(h:iindex P t x i=some r)(w:World) :
  ∃u,(Instr.index t v vi).run P w=.ok u w/\VR m r u:=by
 unfold iindex at h;split at h
 ·rename_i n e cs k j hund;obtain⟨s,hs,h⟩:=obs h;split at h
  ·rename_i hj;simp only[VR]at hx hi;subst hi;obtain⟨us,rfl,hus⟩:=hx;obtain⟨u,hu,hr⟩:=run_ipart hus h w;refine⟨u,?_,hr⟩;simp only[Instr.index,asIntOf,Sem.run_bind,Sem.run_pure,Result.andThen_ok,run_underlying hund];rw[if_pos hj];simp only[Sem.run_bind,run_size hs,Result.andThen_ok,hu]
  ·cases h
 ·rename_i s k j hund;split at h
  ·rename_i hj;obtain⟨c,hc,h⟩:=obs h
   cases h
   simp only[VR]at hx hi;subst hi;subst hx;refine⟨_,?_,VR_int m _ _⟩;have hlt:=(ges hc);obtain⟨hlt,he⟩:=hlt;have hg:(⟨s.toArray⟩:ByteArray)[j.toNat]? =some c:=by
    rw[getElem?_pos _ _ (by rw[size_mk];exact hlt)];show some (s.toArray[j.toNat])=some c;simp[he]
   simp only[Instr.index,asIntOf,Sem.run_bind,Sem.run_pure,Result.andThen_ok,run_underlying hund];rw[if_pos hj,hg];rfl
  ·cases h
 ·cases h
def iextract (x:IV)(i:Nat):Option IV :=
 match x with
 | .tuple vs=>vs[i]?
 | _=>none
theorem run_iextract {i:Nat}(hx:VR m x v)(h:iextract x i=some r)(w:World) :
  ∃u,(Instr.extract v i).run P w=.ok u w/\VR m r u:=by
 unfold iextract at h;split at h
 ·rename_i vs;simp only[VR]at hx;obtain⟨us,rfl,hus⟩:=hx;obtain⟨u,hu,hr⟩:=hus.get h;have hu':us[i]? =some u:=by simpa using hu
  exact⟨u,by simp[Instr.extract,hu'],hr⟩
 ·cases h
def iun (op:UnOp)(x:IV):Option IV :=
 match op,x with
 | .neg,.int k n=>some (.int k (k.wrap (0 - n)))
 | .not,.bool b=>some (.bool (!b))
 | .xor,.int k n=>iarith .xor k (if k.signed then -1 else k.max) n
 | _,_=>none
theorem run_iun {op:UnOp}(hx:VR m x v)(h:iun op x=some r)(w:World) :
  ∃u,(Op.unary op v).run P w=.ok u w/\VR m r u:=by
 unfold iun at h;split at h
 ·cases h;simp only[VR]at hx;subst hx;exact⟨_,rfl,VR_int m _ _⟩
 ·cases h;simp only[VR]at hx;subst hx;exact⟨_,rfl,VR_bool m _⟩
 ·simp only[iarith]at h;cases h;simp only[VR]at hx;subst hx;exact⟨_,rfl,VR_int m _ _⟩
 ·cases h
def ibytes :List IV->Option (List UInt8)
 | []=>some []
 | .int .u8 n::r=>(ibytes r).bind fun l=>some (UInt8.ofNat n.toNat::l)
 | _::_=>none
def irow (H:Heap)(b o n:Nat):Option (List IV) :=
 match H[b]? with
 | some (.row cs _)=>if o+n<=cs.length then some ((cs.drop o).take n)else none
 | _=>none
theorem run_irow (hR:Rel B0 w0 m H w){b o n:Nat}(h:irow H b o n=some cs){l:Loc}(hl:m b=some l) :
  ∃us:List Value,us.length=n/\VRs m cs us/\(loadCells ⟨l.cb,l.co+o,none⟩ n).run P w=.ok us.toArray w:=by
 unfold irow at h;split at h
 ·rename_i ds ro hb;split at h
  ·rename_i hn
   cases h
   obtain⟨us,g1,g2,g3⟩:=hR.cells hb hl o n hn;refine⟨us,g1,g2,?_⟩;have:=run_loadCells_list (P:=P) w ⟨l.cb,l.co+o,none⟩ us g3
   rwa [g1]at this
  ·cases h
 ·cases h
def isl (P:Program)(H:Heap)(e:TypeId)(x:IV)(n:Nat):Option (List IV) :=
 match x with
 | .nilSlice=>if n=0 then some []else none
 | .slice b o len _ _ _=>(szOf P e).bind fun s=>if n<=len then(if n=0 then some []else irow H b o (n*s))else none
 | _=>none
theorem run_isl (hR:Rel B0 w0 m H w){e:TypeId}{n:Nat}(h:isl P H e x n=some cs)(hx:VR m x v){s:Nat}(hs:szOf P e=some s) :
  ∃us:List Value,VRs m cs us/\(Builtin.firstCells s n v).run P w=.ok us.toArray w:=by
 unfold isl at h;split at h
 ·split at h
  ·cases h;simp only[VR]at hx;subst hx;exact⟨[],VRs.nil m,rfl⟩
  ·cases h
 ·rename_i b o len lb ex sz;obtain⟨s',hs',h⟩:=obs h;rw[hs]at hs';cases hs'
  simp only[VR]at hx;obtain⟨l,o1,c,sp,hl,rfl,hn,hlb,_,hoff,_⟩:=hx;split at h
  ·rename_i hle;split at h
   ·rename_i h0
    cases h;subst h0
    refine⟨[],VRs.nil m,?_⟩;simp[Builtin.firstCells,loadCells,loadCellsFrom]
   ·rename_i h0;obtain⟨us,_,g2,g3⟩:=run_irow (P:=P) hR h hl;obtain⟨e1,e2⟩:=hoff (by omega);rw[e1,e2];exact⟨us,g2,g3⟩
  ·cases h
 ·cases h
theorem ibytes_VRs {m:Mp}:∀{cs:List IV} {us:List Value} {l:List UInt8},VRs m cs us->ibytes cs=some l->∃ns:List Int,us=ns.map (Value.int .u8)/\l=ns.map fun n=>UInt8.ofNat n.toNat
 | [],us,l,h,k=>by
  simp only[VRs]at h;subst h;simp only[ibytes]at k;cases k
  exact⟨[],rfl,rfl⟩
 | x::cs,us,l,h,k=>by
  simp only[VRs]at h;obtain⟨v,vs,rfl,hv,hr⟩:=h;unfold ibytes at k;split at k
  ·rename_i e;cases e
  ·rename_i n r e
   cases e
   obtain⟨l',h1,h2⟩:=obs k
   cases h2
   obtain⟨ns,h3,h4⟩:=ibytes_VRs hr h1;simp only[VR]at hv;subst hv;exact⟨n::ns,by simp[h3],by simp[h4]⟩
  ·cases k
theorem push_bytes (ns:List Int):∀(a:List UInt8),ns.foldl (fun r n=>r.push (UInt8.ofNat n.toNat)) (⟨a.toArray⟩:ByteArray)=⟨(a++ns.map fun n=>UInt8.ofNat n.toNat).toArray⟩:=by
 induction ns with
 | nil=>intro a;simp
 | cons n ns ih =>
  intro a;simp only[List.foldl_cons,List.map_cons];have:(⟨a.toArray⟩:ByteArray).push (UInt8.ofNat n.toNat)=⟨(a++[UInt8.ofNat n.toNat]).toArray⟩:=by
   apply ByteArray.ext;simp[ByteArray.push]
  rw[this,ih];simp
def iconv (P:Program)(H:Heap)(src dst:TypeId)(x:IV):Option IV :=
 match P.underlying src,P.underlying dst,x with
 | some _,some (.int k),.int _ n=>some (.int k (k.wrap n))
 | some _,some .string,.str s=>some (.str s)
 | some (.slice e),some .string,x =>
  match P.underlying e,x with
  | some (.int .u8),.nilSlice=>some (.str [])
  | some (.int .u8),.slice b o n lb ex sz=>(szOf P e).bind fun s=>if s=1 then(isl P H e (.slice b o n lb ex sz) n).bind fun cs=>(ibytes cs).bind fun l=>some (.str l)else none
  | _,_=>none
 | _,_,_=>none
theorem run_iconv (hR:Rel B0 w0 m H w){src dst:TypeId}(hx:VR m x v)(h:iconv P H src dst x=some r) :
  ∃u,(convert src dst v).run P w=.ok u w/\VR m r u:=by
 unfold iconv at h;split at h
 ·rename_i d k k' n hs hd
  cases h
  simp only[VR]at hx;subst hx;refine⟨_,?_,VR_int m _ _⟩;simp only[convert,Sem.run_bind,run_underlying hs,run_underlying hd,Result.andThen_ok];rfl
 ·rename_i d s hs hd
  cases h
  simp only[VR]at hx;subst hx;refine⟨_,?_,VR_str m _⟩;simp only[convert,Sem.run_bind,run_underlying hs,run_underlying hd,Result.andThen_ok];rfl
 ·rename_i hs hd hno;split at h
  ·rename_i he
   cases h
   simp only[VR]at hx;subst hx;refine⟨_,?_,VR_str m _⟩;rw[run_convert_bytes_string w src dst _ none 0 0 hs he hd];rfl
  ·rename_i b o n lb ex sz he;obtain⟨s,hsz,h⟩:=obs h;split at h
   ·rename_i h1;subst h1;obtain⟨cs,hcs,h⟩:=obs h;obtain⟨l,hl,h⟩:=obs h
    cases h
    obtain⟨us,hus,hrun⟩:=run_isl (P:=P) hR hcs hx hsz;simp only[VR]at hx;obtain⟨lc,o1,c,sp,_,rfl,_⟩:=hx;obtain⟨ns,rfl,rfl⟩:=ibytes_VRs hus hl;refine⟨_,?_,VR_str m _⟩;rw[run_convert_bytes_string w src dst _ _ _ _ hs he hd];rw[run_bytesToString w _ _ _ ns (by simpa[Builtin.firstCells]using hrun)];have:=push_bytes ns [];simp only[List.nil_append]at this;rw[←this];rfl
   ·cases h
  ·cases h
 ·cases h
end Go.Shade
namespace Go.Shade
open Go.RowKit
variable {B0 : Nat} {H : Heap} {P : Program} {m : Mp} {r x : IV} {t : TypeId} {v : Value} {w w0 : World}
def isIface (P:Program)(t:TypeId):Option Bool :=
 match P.underlying t with
 | some (.interface _)=>some true
 | some _=>some false
 | none=>none
def imakeIface (P:Program)(t:TypeId)(x:IV):Option IV:=if isIface P t=some false then some (.iface t x)else none
theorem run_imakeIface (hx:VR m x v)(h:imakeIface P t x=some r)(w:World) :
  ∃u,(Instr.makeInterface t v).run P w=.ok u w/\VR m r u:=by
 unfold imakeIface at h;split at h
 ·rename_i hi
  cases h
  unfold isIface at hi
  cases hu:P.underlying t with
  | none=>simp[hu]at hi
  | some d =>
   refine⟨.iface t v,?_,by simp only[VR];exact⟨v,rfl,hx⟩⟩
   cases d<;>simp_all [Instr.makeInterface,run_underlying hu]
 ·cases h
def iassert (P:Program)(x:IV)(T:TypeId)(ok:Bool):Option IV :=
 match P.underlying T,x with
 | some (.interface want),.iface t v=>match P.info? t with
  | some i=>if(Instr.missingMethod want i.methods).isNone then some (if ok then .tuple [.iface t v,.bool true]else .iface t v)else none
  | none=>none
 | some (.interface _),_=>none
 | some _,.nilIface=>if ok then(zeroOf P T).bind fun z=>some (.tuple [z,.bool false])else none
 | some _,.iface t v=>if t=T then some (if ok then .tuple [v,.bool true]else v)else if ok then(zeroOf P T).bind fun z=>some (.tuple [z,.bool false])else none
 | _,_=>none
theorem VR_pair (h:VR m x v)(b:Bool):VR m (.tuple [x,.bool b]) (.tuple #[v,.bool b]):=by
 simp only[VR];exact⟨_,rfl,VRs.cons h (VRs.cons (VR_bool m b) (VRs.nil m))⟩
theorem run_iassert {xT T:TypeId}{ok:Bool}(hx:VR m x v)(h:iassert P x T ok=some r)(w:World) :
  ∃u,(Instr.typeAssert v xT T ok).run P w=.ok u w/\VR m r u:=by
 unfold iassert at h;split at h
 ·rename_i want t y hund;split at h
  ·rename_i i hi;split at h
   ·rename_i hmiss
    cases h
    have hm:Instr.missingMethod want i.methods=none:=by simpa using hmiss
    simp only[VR]at hx;obtain⟨z,rfl,hz⟩:=hx;have hzz:VR m (.iface t y) (.iface t z):=by simp only[VR];exact⟨z,rfl,hz⟩
    cases ok with
    | true=>exact⟨.tuple #[.iface t z,.bool true],by simp[Instr.typeAssert,run_underlying hund,run_info hi,hm],VR_pair hzz _⟩
    | false=>exact⟨.iface t z,by simp[Instr.typeAssert,run_underlying hund,run_info hi,hm],hzz⟩
   ·cases h
  ·cases h
 ·cases h
 ·rename_i d hni hund;split at h
  ·rename_i hok;obtain⟨z,hz,h⟩:=obs h
   cases h
   simp only[VR]at hx;subst hx;obtain⟨u,hu,hr⟩:=run_zero hz w m;refine⟨.tuple #[u,.bool false],?_,VR_pair hr _⟩;have hd:∀ms,d≠ .interface ms:=fun ms e=>by subst e;simp_all
   cases d<;>first
    | exact absurd rfl (hd _)
    | simp[Instr.typeAssert,run_underlying hund,hu,hok]
  ·cases h
 ·rename_i d t y hni hund;have hd:∀ms,d≠ .interface ms:=fun ms e=>by subst e;simp_all
  simp only[VR]at hx;obtain⟨z,rfl,hz⟩:=hx;split at h
  ·rename_i ht
   cases h
   subst ht
   cases ok with
   | true =>
    refine⟨.tuple #[z,.bool true],?_,VR_pair hz _⟩
    cases d<;>first
     | exact absurd rfl (hd _)
     | simp[Instr.typeAssert,run_underlying hund]
   | false =>
    refine⟨z,?_,hz⟩
    cases d<;>first
     | exact absurd rfl (hd _)
     | simp[Instr.typeAssert,run_underlying hund]
  ·rename_i ht;split at h
   ·rename_i hok;obtain⟨q,hq,h⟩:=obs h
    cases h
    obtain⟨u,hu,hr⟩:=run_zero hq w m;refine⟨.tuple #[u,.bool false],?_,VR_pair hr _⟩
    cases d<;>first
     | exact absurd rfl (hd _)
     | simp[Instr.typeAssert,run_underlying hund,hu,hok,ht]
   ·cases h
 ·cases h
def ifind (key:IV):List (IV×IV×Nat)->Nat->Option (Option (Nat×IV))
 | [],_=>some none
 | (k,v,_)::es,i=>match cellEq key k with
  | some true=>some (some (i,v))
  | some false=>ifind key es (i+1)
  | none=>none
theorem run_checkKey (hs:scalarT P t x=true)(hv:VR m x v)(b:Bool)(n:Nat)(w:World):(Instr.checkKey b (n+1) t v).run P w=.ok () w:=by
 rcases scalar_value hs hv with⟨k,k1,i,h1,rfl,rfl⟩ | ⟨c,h1,rfl,rfl⟩ | ⟨s,h1,rfl,rfl⟩ <;>
  (rw[Instr.checkKey,Sem.run_bind,run_underlying h1];rfl)
theorem sameNow_cellEq {y:IV}{u:Value}{d:TypeDesc}{b:Bool}(hd:P.underlying t=some d)(hs:scalarT P t x=true)(hu:VR m x u)(hv:VR m y v)(h:cellEq x y=some b):Instr.sameNow d u v=some b:=by
 rcases scalar_value hs hu with⟨k,k1,i,h1,rfl,rfl⟩ | ⟨c,h1,rfl,rfl⟩ | ⟨s,h1,rfl,rfl⟩<;>rw[hd]at h1<;>cases h1<;>cases y<;>simp only[cellEq]at h<;>first
  | (cases h;done)
  | skip
 ·simp only[VR]at hv;subst hv;split at h
  ·rename_i e;cases h;simp[Instr.sameNow,e]
  ·cases h
 ·simp only[VR]at hv;subst hv;cases h;rfl
 ·simp only[VR]at hv;subst hv;cases h;simp[Instr.sameNow,mk_beq]
theorem findNow_ifind {P:Program}{m:Mp}{t:TypeId}{x:IV}{u:Value}{d:TypeDesc}(hd:P.underlying t=some d)(hs:scalarT P t x=true)(hu:VR m x u) :
  ∀(es:List (IV×IV×Nat)) (es':List MapEntry) (i:Nat) (r:Option (Nat×IV)),es.length=es'.length->(∀(j:Nat) y,es[j]? =some y->∃e,es'[j]? =some e/\ERel m y e)->ifind x es i=some r ->
   (r=none/\Instr.findNow d u es' i=some none)∨(∃j v z,r=some (j,v)/\Instr.findNow d u es' i=some (some (j,z))/\VR m v z/\i<=j/\∃k b e,es[j - i]? =some (k,v,b)/\cellEq x k=some true/\es'[j - i]? =some e/\e.val=z)
 | [],es',i,r,hlen,_,h=>by
  simp only[ifind]at h;cases h
  have:es'=[]:=List.length_eq_zero_iff.1 hlen.symm;subst this;exact .inl ⟨rfl,rfl⟩
 | (k,v,b)::es,[],i,r,hlen,_,h=>by simp at hlen
 | (k,v,b)::es,e::es',i,r,hlen,hes,h=>by
  obtain⟨e',he,hk,hv,hb⟩:=hes 0 _ (by simp;rfl);simp at he;subst he;unfold ifind at h
  cases hc:cellEq x k with
  | none=>simp[hc]at h
  | some c =>
   have hsn:=sameNow_cellEq (P:=P) hd hs hu hk hc
   cases c with
   | true =>
    simp only[hc]at h;cases h
    refine .inr ⟨i,v,e.val,rfl,?_,hv,Nat.le_refl _,k,b,e,by simp,hc,by simp,rfl⟩;simp[Instr.findNow,hsn]
   | false =>
    simp only[hc]at h;have ih:=findNow_ifind hd hs hu es es' (i+1) r (by simpa using hlen) (fun j y hy=>by simpa using hes (j+1) y (by simpa using hy)) h;have hf:Instr.findNow d u (e::es') i=Instr.findNow d u es' (i+1):=by simp[Instr.findNow,hsn]
    rw[hf];rcases ih with ih | ⟨j,q,z,h1,h2,h3,h4,k',b',e',h5,h6,h7,h8⟩
    ·exact .inl ih
    ·refine .inr ⟨j,q,z,h1,h2,h3,by omega,k',b',e',?_,h6,?_,h8⟩
     ·rw[show j - i=j - (i+1)+1 by omega];simpa using h5
     ·rw[show j - i=j - (i+1)+1 by omega];simpa using h7
def iment (H:Heap)(x:IV):Option (List (IV×IV×Nat)) :=
 match x with
 | .nilMap=>some []
 | .map r=>match H[r]? with
  | some (.map es _)=>some es
  | _=>none
 | _=>none
theorem run_iment (hR:Rel B0 w0 m H w){es:List (IV×IV×Nat)}(hx:VR m x v)(h:iment H x=some es) :
  (v=.map none/\es=[])∨(∃b es' clock,v=.map (some b)/\w.heap[b]? =some (.map es' clock)/\es.length=es'.size/\∀(j:Nat) y,es[j]? =some y->∃e,es'[j]? =some e/\ERel m y e):=by
 unfold iment at h;split at h
 ·cases h;simp only[VR]at hx;exact .inl ⟨hx,rfl⟩
 ·rename_i r;split at h
  ·rename_i es1 clock hr
   cases h
   simp only[VR]at hx;obtain⟨l,hl,rfl⟩:=hx;obtain⟨l',es',h1,h2,h3,h4,h5⟩:=hR.good r _ hr;rw[hl]at h1;cases h1
   exact .inr ⟨l.cb,es',clock,rfl,h2,h4,h5⟩
  ·cases h
 ·cases h
def ilookup (P:Program)(H:Heap)(t:TypeId)(x key:IV)(ok:Bool):Option IV :=
 match P.underlying t with
 | some (.map kt et) =>
  (iment H x).bind fun es=>if scalarT P kt key then
   (ifind key es 0).bind fun r=>match r with
    | some (_,v)=>some (if ok then .tuple [v,.bool true]else v)
    | none=>(zeroOf P et).bind fun z=>some (if ok then .tuple [z,.bool false]else z)
   else none
 | _=>none
theorem run_ilookup (hR:Rel B0 w0 m H w){key:IV}{ok:Bool}{vk:Value}(hx:VR m x v)(hk:VR m key vk)(h:ilookup P H t x key ok=some r) :
  ∃u,(Instr.lookup t v vk ok).run P w=.ok u w/\VR m r u:=by
 unfold ilookup at h;split at h
 ·rename_i kt et hund;obtain⟨es,hes,h⟩:=obs h;split at h
  ·rename_i hs;obtain⟨r',hr',h⟩:=obs h;obtain⟨d,hd⟩:∃d,P.underlying kt=some d:=by
    unfold scalarT at hs
    cases hu:P.underlying kt with
    | none=>simp[hu]at hs
    | some d=>exact⟨d,rfl⟩
   have hck:=fun b=>run_checkKey (P:=P) hs hk b 9999 w;have main:∀es':Array MapEntry,es.length=es'.size->(∀(j:Nat) y,es[j]? =some y->∃e,es'[j]? =some e/\ERel m y e) ->
     (∃u,(Instr.findKey kt vk es'.toList).run P w=.ok none w/\(zeroValue et).run P w=.ok u w/\VR m r (if ok then .tuple #[u,.bool false]else u))∨
     (∃j u,(Instr.findKey kt vk es'.toList).run P w=.ok (some (j,u)) w/\VR m r (if ok then .tuple #[u,.bool true]else u)):=by
    intro es' hlen hrel;have hf:=findNow_ifind (P:=P) hd hs hk es es'.toList 0 r' (by simpa using hlen) (fun j y hy=>by obtain⟨e,he,hr⟩:=hrel j y hy;exact⟨e,by simpa using he,hr⟩) hr';rcases hf with⟨rfl,hf⟩ | ⟨j,q,z,rfl,hf,hz,_⟩
    ·simp only at h;obtain⟨z,hz,h⟩:=obs h
     cases h
     obtain⟨u,hu,hr⟩:=run_zero hz w m;refine .inl ⟨u,by simp[Instr.findKey,run_underlying hd,hf],hu,?_⟩
     cases ok with
     | true=>exact VR_pair hr _
     | false=>exact hr
    ·simp only at h;cases h
     refine .inr ⟨j,z,by simp[Instr.findKey,run_underlying hd,hf],?_⟩
     cases ok with
     | true=>exact VR_pair hz _
     | false=>exact hz
   rcases run_iment hR hx hes with⟨rfl,rfl⟩ | ⟨b,es',clock,rfl,hb,hlen,hrel⟩
   ·rcases main #[] rfl (by simp)with⟨u,h1,h2,h3⟩ | ⟨j,u,h1,h3⟩
    ·exact⟨_,by simp only[Instr.lookup,Sem.run_bind,run_underlying hund,Result.andThen_ok,Sem.run_pure,hck,h1,h2],h3⟩
    ·exact⟨_,by simp only[Instr.lookup,Sem.run_bind,run_underlying hund,Result.andThen_ok,Sem.run_pure,hck,h1],h3⟩
   ·have hg:(getObj b).run P w=.ok (.map es' clock) w:=by simp[getObj,Sem.run,hb]
    rcases main es' hlen hrel with⟨u,h1,h2,h3⟩ | ⟨j,u,h1,h3⟩
    ·exact⟨_,by simp only[Instr.lookup,Sem.run_bind,run_underlying hund,Result.andThen_ok,Sem.run_pure,hg,hck,h1,h2],h3⟩
    ·exact⟨_,by simp only[Instr.lookup,Sem.run_bind,run_underlying hund,Result.andThen_ok,Sem.run_pure,hg,hck,h1],h3⟩
  ·cases h
 ·cases h
def ilen (P:Program)(H:Heap)(t:TypeId)(x:IV):Option IV :=
 match P.underlying t,x with
 | some .string,.str s=>some (.int .i64 s.length)
 | some (.slice _),.slice _ _ n _ _ _=>some (.int .i64 n)
 | some (.slice _),.nilSlice=>some (.int .i64 0)
 | some (.array n _),_=>some (.int .i64 n)
 | some (.map _ _),x=>(iment H x).bind fun es=>some (.int .i64 es.length)
 | _,_=>none
theorem run_ilen (hR:Rel B0 w0 m H w){ty:TypeId}{ts:Array TypeId}(ht:ts[0]? =some t)(hx:VR m x v)(h:ilen P H t x=some r) :
  ∃u,(Builtin.len_ ts ty #[v]).run P w=.ok u w/\VR m r u:=by
 unfold ilen at h;split at h
 ·rename_i s hund
  cases h;simp only[VR]at hx;subst hx
  exact⟨_,by simp[Builtin.len_,ht,run_underlying hund,size_mk,goInt],VR_int m _ _⟩
 ·rename_i hund
  cases h;simp only[VR]at hx;obtain⟨l,o1,c,sp,_,rfl,_⟩:=hx
  exact⟨_,by simp[Builtin.len_,ht,run_underlying hund,goInt],VR_int m _ _⟩
 ·rename_i hund
  cases h;simp only[VR]at hx;subst hx
  exact⟨_,by simp[Builtin.len_,ht,run_underlying hund,goInt],VR_int m _ _⟩
 ·rename_i hund
  cases h
  exact⟨_,by simp[Builtin.len_,ht,run_underlying hund,goInt],VR_int m _ _⟩
 ·rename_i hund;obtain⟨es,hes,h⟩:=obs h
  cases h
  rcases run_iment hR hx hes with⟨rfl,rfl⟩ | ⟨b,es',clock,rfl,hb,hlen,hrel⟩
  ·exact⟨_,by simp[Builtin.len_,ht,run_underlying hund,goInt],VR_int m _ _⟩
  ·have hg:(getObj b).run P w=.ok (.map es' clock) w:=by simp[getObj,Sem.run,hb]
   refine⟨.int .i64 es'.size,by simp[Builtin.len_,ht,run_underlying hund,goInt,hg],?_⟩;rw[hlen];exact VR_int m _ _
 ·cases h
def imax2 :IV->IV->Option IV
 | .int k x,.int k' y=>if k=k' then some (.int k (if y > x then y else x))else none
 | _,_=>none
def imin2 :IV->IV->Option IV
 | .int k x,.int k' y=>if k=k' then some (.int k (if y<x then y else x))else none
 | _,_=>none
def ifold (f:IV->IV->Option IV):IV->List IV->Option IV
 | x,[]=>some x
 | x,y::ys=>(f x y).bind fun z=>ifold f z ys
theorem run_ifold {P:Program}{m:Mp}{f:IV->IV->Option IV}{g:Value->Value->Sem Value}(w:World)(hfg:∀x y r u v,VR m x u->VR m y v->f x y=some r->∃z,(g u v).run P w=.ok z w/\VR m r z) :
  ∀(ys:List IV) (vs:List Value) (x r:IV) (u:Value),VR m x u->VRs m ys vs->ifold f x ys=some r->∃z,(vs.foldlM g u).run P w=.ok z w/\VR m r z
 | [],vs,x,r,u,hx,hy,h=>by
  simp only[VRs]at hy;subst hy;simp only[ifold]at h;cases h
  exact⟨u,by simp,hx⟩
 | y::ys,vs,x,r,u,hx,hy,h=>by
  simp only[VRs]at hy;obtain⟨v,vs',rfl,h1,h2⟩:=hy;simp only[ifold]at h;obtain⟨q,h3,h4⟩:=obs h;obtain⟨z,h5,h6⟩:=hfg _ _ _ _ _ hx h1 h3;obtain⟨z',h7,h8⟩:=run_ifold w hfg ys vs' q r z h6 h2 h4;exact⟨z',by simp[List.foldlM_cons,h5,h7],h8⟩
theorem run_imax2 (w:World)(x y r:IV)(u v:Value)(hu:VR m x u)(hv:VR m y v)(h:imax2 x y=some r):∃z,(Builtin.max2 u v).run P w=.ok z w/\VR m r z:=by
 unfold imax2 at h;split at h
 ·split at h
  ·rename_i e;cases h;subst e
   simp only[VR]at hu hv;subst hu;subst hv;exact⟨_,rfl,VR_int m _ _⟩
  ·cases h
 ·cases h
theorem run_imin2 (w:World)(x y r:IV)(u v:Value)(hu:VR m x u)(hv:VR m y v)(h:imin2 x y=some r):∃z,(Builtin.min2 u v).run P w=.ok z w/\VR m r z:=by
 unfold imin2 at h;split at h
 ·split at h
  ·rename_i e;cases h;subst e
   simp only[VR]at hu hv;subst hu;subst hv;exact⟨_,rfl,VR_int m _ _⟩
  ·cases h
 ·cases h
end Go.Shade
namespace Go.Shade
open Go.RowKit
variable {P : Program} {m : Mp} {r : IV} {w : World}
theorem foldl_set :∀(vs:List Value) (k off:Nat) (C:Array Value),off+k+vs.length<=C.size ->
  ((vs.zipIdx k).foldl (fun cs (p:Value×Nat)=>cs.setIfInBounds (off+p.2) p.1) C).size=C.size /\
  ∀j,((vs.zipIdx k).foldl (fun cs (p:Value×Nat)=>cs.setIfInBounds (off+p.2) p.1) C)[j]? =if off+k<=j/\j<off+k+vs.length then vs[j - (off+k)]? else C[j]?
 | [],k,off,C,_=>⟨rfl,fun j=>by rw[if_neg (by simp only[List.length_nil];omega)];rfl⟩
 | v::vs,k,off,C,h=>by
  simp only[List.length_cons]at h;obtain⟨h1,h2⟩:=foldl_set vs (k+1) off (C.setIfInBounds (off+k) v) (by simp;omega);simp only[List.zipIdx_cons,List.foldl_cons];refine⟨by rw[h1];simp,fun j=> ?_⟩;rw[h2,Array.getElem?_setIfInBounds];simp only[List.length_cons];by_cases e1:j=off+k
  ·subst e1;rw[if_neg (by omega),if_pos rfl,if_pos (by omega),if_pos (by omega)];simp
  ·by_cases e2:off+(k+1)<=j/\j<off+(k+1)+vs.length
   ·rw[if_pos e2,if_pos (by omega),show j - (off+k)=j - (off+(k+1))+1 by omega];simp
   ·rw[if_neg e2,if_neg (Ne.symm e1),if_neg (by omega)]
def isTuple :IV->Bool
 | .tuple _=>true
 | _=>false
def ifill (place:Nat->Option (Nat×Nat))(cells:List IV):List (Nat×IV)->Option (List IV)
 | []=>some cells
 | (i,v)::rest =>
  match place i with
  | none=>none
  | some (off,size)=>if isTuple v=false/\v.cells.length=size/\off+size<=cells.length then ifill place (putAt cells off v.cells) rest else none
def PRs (m:Mp):List (Nat×IV)->List (Nat×Value)->Prop
 | [],l=>l=[]
 | (i,x)::xs,l=>∃v vs,l=(i,v)::vs/\VR m x v/\PRs m xs vs
theorem VRs_putAt {cs xs:List IV}{C C':List Value}{vs:List Value}{o:Nat}(h:VRs m cs C)(k:VRs m xs vs)(hn:o+xs.length<=cs.length)(hl:C'.length=C.length)(hg:∀(j:Nat),C'[j]? =if o<=j/\j<o+vs.length then vs[j - o]? else C[j]?):VRs m (putAt cs o xs) C':=by
 rw[VRs_iff];refine⟨by rw[putAt_length hn,hl,h.length],fun j x hj=> ?_⟩;rw[putAt_get hn]at hj;rw[hg,←k.length];split at hj
 ·rename_i e;rw[if_pos e];exact k.get hj
 ·rename_i e;rw[if_neg e];exact h.get hj
theorem ifill_fill {m:Mp}(place:Nat->Option (Nat×Nat)):∀(parts:List (Nat×IV)) (parts':List (Nat×Value)) (cs:List IV) (C:Array Value) (r:List IV),PRs m parts parts'->VRs m cs C.toList->ifill place cs parts=some r ->
  ∃R:Array Value,Instr.fill place C parts'=some R/\VRs m r R.toList
 | [],parts',cs,C,r,hp,hc,h=>by
  simp only[PRs]at hp;subst hp;simp only[ifill]at h;cases h
  exact⟨C,rfl,hc⟩
 | (i,x)::parts,parts',cs,C,r,hp,hc,h=>by
  simp only[PRs]at hp;obtain⟨v,vs,rfl,hx,hps⟩:=hp;simp only[ifill]at h;split at h
  ·cases h
  ·rename_i off size hpl;split at h
   ·rename_i hcond;obtain⟨h1,h2,h3⟩:=hcond;have hcells:=hx.cells (fun l e=>by subst e;simp[isTuple]at h1);have hlen:=hcells.length;have hCl:=hc.length;simp only[Array.length_toList]at hlen hCl;obtain⟨f1,f2⟩:=foldl_set v.cells.toList 0 off C (by simp;omega);have hput:VRs m (putAt cs off x.cells) ((v.cells.toList.zipIdx 0).foldl (fun cs (p:Value×Nat)=>cs.setIfInBounds (off+p.2) p.1) C).toList:=by
     refine VRs_putAt hc hcells (by omega) (by simpa using f1) (fun j=> ?_);rw[Array.getElem?_toList,f2];simp
    obtain⟨R,hR1,hR2⟩:=ifill_fill place parts vs _ _ r hps hput h;refine⟨R,?_,hR2⟩;simp only[Instr.fill,hpl];rw[if_neg (by simp;omega),←Array.foldl_toList,Array.toList_zipIdx];exact hR1
   ·cases h
def ibuild (P:Program)(t:TypeId)(parts:List (Nat×IV)):Option IV :=
 (zeroOf P t).bind fun z=>if isTuple z then none else
 match P.underlying t with
 | some (.array _ e)=>(szOf P e).bind fun s=>(ifill (fun i=>some (i*s,s)) z.cells parts).bind fun r=>some (.agg r)
 | some (.struct fields)=>(fields.toList.mapM (fun f=>(P.info? f.type).map fun i=>(f.offset,i.size))).bind fun places =>
   (ifill (places.toArray[·]?) z.cells parts).bind fun r=>some (.agg r)
 | _=>none
theorem run_ibuild {t:TypeId}{parts:List (Nat×IV)}{parts':Array (Nat×Value)}(hp:PRs m parts parts'.toList)(h:ibuild P t parts=some r)(w:World) :
  ∃u,(Instr.build t parts').run P w=.ok u w/\VR m r u:=by
 unfold ibuild at h;obtain⟨z,hz,h⟩:=obs h;split at h
 ·cases h
 ·rename_i htup;have hz0:=hz;unfold zeroOf at hz0;obtain⟨zv,h1,h2⟩:=obs hz0;obtain⟨it,h3,h4⟩:=obs h1;have hcells:=(ofV_VR m h2).cells (fun l e=>by subst e;simp[isTuple]at htup);split at h
  ·rename_i n e hund;obtain⟨s,hs,h⟩:=obs h;obtain⟨q,hq,h⟩:=obs h
   cases h
   obtain⟨R,hR1,hR2⟩:=ifill_fill _ _ _ _ _ _ hp hcells hq;refine⟨.agg R,?_,by simp only[VR];exact⟨_,rfl,hR2⟩⟩;refine run_build w t parts' R ?_;unfold szOf at hs
   cases hie:P.info? e with
   | none=>simp[hie]at hs
   | some ie=>simp[hie]at hs;subst hs;simp[Program.built,h3,hund,h4,hie,hR1]
  ·rename_i fields hund;obtain⟨places,hs,h⟩:=obs h;obtain⟨q,hq,h⟩:=obs h
   cases h
   obtain⟨R,hR1,hR2⟩:=ifill_fill _ _ _ _ _ _ hp hcells hq;refine⟨.agg R,?_,by simp only[VR];exact⟨_,rfl,hR2⟩⟩;refine run_build w t parts' R ?_;simp only[Program.built,h3,hund,h4,hs];exact hR1
  ·cases h
def ientry (H:Heap)(x:IV):Option IV :=
 match x with
 | .ptr i 0=>match H[i]? with
  | some (.iter (some r) _ seen last)=>match H[r]? with
   | some (.map es clock)=>if Nat.beq clock last then
     match seen.getLast? with
     | some s=>(es.find? fun e=>Nat.beq e.2.2 s).map fun e=>.tuple [e.1,e.2.1]
     | none=>none
    else none
   | _=>none
  | _=>none
 | _=>none
theorem find_ent {m:Mp}(s:Nat):∀{es:List (IV×IV×Nat)} {es':List MapEntry},es.length=es'.length->(∀(j:Nat) x,es[j]? =some x->∃e,es'[j]? =some e/\ERel m x e)->∀{x},es.find? (fun e=>Nat.beq e.2.2 s)=some x->∃e,es'.find? (fun e=>e.born==s)=some e/\ERel m x e
 | [],_,_,_,x,h=>by simp at h
 | a::es,[],hl,_,x,h=>by simp at hl
 | a::es,b::es',hl,hr,x,h=>by
  obtain⟨e,he,hab⟩:=hr 0 a rfl;simp at he;subst he;have hb:(b.born==s)=Nat.beq a.2.2 s:=by
   obtain⟨_,_,h3⟩:=hab;rw[h3,Bool.eq_iff_iff,beq_iff_eq,Nat.beq_eq]
  rw[List.find?_cons]at h;rw[List.find?_cons,hb];split at h
  ·rename_i hs
   cases h
   exact⟨b,rfl,hab⟩
  ·exact find_ent s (by simpa using hl) (fun j x hj=>by simpa using hr (j+1) x (by simpa using hj)) h
theorem run_ientry {B0:Nat}{w0:World}{H:Heap}(hR:Rel B0 w0 m H w){x:IV}{v:Value}(hx:VR m x v)(h:ientry H x=some r) :
  ∃u,(Instr.entry v).run P w=.ok u w/\VR m r u:=by
 unfold ientry at h;split at h
 ·rename_i i;simp only[VR]at hx;obtain⟨l,hl,rfl⟩:=hx;split at h
  ·rename_i k since seen last hi;split at h
   ·rename_i es clock hk;split at h
    ·rename_i hc;split at h
     ·rename_i s hs;obtain⟨e,he,rfl⟩:=Option.map_eq_some_iff.1 h;obtain⟨l',r',g1,g0,g2,g3,g4⟩:=hR.good i _ hi;rw[hl]at g1;cases g1
      obtain⟨lk,hlk,rfl⟩:∃lk,m k=some lk/\r'=some lk.cb:=by
       rcases g4 with⟨g,_⟩ | ⟨k',lk,g,h1,h2⟩
       ·cases g
       ·cases g;exact⟨lk,h1,h2⟩
      obtain⟨lr,es',k1,k2,k3,k4,k5⟩:=hR.good k _ hk;rw[hlk]at k1;cases k1
      obtain⟨me,hme,r1,r2,r3⟩:=find_ent (m:=m) s (es':=es'.toList) (by simpa using k4) (fun j x hj=>by simpa using k5 j x hj) he;have hg1:(getObj l.cb).run P w=.ok (.mapIter (some lk.cb) since seen.toArray last) w:=by simp[getObj,Sem.run,g2]
      have hg2:(getObj lk.cb).run P w=.ok (.map es' clock) w:=by simp[getObj,Sem.run,k2]
      have hcl:=Nat.eq_of_beq_eq_true hc;subst hcl;have hback:seen.toArray.back? =some s:=by simpa using hs
      have hfind:(es'.find? fun e=>e.born==s)=some me:=by rw[←Array.find?_toList];exact hme
      refine⟨.tuple #[me.key,me.val],?_,by simp only[VR];exact⟨_,rfl,VRs.cons r1 (VRs.cons r2 (VRs.nil m))⟩⟩;simp only[Instr.entry,g0,Nat.zero_add,Nat.add_zero,Sem.run_bind,hg1,Result.andThen_ok,hback,hg2,bne_self_eq_false,Bool.false_eq_true,if_false,hfind];rfl
     ·cases h
    ·cases h
   ·cases h
  ·cases h
 ·cases h
abbrev Env :=Operand->Option IV
def oneOpt (ρ:Env):Option Operand->Option (Option IV)
 | none=>some none
 | some x=>(ρ x).bind fun v=>some (some v)
def evs (ρ:Env):List Operand->Option (List IV)
 | []=>some []
 | x::xs=>(ρ x).bind fun v=>(evs ρ xs).bind fun vs=>some (v::vs)
def evps (ρ:Env):List (Nat×Operand)->Option (List (Nat×IV))
 | []=>some []
 | (i,x)::xs=>(ρ x).bind fun v=>(evps ρ xs).bind fun vs=>some ((i,v)::vs)
def iq (P:Program)(H:Heap)(ρ:Env):Op->Option IV
 | .move x=>ρ x
 | .assign x=>ρ x
 | .pick c a b=>match ρ c with
  | some (.bool true)=>ρ a
  | some (.bool false)=>ρ b
  | _=>none
 | .load t a=>match ρ a with
  | some (.ptr b o)=>iload P t H b o
  | _=>none
 | .nilCheck x=>match ρ x with
  | some (.ptr b o)=>some (.ptr b o)
  | some (.iface t v)=>some (.iface t v)
  | some (.func (.func f) a b)=>some (.func (.func f) a b)
  | _=>none
 | .binOp op t x y _=>(ρ x).bind fun a=>(ρ y).bind fun b=>ibin P op (isConst x||isConst y) t a b
 | .unOp op _ x=>(ρ x).bind fun a=>iun op a
 | .convert s d x=>(ρ x).bind fun a=>iconv P H s d a
 | .makeInterface t x=>(ρ x).bind fun a=>imakeIface P t a
 | .makeFunc fn first cap=>(evs ρ first.toList).bind fun a=>(evs ρ cap.toList).bind fun b=>some (.func fn a b)
 | .slice t x lo hi mx=>(ρ x).bind fun a=>(oneOpt ρ lo).bind fun l=>(oneOpt ρ hi).bind fun h=>(oneOpt ρ mx).bind fun k=>islice P H t a l h k
 | .fieldAddr s x f=>(ρ x).bind fun a=>ifieldAddr P s a f
 | .field t x f=>(ρ x).bind fun a=>ifield P t a f
 | .indexAddr t x i=>(ρ x).bind fun a=>(ρ i).bind fun j=>iindexAddr P t a j
 | .index t x i=>(ρ x).bind fun a=>(ρ i).bind fun j=>iindex P t a j
 | .lookup t x i ok=>(ρ x).bind fun a=>(ρ i).bind fun j=>ilookup P H t a j ok
 | .typeAssert x _ T ok=>(ρ x).bind fun a=>iassert P a T ok
 | .extract t i=>(ρ t).bind fun a=>iextract a i
 | .build t parts=>(evps ρ parts.toList).bind fun ps=>ibuild P t ps
 | .call { callee:=.builtin .len,args:=⟨[x]⟩,argTypes:=⟨t::_⟩ }=>(ρ x).bind fun a=>ilen P H t a
 | .call { callee:=.builtin .min,args:=⟨x::ys⟩,.. }=>(ρ x).bind fun a=>(evs ρ ys).bind fun l=>ifold imin2 a l
 | .call { callee:=.builtin .max,args:=⟨x::ys⟩,.. }=>(ρ x).bind fun a=>(evs ρ ys).bind fun l=>ifold imax2 a l
 | .entry x=>(ρ x).bind fun a=>ientry H a
 | _=>none
def ER (m:Mp)(ρ:Env)(ρ':Operand->Value):Prop:=∀x v,ρ x=some v->VR m v (ρ' x)
theorem evs_VRs {m:Mp}{ρ:Env}{ρ':Operand->Value}(h:ER m ρ ρ'):∀{xs:List Operand} {vs:List IV},evs ρ xs=some vs->VRs m vs (xs.map ρ')
 | [],vs,e=>by simp only[evs]at e;cases e;exact VRs.nil m
 | x::xs,vs,e=>by
  simp only[evs]at e;obtain⟨v,h1,e⟩:=obs e;obtain⟨l,h2,e⟩:=obs e
  cases e
  exact VRs.cons (h _ _ h1) (evs_VRs h h2)
theorem evps_PRs {m:Mp}{ρ:Env}{ρ':Operand->Value}(h:ER m ρ ρ'):∀{xs:List (Nat×Operand)} {vs:List (Nat×IV)},evps ρ xs=some vs->PRs m vs (xs.map fun(i,x)=>(i,ρ' x))
 | [],vs,e=>by simp only[evps]at e;cases e;rfl
 | (i,x)::xs,vs,e=>by
  simp only[evps]at e;obtain⟨v,h1,e⟩:=obs e;obtain⟨l,h2,e⟩:=obs e
  cases e
  simp only[PRs];exact⟨_,_,rfl,h _ _ h1,evps_PRs h h2⟩
theorem oneOpt_OR {ρ:Env}{ρ':Operand->Value}(h:ER m ρ ρ'){x:Option Operand}{r:Option IV}(e:oneOpt ρ x=some r):OR m r (x.map ρ'):=by
 cases x with
 | none=>simp only[oneOpt]at e;cases e;rfl
 | some x =>
  simp only[oneOpt]at e;obtain⟨v,h1,e⟩:=obs e
  cases e
  exact⟨_,rfl,h _ _ h1⟩
theorem vv {s:Sem Value}{w':World}{u:Value}(h:s.run P w=.ok u w'):(do pure (.value (←s)):Sem Next).run P w=.ok (.value u) w':=by
 simp[h]
theorem run_iq {B0:Nat}{w0:World}{H:Heap}(hR:Rel B0 w0 m H w){ρ:Env}{ρ':Operand->Value}(hρ:ER m ρ ρ'){o:Oper}(h:iq P H ρ o.op=some r) :
  ∃u,(execOp ρ' o).run P w=.ok (.value u) w/\VR m r u:=by
 obtain⟨dst,op,type,pos,after,guard⟩:=o;simp only at h;have fin:∀{s:Sem Value},(∃u,s.run P w=.ok u w/\VR m r u)->execOp ρ' ⟨dst,op,type,pos,after,guard⟩=(do pure (.value (←s)):Sem Next)->∃u,(execOp ρ' ⟨dst,op,type,pos,after,guard⟩).run P w=.ok (.value u) w/\VR m r u:=by
  intro s hs he;obtain⟨u,h1,h2⟩:=hs;exact⟨u,by rw[he];exact vv h1,h2⟩
 unfold iq at h;split at h
 ·exact⟨_,rfl,hρ _ _ h⟩
 ·exact⟨_,rfl,hρ _ _ h⟩
 ·rename_i c a b;split at h
  ·rename_i hc;have:=hρ _ _ hc;simp only[VR]at this;exact⟨ρ' a,by simp[execOp,this,asBool],hρ _ _ h⟩
  ·rename_i hc;have:=hρ _ _ hc;simp only[VR]at this;exact⟨ρ' b,by simp[execOp,this,asBool],hρ _ _ h⟩
  ·cases h
 ·rename_i t a;split at h
  ·rename_i b o ha;have hv:=hρ _ _ ha;simp only[VR]at hv;obtain⟨l,hl,hv⟩:=hv;obtain⟨u,h1,h2⟩:=run_iload hR h hl;exact fin ⟨u,by rw[hv];simp only[Instr.loadAt,Instr.sureAddr,Sem.run_bind,Sem.run_pure,Result.andThen_ok];exact h1,h2⟩ rfl
  ·cases h
 ·rename_i x;split at h
  ·rename_i b o hx
   cases h
   have hv:=hρ _ _ hx;have hv':=hv;simp only[VR]at hv;obtain⟨l,hl,hv⟩:=hv;exact⟨ρ' x,by simp[execOp,hv],hv'⟩
  ·rename_i t v hx
   cases h
   have hv:=hρ _ _ hx;have hv':=hv;simp only[VR]at hv;obtain⟨y,hv,_⟩:=hv;exact⟨ρ' x,by simp[execOp,hv],hv'⟩
  ·rename_i f a b hx
   cases h
   have hv:=hρ _ _ hx;have hv':=hv;simp only[VR]at hv;obtain⟨a',b',hv,_⟩:=hv;exact⟨ρ' x,by simp[execOp,hv],hv'⟩
  ·cases h
 ·obtain⟨a,h1,h⟩:=obs h;obtain⟨b,h2,h⟩:=obs h;exact fin (run_ibin (hρ _ _ h1) (hρ _ _ h2) h w) rfl
 ·obtain⟨a,h1,h⟩:=obs h;exact fin (run_iun (hρ _ _ h1) h w) rfl
 ·obtain⟨a,h1,h⟩:=obs h;exact fin (run_iconv hR (hρ _ _ h1) h) rfl
 ·obtain⟨a,h1,h⟩:=obs h;exact fin (run_imakeIface (hρ _ _ h1) h w) rfl
 ·rename_i fn first cap
  obtain⟨a,h1,h⟩:=obs h;obtain⟨b,h2,h⟩:=obs h
  cases h
  refine⟨.func fn (first.map ρ') (cap.map ρ'),rfl,?_⟩;simp only[VR];exact⟨_,_,rfl,by simpa using evs_VRs hρ h1,by simpa using evs_VRs hρ h2⟩
 ·obtain⟨a,h1,h⟩:=obs h;obtain⟨b,h2,h⟩:=obs h;obtain⟨c,h3,h⟩:=obs h;obtain⟨d,h4,h⟩:=obs h;exact fin (run_islice hR (hρ _ _ h1) (oneOpt_OR hρ h2) (oneOpt_OR hρ h3) (oneOpt_OR hρ h4) h) rfl
 ·obtain⟨a,h1,h⟩:=obs h;exact fin (run_ifieldAddr (hρ _ _ h1) h w) rfl
 ·obtain⟨a,h1,h⟩:=obs h;exact fin (run_ifield (hρ _ _ h1) h w) rfl
 ·obtain⟨a,h1,h⟩:=obs h;obtain⟨b,h2,h⟩:=obs h;exact fin (run_iindexAddr (hρ _ _ h1) (hρ _ _ h2) h w) rfl
 ·obtain⟨a,h1,h⟩:=obs h;obtain⟨b,h2,h⟩:=obs h;exact fin (run_iindex (hρ _ _ h1) (hρ _ _ h2) h w) rfl
 ·obtain⟨a,h1,h⟩:=obs h;obtain⟨b,h2,h⟩:=obs h;exact fin (run_ilookup hR (hρ _ _ h1) (hρ _ _ h2) h) rfl
 ·obtain⟨a,h1,h⟩:=obs h;exact fin (run_iassert (hρ _ _ h1) h w) rfl
 ·obtain⟨a,h1,h⟩:=obs h;exact fin (run_iextract (hρ _ _ h1) h w) rfl
 ·rename_i t parts;obtain⟨a,h1,h⟩:=obs h;exact fin (run_ibuild (parts':=parts.map fun(i,x)=>(i,ρ' x)) (by simpa using evps_PRs hρ h1) h w) rfl
 ·rename_i x t ts;obtain⟨a,h1,h⟩:=obs h;obtain⟨u,h2,h3⟩:=run_ilen (ty:=type) (ts:=⟨t::ts⟩) hR rfl (hρ _ _ h1) h;exact⟨u,by simp[execOp,resolve,invoke,builtin,h2],h3⟩
 ·rename_i x ys ts;obtain⟨a,h1,h⟩:=obs h;obtain⟨l,h2,h⟩:=obs h;obtain⟨u,h3,h4⟩:=run_ifold (P:=P) w (run_imin2 w) _ _ _ _ _ (hρ _ _ h1) (evs_VRs hρ h2) h;exact⟨u,by simp[execOp,resolve,invoke,builtin,Builtin.min_,h3],h4⟩
 ·rename_i x ys ts;obtain⟨a,h1,h⟩:=obs h;obtain⟨l,h2,h⟩:=obs h;obtain⟨u,h3,h4⟩:=run_ifold (P:=P) w (run_imax2 w) _ _ _ _ _ (hρ _ _ h1) (evs_VRs hρ h2) h;exact⟨u,by simp[execOp,resolve,invoke,builtin,Builtin.max_,h3],h4⟩
 ·obtain⟨a,h1,h⟩:=obs h;exact fin (run_ientry hR (hρ _ _ h1) h) rfl
 ·cases h
end Go.Shade
namespace Go.Shade
open Go.RowKit
variable {B0 : Nat} {H : Heap} {P : Program} {m : Mp} {t : TypeId} {w w0 : World}
theorem Rel.newRow (h:Rel B0 w0 m H w)(cs:List IV)(C:Array Value)(e:TypeId)(fr:Nat×Nat)(hn:cs.length<=C.size)(hfr:∀j,j<C.size->¬(fr.1<=j/\j<fr.2))(hc:∀(j:Nat) v,cs[j]? =some v->v.one=true/\∃u,C[j]? =some u/\VR m v u) :
  Rel B0 w0 (grow m H.length ⟨w.heap.size,0,C.size⟩) (H++[.row cs false]) (w.alloc (.cells C e fr)):=by
 refine h.push _ _ C.size ⟨⟨w.heap.size,0,C.size⟩,C,e,fr,grow_at _ _ _,?_,rfl,by simpa using hn,h.base,hfr,fun j v hj=> ?_⟩
 ·show(w.heap.push _)[w.heap.size]? =_;simp
 ·obtain⟨h1,u,h2,h3⟩:=hc j v hj;exact⟨h1,u,by simpa using h2,h3.ext (grow_ext h _)⟩
theorem cells_rel {cs:List IV}{C:Array Value}(h:VRs m cs C.toList)(h1:cs.all IV.one=true):∀(j:Nat) v,cs[j]? =some v->v.one=true/\∃u,C[j]? =some u/\VR m v u:=by
 intro j v hj;obtain⟨u,hu,hr⟩:=h.get hj;exact⟨List.all_eq_true.1 h1 _ (List.mem_of_getElem? hj),u,by simpa using hu,hr⟩
theorem Rel.newVar {P:Program}{B0:Nat}{w0 w:World}{m:Mp}{H:Heap}(h:Rel B0 w0 m H w){x:IV}{v:Value}(t:TypeId)(hx:VR m x v)(ht:isTuple x=false)(h1:x.cells.all IV.one=true) :
  ∃m' w',(Go.newVar t v).run P w=.ok ⟨w.heap.size,0,none⟩ w'/\Ext m m'/\Rel B0 w0 m' (H++[.row x.cells false]) w'/\VR m' (.ptr H.length 0) (.pointer (some ⟨w.heap.size,0,none⟩)):=by
 have hc:=hx.cells (fun l e=>by subst e;simp[isTuple]at ht);have hl:=hc.length;simp only[Array.length_toList]at hl;refine⟨_,_,?_,grow_ext h _,h.newRow x.cells v.cells t (0,0) (by omega) (by simp) (cells_rel hc h1),?_⟩
 ·simp[Go.newVar,Go.newRow]
 ·simp only[VR];exact⟨_,grow_at _ _ _,by simp⟩
inductive INext where
 | val (v:IV)
 | skip
 | enter (f:FuncId) (args:List IV)
def OkTo (P:Program)(B0:Nat)(w0:World)(m:Mp)(w:World)(s:Sem Next)(r:INext×Heap):Prop :=
 match r.1 with
 | .val v=>∃m' w' u,s.run P w=.ok (.value u) w'/\Ext m m'/\Rel B0 w0 m' r.2 w'/\VR m' v u
 | .skip=>∃m' w',s.run P w=.ok .skip w'/\Ext m m'/\Rel B0 w0 m' r.2 w'
 | .enter f args=>∃us:Array Value,s.run P w=.ok (.enter f us) w/\Rel B0 w0 m r.2 w/\VRs m args us.toList
def ibox (x:IV)(H:Heap):Option (INext×Heap):=if isTuple x=false/\x.cells.all IV.one=true then some (.val (.ptr H.length 0),H++[.row x.cells false])else none
theorem ok_box (h:Rel B0 w0 m H w){x:IV}{v:Value}(t:TypeId)(hx:VR m x v){r:INext×Heap}(e:ibox x H=some r) :
  OkTo P B0 w0 m w (do pure (.value (←Instr.box t v))) r:=by
 unfold ibox at e;split at e
 ·rename_i hc
  cases e
  obtain⟨m',w',h1,h2,h3,h4⟩:=h.newVar (P:=P) t hx hc.1 hc.2;exact⟨m',w',_,by simp[Instr.box,h1],h2,h3,h4⟩
 ·cases e
theorem ok_alloc (h:Rel B0 w0 m H w){r:INext×Heap}(e:((zeroOf P t).bind fun z=>ibox z H)=some r) :
  OkTo P B0 w0 m w (do pure (.value (←Instr.alloc t true (.tuple #[])))) r:=by
 obtain⟨z,hz,e⟩:=obs e;obtain⟨u,hu,hr⟩:=run_zero hz w m;unfold ibox at e;split at e
 ·rename_i hc
  cases e
  obtain⟨m',w',h1,h2,h3,h4⟩:=h.newVar (P:=P) t hr hc.1 hc.2;exact⟨m',w',_,by simp[Instr.alloc,hu,h1],h2,h3,h4⟩
 ·cases e
def istore (P:Program)(H:Heap)(t:TypeId)(a x:IV):Option Heap :=
 match a with
 | .ptr b o=>match H[b]? with
  | some (.row cs false)=>(szOf P t).bind fun n =>
   if isTuple x=false/\x.cells.length=n/\o+x.cells.length<=cs.length/\x.cells.all IV.one=true then some (H.set b (.row (putAt cs o x.cells) false))else none
  | _=>none
 | _=>none
theorem run_istore {H':Heap}(h:Rel B0 w0 m H w){a x:IV}{va vx:Value}(ha:VR m a va)(hx:VR m x vx)(e:istore P H t a x=some H') :
  ∃w',(Instr.storeAt t va vx).run P w=.ok () w'/\Rel B0 w0 m H' w':=by
 unfold istore at e;split at e
 ·rename_i b o;split at e
  ·rename_i cs hb;obtain⟨n,hn,e⟩:=obs e;split at e
   ·rename_i hc
    cases e
    obtain⟨c1,c2,c3,c4⟩:=hc;simp only[VR]at ha;obtain⟨l,hl,rfl⟩:=ha;have hcells:=hx.cells (fun l e=>by subst e;simp[isTuple]at c1);have hlen:=hcells.length;simp only[Array.length_toList]at hlen;obtain⟨h1,h2⟩:=h.put hb hl hcells c4 c3;refine⟨_,?_,h2⟩;simp only[Instr.storeAt,Instr.sureAddr,storeVar,Sem.run_bind,Sem.run_pure,Result.andThen_ok,run_size hn];rw[if_neg (by simp;omega)]
    simpa using h1 P
   ·cases e
  ·cases e
 ·cases e
def zrep (n:Nat)(zs:List IV):List IV:=(List.replicate n zs).flatten
theorem zrep_length (n:Nat)(zs:List IV):(zrep n zs).length=n*zs.length:=by simp[zrep]
theorem zrep_get (zs:List IV):∀(n j:Nat),(zrep n zs)[j]? =if j<n*zs.length then zs[j % zs.length]? else none
 | 0,j=>by simp[zrep]
 | n+1,j=>by
  have ih:=zrep_get zs n (j - zs.length);have hu:zrep (n+1) zs=zs++zrep n zs:=by simp[zrep,List.replicate_succ]
  rw[hu,List.getElem?_append];by_cases h:j<zs.length
  ·rw[if_pos h,Nat.mod_eq_of_lt h,if_pos (by rw[Nat.add_mul];omega)]
  ·rw[if_neg h,ih];have hm:(j - zs.length) % zs.length=j % zs.length:=by
    rw[←Nat.mod_eq_sub_mod (by omega)]
   rw[hm];by_cases h2:j - zs.length<n*zs.length
   ·rw[if_pos h2,if_pos (by rw[Nat.add_mul];omega)]
   ·rw[if_neg h2,if_neg (by rw[Nat.add_mul];omega)]
theorem zrep_all {zs:List IV}(h:zs.all IV.one=true)(n:Nat):(zrep n zs).all IV.one=true:=by
 rw[List.all_eq_true]at *;intro x hx;simp only[zrep,List.mem_flatten,List.mem_replicate]at hx;obtain⟨l,⟨_,rfl⟩,hx⟩:=hx;exact h x hx
def mcells (zero:Array Value)(k:Nat):Array Value:=(Array.range k).map (fun i=>zero[i % zero.size]!)
theorem mcells_VRs {zs:List IV}{zero:Array Value}(n:Nat)(h:VRs m zs zero.toList):VRs m (zrep n zs) (mcells zero (n*zs.length)).toList:=by
 rw[VRs_iff];have hl:=h.length;simp only[Array.length_toList]at hl;refine⟨by simp[zrep_length,mcells],fun j x hj=> ?_⟩;rw[zrep_get]at hj;split at hj
 ·rename_i hlt;obtain⟨u,hu,hr⟩:=h.get hj;refine⟨u,?_,hr⟩;have hu':zero[j % zero.size]? =some u:=by rw[←hl];simpa using hu
  simp only[mcells,Array.toList_map,Array.toList_range,List.getElem?_map,List.getElem?_range hlt,Option.map_some];rw[getElem!_def,hu']
 ·cases hj
def ibuildSlice (P:Program)(H:Heap)(t:TypeId)(len:Nat)(parts:List (Nat×IV)):Option (INext×Heap) :=
 match P.underlying t with
 | some (.slice e)=>(szOf P e).bind fun s =>
  if 16777216<len*s∨s=0 then none else
  (if len=0 then some []else(zeroOf P e).bind fun z=>if isTuple z=false/\z.cells.length=s/\z.cells.all IV.one=true then some (zrep len z.cells)else none).bind fun zs =>
  (ifill (fun i=>some (i*s,s)) zs parts).bind fun cells =>
  if cells.all IV.one=true/\cells.length=len*s then some (.val (.slice H.length 0 len len true s),H++[.row cells false])else none
 | _=>none
theorem run_ibuildSlice (h:Rel B0 w0 m H w){len:Nat}{parts:List (Nat×IV)}{parts':Array (Nat×Value)}(hp:PRs m parts parts'.toList){r:INext×Heap}(e:ibuildSlice P H t len parts=some r):OkTo P B0 w0 m w (do pure (.value (←Instr.buildSlice t len parts'))) r:=by
 unfold ibuildSlice at e;split at e
 ·rename_i et hund;obtain⟨s,hs,e⟩:=obs e;split at e
  ·cases e
  ·rename_i hbig;obtain⟨zs,hzs,e⟩:=obs e;obtain⟨cells,hcells,e⟩:=obs e;split at e
   ·rename_i hone
    cases e
    have key:∃z0:Array Value,((len*s=0/\z0= #[])∨(len*s≠0/\∃u,(zeroValue et).run P w=.ok u w/\z0=u.cells))/\VRs m zs (mcells z0 (len*s)).toList:=by
     by_cases h0:len=0
     ·subst h0;simp only[if_true]at hzs;cases hzs
      exact⟨#[],.inl ⟨by simp,rfl⟩,by simp[mcells,VRs]⟩
     ·rw[if_neg h0]at hzs;obtain⟨z,hz,hzs⟩:=obs hzs;split at hzs
      ·rename_i hc
       cases hzs
       obtain⟨u,hu,hr⟩:=run_zero hz w m;have hrc:=hr.cells (fun l e=>by subst e;simp[isTuple]at hc);have hpos:0<len*s:=Nat.mul_pos (by omega) (by omega);refine⟨u.cells,.inr ⟨by omega,u,hu,rfl⟩,?_⟩;have:=mcells_VRs len hrc
       rwa [hc.2.1]at this
      ·cases hzs
    obtain⟨z0,k1,k2⟩:=key;obtain⟨R,hR1,hR2⟩:=ifill_fill _ _ _ _ _ _ hp k2 hcells;have hRl:=hR2.length;simp only[Array.length_toList]at hRl;have hrel:=h.newRow cells R et (0,0) (by omega) (by simp) (cells_rel hR2 hone.1);refine⟨_,_,.slice (some ⟨w.heap.size,0,none⟩) len len,?_,grow_ext h _,hrel,?_⟩
    ·have hrun:(Instr.buildSlice t len parts').run P w=.ok (.slice (some ⟨w.heap.size,0,none⟩) len len) (w.alloc (.cells R et (0,0))):=by
      simp only[Instr.buildSlice,Sem.run_bind,run_underlying hund,Result.andThen_ok,run_size hs];rw[if_neg (by omega)];have hR1':Instr.fill (fun i=>some (i*s,s)) ((Array.range (len*s)).map fun x=>z0[x % z0.size]!) parts'.toList=some R:=hR1;rcases k1 with⟨k0,rfl⟩ | ⟨k0,u,hu,rfl⟩
      ·rw[if_pos k0];simp only[Sem.run_bind,Sem.run_pure,Result.andThen_ok,hR1'];simp[Go.newRow]
      ·rw[if_neg k0];simp only[Sem.run_bind,Sem.run_pure,Result.andThen_ok,hu,hR1'];simp[Go.newRow]
     simp[hrun]
    ·simp only[VR];exact⟨_,0,len,none,grow_at _ _ _,rfl,Nat.le_refl _,Nat.le_refl _,fun _=>rfl,fun _=>⟨rfl,rfl⟩,fun _=>⟨by simp;omega,rfl⟩⟩
   ·cases e
 ·cases e
def imakeSlice (P:Program)(H:Heap)(t:TypeId)(len cap:IV):Option (INext×Heap) :=
 match P.underlying t,len,cap with
 | some (.slice e),.int _ l,.int _ c=>(szOf P e).bind fun s=>(byOf P e).bind fun b=>(zeroOf P e).bind fun z =>
  if isTuple z=false/\z.cells.length=s/\z.cells.all IV.one=true/\0<s/\0<=l/\l<=c/\b*c<=281474976710656/\c<=9223372036854775807 then
   some (.val (.slice H.length 0 l.toNat c.toNat true s),H++[.row (zrep c.toNat z.cells) false])else none
 | _,_,_=>none
theorem wrap_id {c:Int}(h0:0<=c)(h1:c<=9223372036854775807):IntKind.i64.wrap c=c:=by
 unfold IntKind.wrap;have e1:(2 ^ IntKind.i64.bits:Int)=18446744073709551616:=rfl;have e2:(2 ^ (IntKind.i64.bits - 1):Int)=9223372036854775808:=rfl;have hm:c % 18446744073709551616=c:=Int.emod_eq_of_lt h0 (by omega);simp only[e1,e2,hm,IntKind.signed];rw[if_neg (by simp;omega)]
theorem run_imakeSlice (h:Rel B0 w0 m H w){len cap:IV}{vl vc:Value}(hl:VR m len vl)(hc:VR m cap vc){r:INext×Heap}(e:imakeSlice P H t len cap=some r):OkTo P B0 w0 m w (do pure (.value (←Instr.makeSlice t vl vc))) r:=by
 unfold imakeSlice at e;split at e
 ·rename_i et k l k' c hund;obtain⟨s,hs,e⟩:=obs e;obtain⟨b,hb,e⟩:=obs e;obtain⟨z,hz,e⟩:=obs e;split at e
  ·rename_i hcond
   cases e
   obtain⟨c1,c2,c3,c4,c5,c6,c7,c8⟩:=hcond;simp only[VR]at hl hc;subst hl;subst hc;obtain⟨u,hu,hr⟩:=run_zero hz w m;have hrc:=hr.cells (fun l e=>by subst e;simp[isTuple]at c1);have hlen:=hrc.length;simp only[Array.length_toList]at hlen;have hV:=mcells_VRs c.toNat hrc;have hVl:=hV.length;simp only[Array.length_toList]at hVl;obtain⟨i,hi⟩:∃i,P.info? et=some i:=by
    unfold byOf at hb;cases hx:P.info? et with
    | none=>simp[hx]at hb
    | some i=>exact⟨i,rfl⟩
   have hib:i.bytes=b:=by unfold byOf at hb;simpa[hi]using hb
   rw[c2]at hV hVl;have hrel:=h.newRow _ _ et (0,0) (Nat.le_of_eq hVl) (by simp) (cells_rel hV (zrep_all c3 _));refine⟨_,_,.slice (some ⟨w.heap.size,0,none⟩) l.toNat c.toNat,?_,grow_ext h _,hrel,?_⟩
   ·have hrun:(Instr.makeSlice t (.int k l) (.int k' c)).run P w=.ok (.slice (some ⟨w.heap.size,0,none⟩) l.toNat c.toNat) (w.alloc (.cells (mcells u.cells (c.toNat*s)) et (0,0))):=by
     simp only[Instr.makeSlice,Sem.run_bind,run_underlying hund,Result.andThen_ok,asInt,asIntOf,Sem.run_pure,run_info hi,hib];rw[wrap_id c5 (by omega),wrap_id (by omega) c8];have hneg:(((decide (c<0)||decide ((b:Int)*c > 2 ^ 48))||decide (l<0))||decide (l > c))=false:=by
      simp;omega
     simp only[hneg,Bool.false_eq_true,if_false,Sem.run_bind,Sem.run_pure,Result.andThen_ok,run_askRoom,run_size hs];by_cases h0:c.toNat*s=0
     ·have : c.toNat = 0 := by rcases Nat.mul_eq_zero.1 h0 with h | h;· exact h
                               ·omega
      have er:Array.range 0= #[]:=rfl;simp[h0,mcells,Go.newRow,er]
     ·rw[if_neg h0];simp[hu,mcells,Go.newRow]
    simp[hrun]
   ·simp only[VR];refine⟨_,0,c.toNat,none,grow_at _ _ _,rfl,by omega,Nat.le_refl _,fun _=>rfl,fun _=>⟨rfl,rfl⟩,fun _=>⟨?_,rfl⟩⟩;simp[mcells]
  ·cases e
 ·cases e
end Go.Shade
namespace Go.Shade
open Go.RowKit
variable {B0 n : Nat} {H : Heap} {P : Program} {m : Mp} {v : Value} {w w0 : World} {x : IV}
theorem growBy_le (n:Nat):∀(k c:Nat),256<=c->c<n->Builtin.growBy n k c<=2*n
 | 0,c,_,h=>by simp only[Builtin.growBy];omega
 | k+1,c,h0,h=>by
  simp only[Builtin.growBy];rw[if_neg (by omega)];by_cases h1:c+(c+768) / 4<n
  ·exact growBy_le n k _ (by omega) h1
  ·have:Builtin.growBy n k (c+(c+768) / 4)=c+(c+768) / 4:=by
    cases k with
    | zero=>rfl
    | succ k=>simp only[Builtin.growBy];rw[if_pos (by omega)]
   rw[this];omega
theorem nextcap_le {c:Nat}(h:c<n):Builtin.nextslicecap n c<=2*n:=by
 unfold Builtin.nextslicecap;split
 ·omega
 ·split
  ·omega
  ·exact growBy_le n 4 c (by omega) h
def xlen :IV->Option Nat
 | .str s=>some s.length
 | .nilSlice=>some 0
 | .slice _ _ n _ _ _=>some n
 | _=>none
def xcells (P:Program)(H:Heap)(e:TypeId)(x:IV)(n:Nat):Option (List IV) :=
 match x with
 | .str s=>some ((s.take n).map fun b=>.int .u8 b.toNat)
 | x=>isl P H e x n
theorem run_xlen (hx:VR m x v)(h:xlen x=some n)(w:World):(Builtin.lenOf v).run P w=.ok n w:=by
 unfold xlen at h;split at h
 ·cases h;simp only[VR]at hx;subst hx;simp[Builtin.lenOf,size_mk]
 ·cases h;simp only[VR]at hx;subst hx;rfl
 ·cases h;simp only[VR]at hx;obtain⟨l,o1,c,sp,_,rfl,_⟩:=hx;rfl
 ·cases h
theorem run_xcells (hR:Rel B0 w0 m H w){e:TypeId}{s:Nat}{cs:List IV}(hs:szOf P e=some s)(hx:VR m x v)(h:xcells P H e x n=some cs) :
  ∃us:List Value,VRs m cs us/\(Builtin.firstCells s n v).run P w=.ok us.toArray w:=by
 unfold xcells at h;split at h
 ·rename_i l
  cases h;simp only[VR]at hx;subst hx
  refine⟨(l.take n).map fun b=>.int .u8 b.toNat,?_,?_⟩
  ·rw[VRs_iff];refine⟨by simp,fun j y hj=> ?_⟩;rw[List.getElem?_map]at hj ⊢
   cases hb:(List.take n l)[j]? with
   | none=>simp[hb]at hj
   | some b=>simp[hb]at hj;subst hj;exact⟨_,by simp,VR_int m _ _⟩
  ·simp only[Builtin.firstCells,extract_mk,Sem.run_pure];simp
 ·exact run_isl hR h hx hs
theorem VRs_all_cells (hR:Rel B0 w0 m H w){e:TypeId}{cs:List IV}(h:isl P H e x n=some cs):cs.all IV.one=true:=by
 unfold isl at h;split at h
 ·split at h
  ·cases h;rfl
  ·cases h
 ·obtain⟨s,hs,h⟩:=obs h;split at h
  ·split at h
   ·cases h;rfl
   ·unfold irow at h;split at h
    ·rename_i ds ro hb;split at h
     ·cases h
      rw[List.all_eq_true];intro y hy;have hy:=List.mem_of_mem_drop (List.mem_of_mem_take hy);obtain⟨j,hj⟩:=List.mem_iff_getElem?.1 hy;obtain⟨l,_,hc⟩:=hR.row hb;exact(hc j y hj).1
     ·cases h
    ·cases h
  ·cases h
 ·cases h
theorem Rel.kill {B0:Nat}{w0 w:World}{m:Mp}{H:Heap}(h:Rel B0 w0 m H w)(b:Nat):Rel B0 w0 m (H.set b .dead) w:=by
 have key:∀{i:Nat} {o:IObj},(H.set b IObj.dead)[i]? =some o->o≠ .dead->H[i]? =some o:=by
  intro i o hi ho;rw[List.getElem?_set]at hi;split at hi
  ·split at hi
   ·cases hi;exact absurd rfl ho
   ·cases hi
  ·exact hi
 refine⟨h.below,h.base,fun i l hi=>by simpa using h.dom i l hi,fun i o hi=> ?_,fun i j o p l k hi hj ho hp hne hl hk=> ?_⟩
 ·by_cases hd:o=.dead
  ·subst hd;trivial
  ·exact h.good i o (key hi hd)
 ·have h1:o≠ .dead:=fun e=>by subst e;simp[IObj.held]at ho
  have h2:p≠ .dead:=fun e=>by subst e;simp[IObj.held]at hp
  exact h.inj i j o p l k (key hi h1) (key hj h2) ho hp hne hl hk
theorem run_load_drawn (a:Addr)(d:Nat)(h:(load a).run P w=.ok v w):(load a).run P { w with drawn:=d }=.ok v { w with drawn:=d }:=by
 simp only[load,Sem.run]at h ⊢;have e1:({ w with drawn:=d }:World).cell? a=w.cell? a:=rfl;have e2:({ w with drawn:=d }:World).farLoad P a (Mode.plain==Mode.atomic)=w.farLoad P a (Mode.plain==Mode.atomic):=rfl;rw[e1,e2];split at h
 ·cases h;rfl
 ·split at h
  ·cases h;rfl
  ·cases h
theorem run_loads_drawn {P:Program}{w:World}(a:Addr)(d:Nat):∀(n i:Nat) (acc us:Array Value),(loadCellsFrom a i n acc).run P w=.ok us w->(loadCellsFrom a i n acc).run P { w with drawn:=d }=.ok us { w with drawn:=d }
 | 0,i,acc,us,h=>by simp only[loadCellsFrom,Sem.run_pure]at h ⊢;cases h;rfl
 | n+1,i,acc,us,h=>by
  simp only[loadCellsFrom,Sem.run_bind]at h ⊢
  cases hl:(load (a.add i)).run P w with
  | ok v w' =>
   have hw:w'=w:=by
    simp only[load,Sem.run]at hl;split at hl
    ·cases hl;rfl
    ·split at hl
     ·cases hl;rfl
     ·cases hl
   subst hw;rw[hl]at h;rw[run_load_drawn _ d hl];exact run_loads_drawn a d n (i+1) _ us h
  | halt x w'=>rw[hl]at h;cases h
theorem run_first_drawn {s:Nat}{us:Array Value}(h:(Builtin.firstCells s n v).run P w=.ok us w)(d:Nat):(Builtin.firstCells s n v).run P { w with drawn:=d }=.ok us { w with drawn:=d }:=by
 unfold Builtin.firstCells at h ⊢;split at h
 ·exact run_loads_drawn _ d _ _ _ _ h
 ·cases h;rfl
 ·cases h;rfl
 ·cases h
theorem Rel.onward {B0:Nat}{w0 w:World}{m:Mp}{H:Heap}(h:Rel B0 w0 m H w){b:Nat}{cs:List IV}(hb:H[b]? =some (.row cs false)){l:Loc}(hl:m b=some l){o1:Nat}{old new:List IV}{nus:List Value}
  (hold:∀(j:Nat) v,old[j]? =some v->v.one=true/\∃u,w.cell? ⟨l.cb,o1+j,none⟩=some u/\VR m v u) (hn:VRs m new nus) (h1:new.all IV.one=true) (hfit:o1+old.length+new.length<=l.cs) :
  (∀P:Program,(storeCells ⟨l.cb,o1+old.length,none⟩ nus).run P w=.ok () (w.setCells l.cb (o1+old.length) nus)) /\
  Rel B0 w0 (grow m H.length ⟨l.cb,o1,l.cs⟩) (H.set b .dead++[.row (old++new) false]) (w.setCells l.cb (o1+old.length) nus):=by
 have hg:=h.good b _ hb;obtain⟨l',C,e,fr,g1,g2,g3,g4,g5,g6,g7⟩:=hg;rw[hl]at g1;cases g1
 have hlen:=hn.length;have hone:∀v∈nus,v.oneCell'=true:=by
  intro v hv;obtain⟨j,hj⟩:=List.mem_iff_getElem?.1 hv;have hjl:j<new.length:=by rw[hlen];exact(ges hj).1
  obtain⟨u,hu,hr⟩:=hn.get (List.getElem?_eq_getElem hjl);rw[hj]at hu;cases hu
  rw[vone_one];exact hr.one (List.all_eq_true.1 h1 _ (List.getElem_mem hjl))
 refine⟨fun P=> ?_,?_⟩
 ·have:=run_storeCells_cells (P:=P) l.cb (o1+old.length) nus 0 w (fun j hj=>by
   rw[cell_of g2,Array.getElem?_eq_getElem (by omega)];rfl) (fun j hj=>by
   rw[frozen_of g2];exact decide_eq_false (g6 _ (by omega))) hone
  simpa using this
 ·obtain⟨s1,s2,s3,s4,s5⟩:=setCells_same l.cb nus (o1+old.length) w;obtain⟨C',c1,c2,c3⟩:=setCells_block nus (o1+old.length) w C g2 (by omega);have hbl:b<H.length:=(ges hb).1;have hext:=grow_ext h ⟨l.cb,o1,l.cs⟩;have elder:∀{i:Nat} {p:IObj},i≠H.length->(H.set b IObj.dead++[.row (old++new) false])[i]? =some p->p≠ .dead->H[i]? =some p/\i≠b:=by
   intro i p hne hi hd;rw[List.getElem?_append,List.length_set]at hi;split at hi
   ·rw[List.getElem?_set]at hi;split at hi
    ·first
      | (cases hi;exact absurd rfl hd)
      | (split at hi
         ·cases hi;exact absurd rfl hd
         ·cases hi)
    ·rename_i hib;exact⟨hi,Ne.symm hib⟩
   ·rw[List.getElem?_eq_none (by simp;omega)]at hi;cases hi
  have far:∀{i:Nat} {p:IObj} {li:Loc},H[i]? =some p->i≠b->p.held=true->m i=some li->li.cb≠l.cb:=by
   intro i p li hi hib hp hli;exact h.inj i b p _ li l hi hb hp rfl hib hli hl
  refine⟨⟨s1.trans h.below.os,s2.trans h.below.tape,s3.trans h.below.output,by rw[s4];exact h.below.size,fun k hk=> ?_⟩,by rw[s4];exact h.base,fun k q hq=> ?_,fun k q hk=> ?_,fun a c p q la lb ha hc hp hq hne hma hmc=> ?_⟩
  ·rw[setCells_far _ _ _ _ (by omega)];exact h.below.block k hk
  ·simp only[grow]at hq;split at hq
   ·simp;omega
   ·have:=h.dom k q hq;simp;omega
  ·by_cases hd:q=.dead
   ·subst hd;trivial
   ·by_cases ek:k=H.length
    ·subst ek;rw[List.getElem?_append,List.length_set,if_neg (by omega),Nat.sub_self]at hk;simp at hk;subst hk;refine⟨⟨l.cb,o1,l.cs⟩,C',e,fr,grow_at _ _ _,c1,c2.trans g3,by simp;omega,g5,g6,fun j v hj=> ?_⟩;rw[c3];rw[List.getElem?_append]at hj;by_cases e3:j<old.length
     ·rw[if_pos e3]at hj;obtain⟨q1,u,q2,q3⟩:=hold j v hj;rw[cell_of g2]at q2;refine⟨q1,u,?_,q3.ext hext⟩;rw[if_neg (by simp only;omega)];exact q2
     ·rw[if_neg e3]at hj;obtain⟨u,hu,hr⟩:=hn.get hj;have hjl:=(ges hj).1;refine⟨List.all_eq_true.1 h1 _ (List.mem_of_getElem? hj),u,?_,hr.ext hext⟩;rw[if_pos (by simp only;omega)];rw[show o1+j - (o1+old.length)=j - old.length by omega];exact hu
    ·obtain⟨hk',hkb⟩:=elder ek hk hd;have hgk:=h.good k q hk';by_cases hp:q.held=true
     ·exact hgk.move hext (fun lk hlk _=>setCells_far _ _ _ _ (far hk' hkb hp hlk))
     ·cases q with
      | dead=>exact absurd rfl hd
      | map es c=>simp[IObj.held]at hp
      | iter r s e a=>simp[IObj.held]at hp
      | row cs' ro =>
       cases ro with
       | false=>simp[IObj.held]at hp
       | true=>exact hgk.ro_move hext (fun lk hlk hlt _=>setCells_far _ _ _ _ (by omega))
  ·have hpd:p≠ .dead:=fun e=>by subst e;simp[IObj.held]at hp
   have hqd:q≠ .dead:=fun e=>by subst e;simp[IObj.held]at hq
   by_cases ea:a=H.length
   ·subst ea;obtain⟨hc',hcb⟩:=elder (Ne.symm hne) hc hqd;simp only[grow,if_true]at hma;cases hma
    simp only[grow,if_neg (Ne.symm hne)]at hmc;exact(far hc' hcb hq hmc).symm
   ·obtain⟨ha',hab⟩:=elder ea ha hpd;simp only[grow,if_neg ea]at hma;by_cases ec:c=H.length
    ·subst ec;simp only[grow,if_true]at hmc;cases hmc
     exact far ha' hab hp hma
    ·obtain⟨hc',hcb⟩:=elder ec hc hqd;simp only[grow,if_neg ec]at hmc;exact h.inj a c p q la lb ha' hc' hp hq hne hma hmc
def ifresh (P:Program)(e:TypeId)(sz by_:Nat)(H:Heap)(old new:List IV)(k:Nat):Option (INext×Heap) :=
 (zeroOf P e).bind fun z=>if isTuple z=false/\z.cells.length=sz/\k*by_<=140737488355328/\(old++new).length=k*sz then
  some (.val (.slice H.length 0 k k false sz),H++[.row (old++new) false])else none
def iappend (P:Program)(H:Heap)(t xT:TypeId)(s x:IV):Option (INext×Heap) :=
 match P.underlying t,P.underlying xT with
 | some (.slice _),some (.int _)=>none
 | some (.slice e),some _ =>
  (szOf P e).bind fun sz=>(byOf P e).bind fun by_=>(xlen x).bind fun n =>
  if n=0 then(match s with
   | .nilSlice=>some (.val .nilSlice,H)
   | .slice b o len lb ex sz'=>some (.val (.slice b o len lb ex sz'),H)
   | _=>none)
  else(xcells P H e x n).bind fun new =>
   if new.length=n*sz/\new.all IV.one=true/\0<sz/\0<by_ then
    match s with
    | .nilSlice=>ifresh P e sz by_ H [] new n
    | .slice b o len lb ex sz' =>
     if len+n<=lb then
      match H[b]? with
      | some (.row cs false)=>if o+len*sz+new.length<=cs.length then some (.val (.slice b o (len+n) lb ex sz'),H.set b (.row (putAt cs (o+len*sz) new) false))else none
      | _=>none
     else(isl P H e (.slice b o len lb ex sz') len).bind fun old =>
      if ex=true then ifresh P e sz by_ H old new (len+n)
      else match H[b]? with
       | some (.row _ false)=>if sz'=sz then ifresh P e sz by_ (H.set b .dead) old new (len+n)else none
       | _=>none
    | _=>none
   else none
 | _,_=>none
theorem run_fresh {P:Program}{B0:Nat}{w0 w:World}{m:Mp}{H:Heap}(h:Rel B0 w0 m H w){t xT ty e:TypeId}{sz by_ n len c:Nat}{base:Option Addr}{v:Value}{old new:List IV}{ous nus:List Value}{k:Nat}{r:INext×Heap}{ux:TypeDesc}
  (hund:P.underlying t=some (.slice e)) (hux:P.underlying xT=some ux) (hni:∀q,ux≠ .int q) (hsz:szOf P e=some sz) (hby:byOf P e=some by_) (hb0:0<by_) (hlen:(Builtin.lenOf v).run P w=.ok n w)
  (hold:(Builtin.firstCells sz len (.slice base len c)).run P w=.ok ous.toArray w) (ho:VRs m old ous) (hnew:(Builtin.firstCells sz n v).run P w=.ok nus.toArray w) (hn:VRs m new nus)
  (h1o:old.all IV.one=true) (h1n:new.all IV.one=true) (hk:k=len+n) (hc:c<k) (he:ifresh P e sz by_ H old new k=some r) :
  OkTo P B0 w0 m w (do pure (.value (←Builtin.append_ #[t,xT] ty #[.slice base len c,v]))) r:=by
 subst hk;unfold ifresh at he;obtain⟨z,hz,he⟩:=obs he;split at he
 ·rename_i hcond
  cases he
  obtain⟨c1,c2,c3,c4⟩:=hcond;obtain⟨u,hu,hr⟩:=run_zero hz w m;obtain⟨i,hi⟩:∃i,P.info? e=some i:=by
   unfold byOf at hby;cases hx:P.info? e with
   | none=>simp[hx]at hby
   | some i=>exact⟨i,rfl⟩
  have hib:i.bytes=by_:=by unfold byOf at hby;simpa[hi]using hby
  have hrc:=hr.cells (fun l e=>by subst e;simp[isTuple]at c1);have hul:u.cells.size=sz:=by rw[←c2,hrc.length];simp
  let q:=Question.appendCap (len+n) c e
  let cap:=q.cut (w.tape w.drawn q)
  have hcap:len+n<=cap:=Nat.le_add_right _ _
  let w1:World:= { w with drawn:=w.drawn+1 }
  have hR1:Rel B0 w0 m H w1:=h.drew _
  let C:Array Value:=ous.toArray++nus.toArray++Builtin.zeroCells u.cells (cap - (len+n))
  have hzero1:(zeroValue e).run P w1=.ok u w1:=by
   have h0:=hz;unfold zeroOf at h0;obtain⟨zv,g1,g2⟩:=obs h0;obtain⟨i',g3,g4⟩:=obs g1;have e4:∀w,(zeroValue e).run P w=.ok zv w:=fun w=>by simp[zeroValue,run_info g3,g4]
   have e5:=(e4 _).symm.trans hu
   cases e5
   exact e4 _
  have hCs:C.size=old.length+new.length+(cap - (len+n))*sz:=by
   simp[C,Builtin.zeroCells,hul,ho.length,hn.length];omega
  have holdnew:VRs m (old++new) (ous++nus):=ho.append hn;have hrel:=hR1.newRow (old++new) C e (0,0) (by rw[hCs];simp) (by simp) (fun j x hj=>by
   have h1:(old++new).all IV.one=true:=by rw[List.all_append,h1o,h1n];rfl
   obtain⟨y,hy,hxy⟩:=holdnew.get hj;refine⟨List.all_eq_true.1 h1 _ (List.mem_of_getElem? hj),y,?_,hxy⟩;have hlt:=(ges hy).1;simp only[C];rw[Array.getElem?_append,if_pos (by simpa using hlt)]
   simpa using hy)
  refine⟨_,_,.slice (some ⟨w.heap.size,0,none⟩) (len+n) cap,?_,grow_ext h _,hrel,?_⟩
  ·have hrun:(Builtin.append_ #[t,xT] ty #[.slice base len c,v]).run P w=.ok (.slice (some ⟨w.heap.size,0,none⟩) (len+n) cap) (w1.alloc (.cells C e (0,0))):=by
    have hmatch:(match ux with | .int _=>true | _=>false)=false:=by
     cases ux<;>first | rfl | exact absurd rfl (hni _)
    have hold1:=run_first_drawn hold (w.drawn+1);have hnew1:=run_first_drawn hnew (w.drawn+1);have hnc:=nextcap_le hc;have hmul:Builtin.nextslicecap (len+n) c*by_<=2*(len+n)*by_:=Nat.mul_le_mul_right _ hnc;have h247:2*(len+n)*by_<=281474976710656:=by rw[Nat.mul_assoc];omega
    simp only[Builtin.append_];simp only[List.getElem?_toArray,List.getElem?_cons_zero,List.getElem?_cons_succ,Sem.run_bind,run_underlying hund,Result.andThen_ok,run_size hsz,run_underlying hux,Sem.run_pure];simp only[hmatch,Bool.false_eq_true,if_false,Bool.not_false,if_true];rw[Sem.run_bind,hlen,Result.andThen_ok,if_neg (by omega),Sem.run_bind,run_info hi,Result.andThen_ok,hib];have hno:¬(((len+n:Nat):Int) > IntKind.i64.max/\(False∨by_=0)):=by
     rintro⟨_,h | h⟩
     ·cases h
     ·omega
    rw[if_neg hno];rw[Sem.run_bind,run_info hi,Result.andThen_ok,hib,if_neg (by omega)];rw[Sem.run_bind,run_choose];have hforced:(Question.appendCap (len+n) c e).forced=false:=rfl;rw[hforced];simp only[Bool.false_eq_true,if_false,Result.andThen_ok,Sem.run_bind];have e1:(typeInfo e).run P w1=.ok i w1:=run_info hi w1;have e2:({ w with drawn:=w.drawn+1 }:World)=w1:=rfl;rw[e2,e1];simp only[Result.andThen_ok,run_askRoom];have hold2:(Builtin.firstCells sz len (.slice base len c)).run P w1=.ok ous.toArray w1:=hold1;have hnew2:(Builtin.firstCells sz n v).run P w1=.ok nus.toArray w1:=hnew1;simp only[hold2,hnew2,hzero1,Result.andThen_ok];rfl
   simp[hrun]
  ·simp only[VR];refine⟨_,0,cap,none,grow_at _ _ _,rfl,Nat.le_refl _,hcap,(fun h=>by cases h),fun _=>⟨rfl,rfl⟩,fun _=>⟨?_,rfl⟩⟩;simp only[hCs];have e1:(len+n)*sz+(cap - (len+n))*sz=cap*sz:=by rw[←Nat.add_mul];congr 1;omega
   simp only[List.length_append]at c4;omega
 ·cases he
theorem xcells_nil {H:Heap}(hx:VR m x v)(h:xlen x=some 0)(s:Nat)(w:World):(Builtin.firstCells s 0 v).run P w=.ok #[] w:=by
 unfold xlen at h;split at h
 ·cases h':(‹List UInt8›)with
  | nil=>subst h';simp only[VR]at hx;subst hx;simp[Builtin.firstCells]
  | cons a l=>subst h';simp at h
 ·simp only[VR]at hx;subst hx;rfl
 ·cases h;simp only[VR]at hx;obtain⟨l,o1,c,sp,_,rfl,_⟩:=hx;simp[Builtin.firstCells,loadCells,loadCellsFrom]
 ·cases h
theorem run_append_pre {P:Program}{t xT ty e:TypeId}{sz n len c:Nat}{base:Option Addr}{v:Value}{ux:TypeDesc}{w:World}{nus:Array Value}
  (hund:P.underlying t=some (.slice e)) (hux:P.underlying xT=some ux) (hni:∀q,ux≠ .int q) (hsz:szOf P e=some sz) (hlen:(Builtin.lenOf v).run P w=.ok n w)
  (hnew:(Builtin.firstCells sz n v).run P w=.ok nus w) (hc:len+n<=c) :
  (Builtin.append_ #[t,xT] ty #[.slice base len c,v]).run P w=((match base with | some a=>storeCells (a.add (len*sz)) nus.toList | none=>pure ():Sem Unit).run P w).andThen fun _ w'=>.ok (.slice base (len+n) c) w':=by
 have hmatch:(match ux with | .int _=>true | _=>false)=false:=by
  cases ux<;>first | rfl | exact absurd rfl (hni _)
 simp only[Builtin.append_];simp only[List.getElem?_toArray,List.getElem?_cons_zero,List.getElem?_cons_succ,Sem.run_bind,run_underlying hund,Result.andThen_ok,run_size hsz,run_underlying hux,Sem.run_pure];simp only[hmatch,Bool.false_eq_true,if_false,Bool.not_false,if_true];rw[Sem.run_bind,hlen,Result.andThen_ok,if_pos hc,Sem.run_bind,hnew,Result.andThen_ok]
 cases base with
 | none=>rfl
 | some a=>rw[Sem.run_bind];rfl
theorem run_iappend (h:Rel B0 w0 m H w){t xT ty:TypeId}{s:IV}{vs vx:Value}(hs:VR m s vs)(hx:VR m x vx){r:INext×Heap}(e:iappend P H t xT s x=some r):OkTo P B0 w0 m w (do pure (.value (←Builtin.append_ #[t,xT] ty #[vs,vx]))) r:=by
 unfold iappend at e;split at e
 ·cases e
 ·rename_i et ux hni hund hux;have hni':∀q,ux≠ .int q:=fun q hq=>hni q hq
  replace e:=obs e
  obtain⟨sz,hsz,e⟩:=e
  replace e:=obs e
  obtain⟨by_,hby,e⟩:=e
  replace e:=obs e
  obtain⟨n,hn,e⟩:=e;have hlen:=run_xlen (P:=P) hx hn w;split at e
  ·
   rename_i hn0;subst hn0;have hnew:=xcells_nil (P:=P) (H:=H) hx hn sz w;split at e
   ·cases e
    simp only[VR]at hs;subst hs;refine⟨m,w,.slice none 0 0,?_,Ext.refl m,h,by simp only[VR]⟩;rw[vv];rw[run_append_pre hund hux hni' hsz hlen hnew (Nat.le_refl _)];rfl
   ·cases e
    have hs':=hs;simp only[VR]at hs;obtain⟨l,o1,c,sp,hl,rfl,h1,h2,_⟩:=hs;refine⟨m,w,_,?_,Ext.refl m,h,hs'⟩;rw[vv];rw[run_append_pre hund hux hni' hsz hlen hnew (by omega)];simp[storeCells]
   ·cases e
  ·rename_i hn0
   replace e:=obs e
   obtain⟨new,hnew,e⟩:=e;obtain⟨nus,hnV,hnrun⟩:=run_xcells (P:=P) h hsz hx hnew;split at e
   ·rename_i hcond;obtain⟨c1,c2,c3,c4⟩:=hcond;split at e
    ·
     simp only[VR]at hs;subst hs;exact run_fresh (ty:=ty) (base:=none) (len:=0) (c:=0) (ous:=[]) h hund hux hni' hsz hby c4 hlen (by simp[Builtin.firstCells]) (VRs.nil m) hnrun hnV rfl c2 (by omega) (by omega) e
    ·rename_i b o len lb ex sz';have hs':=hs;simp only[VR]at hs;obtain⟨l,o1,c,sp,hl,rfl,h1,h2,h3,h4,h5⟩:=hs;split at e
     ·
      rename_i hroom;split at e
      ·rename_i cs hb;split at e
       ·rename_i hfit
        cases e
        obtain⟨ho1,hsp⟩:=h4 (by omega);subst ho1;subst hsp;obtain⟨g1,g2⟩:=h.put hb hl hnV c2 hfit;refine⟨m,_,.slice (some ⟨l.cb,l.co+o,none⟩) (len+n) c,?_,Ext.refl m,g2,?_⟩
        ·rw[vv];rw[run_append_pre hund hux hni' hsz hlen hnrun (by omega)];simp only[add_none];have:=g1 P;rw[←Nat.add_assoc]at this;simp only[List.toList_toArray,this,Result.andThen_ok];rw[Nat.add_assoc]
        ·simp only[VR];exact⟨l,l.co+o,c,none,hl,rfl,hroom,h2,h3,fun _=>⟨rfl,rfl⟩,h5⟩
       ·cases e
      ·cases e
     ·rename_i hroom
      replace e:=obs e
      obtain⟨old,hold,e⟩:=e;obtain⟨ous,hoV,horun⟩:=run_isl (P:=P) h hold hs' hsz;have hoall:=VRs_all_cells h hold;split at e
      ·
       rename_i hex;have hcl:=h3 hex;exact run_fresh (ty:=ty) h hund hux hni' hsz hby c4 hlen horun hoV hnrun hnV hoall c2 rfl (by omega) e
      ·split at e
       ·rename_i cs hb;split at e
        ·rename_i hss;subst hss;by_cases hc:len+n<=c
         ·
          unfold ifresh at e
          replace e:=obs e
          obtain⟨z,hz,e⟩:=e;split at e
          ·rename_i hfr
           cases e
           obtain⟨_,_,_,f4⟩:=hfr;have hol:old.length=len*sz':=by
            simp only[List.length_append,Nat.add_mul]at f4;omega
           have hcells:∀(j:Nat) v,old[j]? =some v->v.one=true/\∃u,w.cell? ⟨l.cb,o1+j,none⟩=some u/\VR m v u:=by
            intro j v hj;have hjl:=(ges hj).1;have hlen0:0<len:=by
             rcases Nat.eq_zero_or_pos len with h0 | h0
             ·rw[h0,Nat.zero_mul]at hol;omega
             ·exact h0
            obtain⟨ho1,hsp⟩:=h4 (by omega);refine⟨List.all_eq_true.1 hoall _ (List.mem_of_getElem? hj),?_⟩;unfold isl at hold;simp only[hsz,Option.bind_some]at hold;rw[if_pos (Nat.le_refl _),if_neg (by omega)]at hold;unfold irow at hold;rw[hb]at hold;simp only at hold;split at hold
            ·cases hold
             rw[List.getElem?_take]at hj;split at hj
             ·rw[List.getElem?_drop]at hj;obtain⟨l2,hl2,hc2⟩:=h.row hb;rw[hl]at hl2;cases hl2
              obtain⟨_,u,hu,hr⟩:=hc2 _ v hj;refine⟨u,?_,hr⟩;rw[ho1,Nat.add_assoc];exact hu
             ·cases hj
            ·cases hold
           have hsum:(len+n)*sz'<=c*sz':=Nat.mul_le_mul_right _ hc;obtain⟨hcs,hsp⟩:=h5 c3;subst hsp;obtain⟨g1,g2⟩:=h.onward hb hl (o1:=o1) (old:=old) hcells hnV c2 (by simp only[List.length_append]at f4;omega);refine⟨_,_,.slice (some ⟨l.cb,o1,none⟩) (len+n) c,?_,grow_ext h _,by simpa using g2,?_⟩
           ·rw[vv];rw[run_append_pre hund hux hni' hsz hlen hnrun hc];simp only[add_none,List.toList_toArray];rw[←hol,g1 P];rfl
           ·simp only[VR,List.length_set];exact⟨_,o1,c,none,grow_at _ _ _,rfl,Nat.le_refl _,hc,(fun h=>by cases h),fun _=>⟨rfl,rfl⟩,fun _=>⟨hcs,rfl⟩⟩
          ·cases e
         ·exact run_fresh (ty:=ty) (h.kill b) hund hux hni' hsz hby c4 hlen horun hoV hnrun hnV hoall c2 rfl (by omega) e
        ·cases e
       ·cases e
    ·cases e
   ·cases e
 ·cases e
end Go.Shade
namespace Go.Shade
open Go.RowKit
variable {B0 : Nat} {H : Heap} {P : Program} {d x : IV} {m : Mp} {t ty : TypeId} {vd : Value} {w w0 : World}
theorem Rel.putX {B0:Nat}{w0 w:World}{m:Mp}{H:Heap}(h:Rel B0 w0 m H w){i:Nat}{cs:List IV}(hi:H[i]? =some (.row cs false)){l:Loc}(hl:m i=some l){o:Nat}{xs:List IV}{vs:List Value}
  (hx:VRs m xs vs) (h1:xs.all IV.one=true) (ho:o<=cs.length) (hb:l.co+(o+xs.length)<=l.cs) :
  (∀(P:Program),(storeCells ⟨l.cb,l.co+o,none⟩ vs).run P w=.ok () (w.setCells l.cb (l.co+o) vs)) /\
  Rel B0 w0 m (H.set i (.row (cs.take o++xs) false)) (w.setCells l.cb (l.co+o) vs):=by
 have hg:=h.good i _ hi;obtain⟨l',C,e,fr,g1,g2,g3,g4,g5,g6,g7⟩:=hg;rw[hl]at g1;cases g1
 have hlen:=hx.length;have hone:∀v∈vs,v.oneCell'=true:=by
  intro v hv;obtain⟨j,hj⟩:=List.mem_iff_getElem?.1 hv;have hjl:j<xs.length:=by rw[hlen];exact(ges hj).1
  obtain⟨u,hu,hr⟩:=hx.get (List.getElem?_eq_getElem hjl);rw[hj]at hu;cases hu
  rw[vone_one];exact hr.one (List.all_eq_true.1 h1 _ (List.getElem_mem hjl))
 refine⟨fun P=> ?_,?_⟩
 ·have:=run_storeCells_cells (P:=P) l.cb (l.co+o) vs 0 w (fun j hj=>by
   rw[cell_of g2,Array.getElem?_eq_getElem (by omega)];rfl) (fun j hj=>by
   rw[frozen_of g2];exact decide_eq_false (g6 _ (by omega))) hone
  simpa using this
 ·obtain⟨s1,s2,s3,s4,s5⟩:=setCells_same l.cb vs (l.co+o) w;obtain⟨C',c1,c2,c3⟩:=setCells_block vs (l.co+o) w C g2 (by omega);refine⟨⟨s1.trans h.below.os,s2.trans h.below.tape,s3.trans h.below.output,by rw[s4];exact h.below.size,fun k hk=> ?_⟩,by rw[s4];exact h.base,fun k q hq=>by simpa using h.dom k q hq,fun k q hk=> ?_,fun a b p q la lb ha hb hp hq hne hma hmb=> ?_⟩
  ·rw[setCells_far _ _ _ _ (by omega)];exact h.below.block k hk
  ·rw[List.getElem?_set]at hk;by_cases e:i=k
   ·subst e;have hlt:i<H.length:=(ges hi).1;simp[hlt]at hk;subst hk;have htl:(cs.take o).length=o:=by rw[List.length_take];omega
    refine⟨l,C',e,fr,hl,c1,c2.trans g3,by rw[List.length_append,htl];exact hb,g5,g6,fun j v hj=> ?_⟩;rw[List.getElem?_append,htl]at hj;rw[c3];by_cases e3:j<o
    ·rw[if_pos e3,List.getElem?_take,if_pos e3]at hj;rw[if_neg (by omega)];exact g7 j v hj
    ·rw[if_neg e3]at hj;have hjl:=(ges hj).1;rw[if_pos (by omega)];obtain⟨u,hu,hr⟩:=hx.get hj;refine⟨List.all_eq_true.1 h1 _ (List.mem_of_getElem? hj),u,?_,hr⟩;rw[show l.co+j - (l.co+o)=j - o by omega];exact hu
   ·rw[if_neg e]at hk;have hgk:=h.good k q hk;by_cases hd:q.held=true
    ·refine hgk.move (Ext.refl _) (fun lk hlk _=>setCells_far _ _ _ _ ?_);exact h.inj k i q _ lk l hk hi hd rfl (Ne.symm e) hlk hl
    ·cases q with
     | dead=>trivial
     | map es c=>simp[IObj.held]at hd
     | iter r s e a=>simp[IObj.held]at hd
     | row cs' ro =>
      cases ro with
      | false=>simp[IObj.held]at hd
      | true =>
       refine hgk.ro_move (Ext.refl _) (fun lk hlk hlt _=>setCells_far _ _ _ _ ?_);omega
  ·have held_of:∀{a:Nat} {p:IObj},(H.set i (IObj.row (cs.take o++xs) false))[a]? =some p->∃p',H[a]? =some p'/\(p.held=true->p'.held=true):=by
    intro a p ha;rw[List.getElem?_set]at ha;by_cases e:i=a
    ·subst e;exact⟨_,hi,fun _=>rfl⟩
    ·rw[if_neg e]at ha;exact⟨p,ha,id⟩
   obtain⟨p',ha',hp'⟩:=held_of ha;obtain⟨q',hb',hq'⟩:=held_of hb;exact h.inj a b p' q' la lb ha' hb' (hp' hp) (hq' hq) hne hma hmb
def cpyRow (cs:List IV)(o lb sz sz':Nat)(new:List IV):Option (List IV) :=
 if o+new.length<=cs.length then some (putAt cs o new)
 else if o<=cs.length/\sz'=sz/\0<sz/\new.length<=lb*sz then some (cs.take o++new)else none
def icopy (P:Program)(H:Heap)(t:TypeId)(d x:IV):Option (INext×Heap) :=
 match P.underlying t with
 | some (.slice e)=>(szOf P e).bind fun sz=>(xlen x).bind fun nx=>(xlen d).bind fun nd =>
  match d with
  | .str _=>none
  | .nilSlice=>some (.val (.int .i64 0),H)
  | .slice b o _ lb _ sz' =>
   if min nx nd=0 then some (.val (.int .i64 0),H)else
   (xcells P H e x (min nx nd)).bind fun new =>
   match H[b]? with
   | some (.row cs false)=>if new.all IV.one=true/\0<lb then(cpyRow cs o lb sz sz' new).bind fun cs'=>some (.val (.int .i64 (min nx nd:Nat)),H.set b (.row cs' false))else none
   | _=>none
  | _=>none
 | _=>none
theorem xcells_zero {v:Value}{n:Nat}(hx:VR m x v)(h:xlen x=some n)(s:Nat)(w:World):(Builtin.firstCells s 0 v).run P w=.ok #[] w:=by
 unfold xlen at h;split at h
 ·simp only[VR]at hx;subst hx;simp[Builtin.firstCells,extract_mk]
 ·simp only[VR]at hx;subst hx;rfl
 ·simp only[VR]at hx;obtain⟨l,o1,c,sp,_,rfl,_⟩:=hx;simp[Builtin.firstCells,loadCells,loadCellsFrom]
 ·cases h
theorem run_icopy (h:Rel B0 w0 m H w){xT:TypeId}{vx:Value}(hd:VR m d vd)(hx:VR m x vx){r:INext×Heap}(e:icopy P H t d x=some r):OkTo P B0 w0 m w (do pure (.value (←Builtin.copy_ #[t,xT] ty #[vd,vx]))) r:=by
 unfold icopy at e;split at e
 ·rename_i et hund
  replace e:=obs e
  obtain⟨sz,hsz,e⟩:=e
  replace e:=obs e
  obtain⟨nx,hnx,e⟩:=e
  replace e:=obs e
  obtain⟨nd,hnd,e⟩:=e;have hlen:=run_xlen (P:=P) hx hnx w;have pre:∀(base:Option Addr) (c:Nat) (us:Array Value),(Builtin.firstCells sz (min nx nd) vx).run P w=.ok us w ->
    (Builtin.copy_ #[t,xT] ty #[.slice base nd c,vx]).run P w=((match base with | some a=>storeCells a us.toList | none=>pure ():Sem Unit).run P w).andThen fun _ w'=>.ok (goInt ((min nx nd:Nat):Int)) w':=by
   intro base c us hus;simp only[Builtin.copy_];simp only[List.getElem?_toArray,List.getElem?_cons_zero,List.getElem?_cons_succ,Sem.run_bind,run_underlying hund,Result.andThen_ok,hlen,run_size hsz];have:(Builtin.firstCells sz (Nat.min nx nd) vx).run P w=.ok us w:=hus;rw[this]
   cases base with
   | none=>rfl
   | some a=>simp only[Result.andThen_ok,Sem.run_bind];rfl
  split at e
  ·cases e
  ·cases e
   simp only[xlen]at hnd;cases hnd
   simp only[VR]at hd;subst hd;have hz:=xcells_zero (P:=P) hx hnx sz w;refine⟨m,w,.int .i64 0,?_,Ext.refl m,h,VR_int m _ _⟩;rw[vv];rw[pre none 0 #[] (by simpa using hz)];simp[goInt]
  ·rename_i b o len lb ex sz';simp only[xlen]at hnd;cases hnd
   simp only[VR]at hd;obtain⟨l,o1,c,sp,hl,rfl,h1,h2,h3,h4,h5⟩:=hd;split at e
   ·rename_i h0
    cases e
    have hz:=xcells_zero (P:=P) hx hnx sz w;refine⟨m,w,.int .i64 0,?_,Ext.refl m,h,VR_int m _ _⟩;rw[vv];rw[pre _ c #[] (by rw[h0];exact hz),h0];simp[goInt,storeCells]
   ·replace e:=obs e
    obtain⟨new,hnew,e⟩:=e;obtain⟨nus,hnV,hnrun⟩:=run_xcells (P:=P) h hsz hx hnew;split at e
    ·rename_i cs hb;split at e
     ·rename_i hc
      replace e:=obs e
      obtain⟨cs',hcs',e⟩:=e
      cases e
      obtain⟨c1,c3⟩:=hc;obtain⟨ho1,hsp⟩:=h4 c3;subst ho1;subst hsp;obtain⟨g1,g2⟩:(∀(P:Program),(storeCells ⟨l.cb,l.co+o,none⟩ nus).run P w=.ok () (w.setCells l.cb (l.co+o) nus))/\Rel B0 w0 m (H.set b (.row cs' false)) (w.setCells l.cb (l.co+o) nus):=by
       unfold cpyRow at hcs';split at hcs'
       ·rename_i c2
        cases hcs'
        exact h.put hb hl hnV c1 c2
       ·split at hcs'
        ·rename_i c2
         cases hcs'
         obtain⟨q1,q2,q3,q4⟩:=c2;subst q2;have hle:lb*sz'<=c*sz':=Nat.mul_le_mul_right _ h2;have:=(h5 q3).1;exact h.putX hb hl hnV c1 q1 (by omega)
        ·cases hcs'
      refine⟨m,_,.int .i64 (min nx nd:Nat),?_,Ext.refl m,g2,VR_int m _ _⟩;rw[vv];rw[pre _ c nus.toArray hnrun];simp only[List.toList_toArray,g1 P,Result.andThen_ok];rfl
     ·cases e
    ·cases e
  ·cases e
 ·cases e
def iclear (P:Program)(H:Heap)(t:TypeId)(d:IV):Option (INext×Heap) :=
 match P.underlying t,d with
 | some _,.nilMap=>some (.val (.tuple []),H)
 | some _,.nilSlice=>some (.val (.tuple []),H)
 | some _,.map r=>match H[r]? with
  | some (.map _ clock)=>some (.val (.tuple []),H.set r (.map [] clock))
  | _=>none
 | some (.slice e),.slice b o n lb _ _ =>
  if n=0 then some (.val (.tuple []),H)else
  (zeroOf P e).bind fun z=>match H[b]? with
  | some (.row cs false)=>if isTuple z=false/\z.cells.all IV.one=true/\o+(zrep n z.cells).length<=cs.length then some (.val (.tuple []),H.set b (.row (putAt cs o (zrep n z.cells)) false))else none
  | _=>none
 | _,_=>none
theorem run_getMap {b clock:Nat}{es:Array MapEntry}(hb:w.heap[b]? =some (.map es clock)):(getObj b).run P w=.ok (.map es clock) w:=by
 simp[getObj,Sem.run,hb]
theorem run_setMap {b clock:Nat}{es:Array MapEntry}(hb:w.heap[b]? =some (.map es clock))(o:Obj):(setObj b o).run P w=.ok () { w with heap:=w.heap.setIfInBounds b o }:=by
 simp[setObj,Sem.run,hb]
theorem Rel.putMap {B0:Nat}{w0 w:World}{m:Mp}{H:Heap}(h:Rel B0 w0 m H w){r:Nat}{es:List (IV×IV×Nat)}{clock:Nat}(hr:H[r]? =some (.map es clock)){l:Loc}(hl:m r=some l)
  (es2:List (IV×IV×Nat)) (es2':Array MapEntry) (clock2:Nat) (hlen:es2.length=es2'.size) (hrel:∀(j:Nat) x,es2[j]? =some x->∃e,es2'[j]? =some e/\ERel m x e) :
  Rel B0 w0 m (H.set r (.map es2 clock2)) { w with heap:=w.heap.setIfInBounds l.cb (.map es2' clock2) }:=by
 obtain⟨l',es',g1,g2,g3,g4,g5⟩:=h.good r _ hr;rw[hl]at g1;cases g1
 have hlt:l.cb<w.heap.size:=(Array.getElem?_eq_some_iff.1 g2).1;have far:∀k,k≠l.cb->({ w with heap:=w.heap.setIfInBounds l.cb (.map es2' clock2) }:World).heap[k]? =w.heap[k]? :=by
  intro k hk;simp[Array.getElem?_setIfInBounds,Ne.symm hk]
 have held_of:∀{a:Nat} {p:IObj},(H.set r (IObj.map es2 clock2))[a]? =some p->∃p',H[a]? =some p'/\(p.held=true->p'.held=true):=by
  intro a p ha;rw[List.getElem?_set]at ha;by_cases e:r=a
  ·subst e;exact⟨_,hr,fun _=>rfl⟩
  ·rw[if_neg e]at ha;exact⟨p,ha,id⟩
 refine⟨⟨h.below.os,h.below.tape,h.below.output,by simpa using h.below.size,fun k hk=> ?_⟩,by simpa using h.base,fun k q hq=>by simpa using h.dom k q hq,fun k q hk=> ?_,fun a b p q la lb ha hb hp hq hne hma hmb=> ?_⟩
 ·rw[far k (by omega)];exact h.below.block k hk
 ·rw[List.getElem?_set]at hk;by_cases e:r=k
  ·subst e;have hrl:r<H.length:=(ges hr).1;simp[hrl]at hk;subst hk;exact⟨l,es2',hl,by simp[hlt],g3,hlen,hrel⟩
  ·rw[if_neg e]at hk;have hgk:=h.good k q hk;by_cases hd:q.held=true
   ·exact hgk.move (Ext.refl _) (fun lk hlk _=>far _ (h.inj k r q _ lk l hk hr hd rfl (Ne.symm e) hlk hl))
   ·cases q with
    | dead=>trivial
    | map es c=>simp[IObj.held]at hd
    | iter r s e a=>simp[IObj.held]at hd
    | row cs' ro =>
     cases ro with
     | false=>simp[IObj.held]at hd
     | true =>
      exact hgk.ro_move (Ext.refl _) (fun lk hlk hlt' _=>far _ (by omega))
 ·obtain⟨p',ha',hp'⟩:=held_of ha;obtain⟨q',hb',hq'⟩:=held_of hb;exact h.inj a b p' q' la lb ha' hb' (hp' hp) (hq' hq) hne hma hmb
theorem zeroCells_mcells (zs:Array Value)(n:Nat):Builtin.zeroCells zs n=mcells zs (n*zs.size):=rfl
theorem VR_unit (m:Mp):VR m (.tuple []) (.tuple #[]):=by simp only[VR];exact⟨_,rfl,VRs.nil m⟩
theorem run_iclear (h:Rel B0 w0 m H w){ts:Array TypeId}(ht:ts[0]? =some t)(hd:VR m d vd){r:INext×Heap}(e:iclear P H t d=some r):OkTo P B0 w0 m w (do pure (.value (←Builtin.clear_ ts ty #[vd]))) r:=by
 unfold iclear at e;split at e
 ·rename_i q hund
  cases e
  simp only[VR]at hd;subst hd;refine⟨m,w,.tuple #[],?_,Ext.refl m,h,VR_unit m⟩;rw[vv];simp[Builtin.clear_,ht,run_underlying hund]
 ·rename_i q hund
  cases e
  simp only[VR]at hd;subst hd;refine⟨m,w,.tuple #[],?_,Ext.refl m,h,VR_unit m⟩;rw[vv];simp[Builtin.clear_,ht,run_underlying hund]
 ·rename_i q r' hund;split at e
  ·rename_i es clock hr
   cases e
   simp only[VR]at hd;obtain⟨l,hl,rfl⟩:=hd;obtain⟨l',es',g1,g2,g3,g4,g5⟩:=h.good r' _ hr;rw[hl]at g1;cases g1
   refine⟨m,_,.tuple #[],?_,Ext.refl m,h.putMap hr hl [] #[] clock rfl (by simp),VR_unit m⟩;rw[vv];simp[Builtin.clear_,ht,run_underlying hund,run_getMap g2,run_setMap g2]
  ·cases e
 ·rename_i et b o n lb ex sz hund;simp only[VR]at hd;obtain⟨l,o1,c,sp,hl,rfl,h1,h2,h3,h4,h5⟩:=hd;split at e
  ·rename_i h0
   cases e;subst h0
   refine⟨m,w,.tuple #[],?_,Ext.refl m,h,VR_unit m⟩;rw[vv];simp[Builtin.clear_,ht,run_underlying hund]
  ·rename_i h0
   replace e:=obs e
   obtain⟨z,hz,e⟩:=e;split at e
   ·rename_i cs hb;split at e
    ·rename_i hc
     cases e
     obtain⟨c1,c2,c3⟩:=hc;obtain⟨ho1,hsp⟩:=h4 (by omega);subst ho1;subst hsp;obtain⟨u,hu,hr⟩:=run_zero hz w m;have hrc:=hr.cells (fun l e=>by subst e;simp[isTuple]at c1);have hV:=mcells_VRs n hrc;obtain⟨g1,g2⟩:=h.put hb hl hV (zrep_all c2 n) c3;refine⟨m,_,.tuple #[],?_,Ext.refl m,g2,VR_unit m⟩;rw[vv];have hul:u.cells.size=z.cells.length:=by rw[hrc.length];simp
     have g1':=g1 P;have hne:n=(n - 1)+1:=by omega
     rw[hne];simp only[Builtin.clear_];simp only[List.getElem?_toArray,List.getElem?_cons_zero,ht,Sem.run_bind,run_underlying hund,Result.andThen_ok,hu,zeroCells_mcells,hul];rw[←hne];simp only[g1',Result.andThen_ok,Sem.run_pure]
    ·cases e
   ·cases e
 ·cases e
theorem find_same {k:IV}{u v:Value}(h:cellEq x k=some true)(hu:VR m x u)(hv:VR m k v)(n:Nat):Instr.sameBits (n+1) v u=true:=by
 unfold cellEq at h;split at h
 ·rename_i k1 a k2 b;split at h
  ·rename_i e;simp only[VR]at hu hv;subst hu;subst hv;subst e;simp at h;subst h;simp[Instr.sameBits]
  ·cases h
 ·rename_i a b;simp only[VR]at hu hv;subst hu;subst hv;simp at h;subst h;simp[Instr.sameBits]
 ·rename_i a b;simp only[VR]at hu hv;subst hu;subst hv;simp at h;subst h;simp[Instr.sameBits,mk_beq]
 ·cases h
def iupdate (P:Program)(H:Heap)(t:TypeId)(d key x:IV):Option Heap :=
 match P.underlying t,d with
 | some (.map kt _),.map r=>match H[r]? with
  | some (.map es clock)=>if scalarT P kt key then(ifind key es 0).bind fun f=>match f with
    | some (i,_)=>some (H.set r (.map (es.set i (key,x,((es[i]?).map (·.2.2)).getD 0)) clock))
    | none=>some (H.set r (.map (es++[(key,x,clock)]) (clock+1)))
   else none
  | _=>none
 | _,_=>none
theorem run_iupdate {H':Heap}(h:Rel B0 w0 m H w){key:IV}{vk vx:Value}(hd:VR m d vd)(hk:VR m key vk)(hx:VR m x vx)(e:iupdate P H t d key x=some H'):∃w',(Instr.mapUpdate t vd vk vx).run P w=.ok () w'/\Rel B0 w0 m H' w':=by
 unfold iupdate at e;split at e
 ·rename_i kt et r hund;split at e
  ·rename_i es clock hr;split at e
   ·rename_i hs
    replace e:=obs e
    obtain⟨f,hf,e⟩:=e;simp only[VR]at hd;obtain⟨l,hl,rfl⟩:=hd;obtain⟨l',es',g1,g2,g3,g4,g5⟩:=h.good r _ hr;rw[hl]at g1;cases g1
    obtain⟨dk,hdk⟩:∃d,P.underlying kt=some d:=by
     unfold scalarT at hs
     cases hu:P.underlying kt with
     | none=>simp[hu]at hs
     | some d=>exact⟨d,rfl⟩
    have hck:=fun b=>run_checkKey (P:=P) hs hk b 9999 w;have hfn:=findNow_ifind (P:=P) hdk hs hk es es'.toList 0 f (by simpa using g4) (fun j y hy=>by obtain⟨e,he,hr⟩:=g5 j y hy;exact⟨e,by simpa using he,hr⟩) hf;rcases hfn with⟨rfl,hfn⟩ | ⟨j,q,z,rfl,hfn,hz,_,k',b',e',h5,h6,h7,h8⟩
    ·simp only at e;cases e
     refine⟨_,?_,h.putMap hr hl (es++[(key,x,clock)]) (es'.push { key:=vk,val:=vx,born:=clock }) (clock+1) (by simp[g4]) (fun j y hy=> ?_)⟩
     ·simp only[Instr.mapUpdate,Sem.run_bind,run_underlying hund,Result.andThen_ok,run_getMap g2,hck,Instr.findKey,run_underlying hdk,hfn,Sem.run_pure];exact run_setMap g2 _
     ·rw[List.getElem?_append]at hy;split at hy
      ·rename_i hlt;obtain⟨e,he,hr⟩:=g5 j y hy;exact⟨e,by rw[Array.getElem?_push,if_neg (by omega)];exact he,hr⟩
      ·rename_i hge;have hj:j=es.length:=by
        have:=(ges hy).1;simp at this;omega
       subst hj;simp at hy;subst hy;exact⟨_,by rw[Array.getElem?_push,if_pos g4],hk,hx,rfl⟩
    ·simp only at e;cases e
     simp only[Nat.sub_zero]at h5 h7;have hje:es'[j]? =some e':=by simpa using h7
     obtain⟨e1,he1,hr1,hr2,hr3⟩:=g5 j _ h5;rw[hje]at he1;cases he1
     have hjl:j<es.length:=(ges h5).1;refine⟨_,?_,h.putMap hr hl _ (es'.modify j fun e=> { e with key:=vk,val:=vx }) clock (by simp[g4]) (fun i y hy=> ?_)⟩
     ·simp only[Instr.mapUpdate,Sem.run_bind,run_underlying hund,Result.andThen_ok,run_getMap g2,hck,Instr.findKey,run_underlying hdk,hfn,Sem.run_pure,Instr.keyThatStays,hje,Option.map_some,Option.getD_some];rw[find_same h6 hk hr1 9999];simp only[if_true,Sem.run_pure,Result.andThen_ok];exact run_setMap g2 _
     ·rw[List.getElem?_set]at hy;by_cases ei:j=i
      ·subst ei;rw[if_pos rfl,if_pos hjl]at hy;simp only[Option.some.injEq]at hy;subst hy;refine⟨{ e' with key:=vk,val:=vx },by simp[Array.getElem?_modify,hje],hk,hx,?_⟩;simp[h5,hr3]
      ·rw[if_neg ei]at hy;obtain⟨e,he,hr⟩:=g5 i y hy;exact⟨e,by simp[Array.getElem?_modify,ei,he],hr⟩
   ·cases e
  ·cases e
 ·cases e
def idelete (P:Program)(H:Heap)(t:TypeId)(d key:IV):Option Heap :=
 match P.underlying t,d with
 | some (.map kt _),.nilMap=>if scalarT P kt key then some H else none
 | some (.map kt _),.map r=>match H[r]? with
  | some (.map es clock)=>if scalarT P kt key then(ifind key es 0).bind fun f=>match f with
    | some (i,_)=>some (H.set r (.map (es.eraseIdx i) clock))
    | none=>some (H.set r (.map es clock))
   else none
  | _=>none
 | _,_=>none
theorem run_idelete {H':Heap}(h:Rel B0 w0 m H w){ts:Array TypeId}{key:IV}{vk:Value}(ht:ts[0]? =some t)(hd:VR m d vd)(hk:VR m key vk)(e:idelete P H t d key=some H'):∃w',(Builtin.delete_ ts ty #[vd,vk]).run P w=.ok (.tuple #[]) w'/\Rel B0 w0 m H' w':=by
 unfold idelete at e;split at e
 ·rename_i kt et hund;split at e
  ·rename_i hs
   cases e
   simp only[VR]at hd;subst hd;have hck:=fun b=>run_checkKey (P:=P) hs hk b 9999 w;exact⟨w,by simp[Builtin.delete_,ht,run_underlying hund,hck],h⟩
  ·cases e
 ·rename_i kt et r hund;split at e
  ·rename_i es clock hr;split at e
   ·rename_i hs
    replace e:=obs e
    obtain⟨f,hf,e⟩:=e;simp only[VR]at hd;obtain⟨l,hl,rfl⟩:=hd;obtain⟨l',es',g1,g2,g3,g4,g5⟩:=h.good r _ hr;rw[hl]at g1;cases g1
    obtain⟨dk,hdk⟩:∃d,P.underlying kt=some d:=by
     unfold scalarT at hs
     cases hu:P.underlying kt with
     | none=>simp[hu]at hs
     | some d=>exact⟨d,rfl⟩
    have hck:=fun b=>run_checkKey (P:=P) hs hk b 9999 w;have hfn:=findNow_ifind (P:=P) hdk hs hk es es'.toList 0 f (by simpa using g4) (fun j y hy=>by obtain⟨e,he,hr⟩:=g5 j y hy;exact⟨e,by simpa using he,hr⟩) hf;rcases hfn with⟨rfl,hfn⟩ | ⟨j,q,z,rfl,hfn,hz,_,k',b',e',h5,h6,h7,h8⟩
    ·simp only at e;cases e
     refine⟨_,?_,h.putMap hr hl es es' clock g4 g5⟩;simp only[Builtin.delete_,List.getElem?_toArray,List.getElem?_cons_zero,List.getElem?_cons_succ,ht,Sem.run_bind,run_underlying hund,Result.andThen_ok,run_getMap g2,hck,Instr.findKey,run_underlying hdk,hfn,Sem.run_pure,run_setMap g2]
    ·simp only at e;cases e
     simp only[Nat.sub_zero]at h5 h7;have hjl:j<es.length:=(ges h5).1;refine⟨_,?_,h.putMap hr hl (es.eraseIdx j) (es'.eraseIdxIfInBounds j) clock ?_ (fun i y hy=> ?_)⟩
     ·simp only[Builtin.delete_,List.getElem?_toArray,List.getElem?_cons_zero,List.getElem?_cons_succ,ht,Sem.run_bind,run_underlying hund,Result.andThen_ok,run_getMap g2,hck,Instr.findKey,run_underlying hdk,hfn,Sem.run_pure,run_setMap g2]
     ·rw[List.length_eraseIdx,if_pos hjl,Array.eraseIdxIfInBounds,dif_pos (by omega)];simp[g4]
     ·rw[List.getElem?_eraseIdx]at hy;have hE:∀k:Nat,(es'.eraseIdxIfInBounds j)[k]? =if k<j then es'[k]? else es'[k+1]? :=by
       intro k;rw[Array.eraseIdxIfInBounds,dif_pos (by omega),Array.getElem?_eraseIdx]
      rw[hE];split at hy
      ·rename_i hlt;rw[if_pos hlt];exact g5 i y hy
      ·rename_i hlt;rw[if_neg hlt];exact g5 (i+1) y hy
   ·cases e
  ·cases e
 ·cases e
end Go.Shade
namespace Go.Shade
open Go.RowKit
def xkind (P:Program)(g:FuncId):Option Nat :=
 match P.funcs[g]? with
 | some fn=>if fn.body.isNone&&(Extern.findNext fn).isNone then
   if fn.name== "internal/bytealg.IndexByteString" then some 0 else if fn.name== "internal/bytealg.abigen_runtime_cmpstring" then some 1 else none
  else none
 | none=>none
def ixt :Nat->List IV->Option IV
 | 0,[.str s,.int .u8 c]=>some (.int .i64 (Lib.indexByte s c.toNat.toUInt8))
 | 1,[.str a,.str b]=>some (.int .i64 (Lib.compareBytes a b))
 | _,_=>none
theorem find_ibs {fn:Func}(h:fn.name= "internal/bytealg.IndexByteString"):Extern.find fn=some Extern.BytealgIndexByte.indexByte:=by
 have e:∀n,n= "internal/bytealg.IndexByteString" ->((Extern.allGenericRows.lookup n).map (· fn.targs fn.params fn.resultTypes) <|> (Extern.allTypedRows.lookup n).map (· fn.params fn.resultTypes) <|> Extern.allRows.lookup n)=some Extern.BytealgIndexByte.indexByte:=by
  rintro n rfl;have h1:Extern.allGenericRows.lookup "internal/bytealg.IndexByteString" =none:=by kernel_rfl
  have h2:Extern.allTypedRows.lookup "internal/bytealg.IndexByteString" =none:=by kernel_rfl
  have h3:Extern.allRows.lookup "internal/bytealg.IndexByteString" =some Extern.BytealgIndexByte.indexByte:=by kernel_rfl
  rw[h1,h2,h3];rfl
 unfold Extern.find;simp only[e _ h];rfl
theorem find_cmp {fn:Func}(h:fn.name= "internal/bytealg.abigen_runtime_cmpstring"):Extern.find fn=some Extern.BytealgCompare.compare:=by
 have e:∀n,n= "internal/bytealg.abigen_runtime_cmpstring" ->((Extern.allGenericRows.lookup n).map (· fn.targs fn.params fn.resultTypes) <|> (Extern.allTypedRows.lookup n).map (· fn.params fn.resultTypes) <|> Extern.allRows.lookup n)=some Extern.BytealgCompare.compare:=by
  rintro n rfl;have h1:Extern.allGenericRows.lookup "internal/bytealg.abigen_runtime_cmpstring" =none:=by kernel_rfl
  have h2:Extern.allTypedRows.lookup "internal/bytealg.abigen_runtime_cmpstring" =none:=by kernel_rfl
  have h3:Extern.allRows.lookup "internal/bytealg.abigen_runtime_cmpstring" =some Extern.BytealgCompare.compare:=by kernel_rfl
  rw[h1,h2,h3];rfl
 unfold Extern.find;simp only[e _ h];rfl
theorem run_ixt {P:Program}{m:Mp}{g:FuncId}{k:Nat}{vs:List IV}{us:Array Value}{r:IV}(hk:xkind P g=some k)(hv:VRs m vs us.toList)(e:ixt k vs=some r)(w:World):∃u,(callFunc g us).run P w=.ok (.value u) w/\VR m r u:=by
 unfold xkind at hk;split at hk
 ·rename_i fn hf;split at hk
  ·rename_i hb;simp only[Bool.and_eq_true]at hb;have hn:Extern.findNext fn=none:=by
    cases hx:Extern.findNext fn with
    | none=>rfl
    | some a=>rw[hx]at hb;exact absurd hb.2 (by simp)
   split at hk
   ·rename_i hname
    cases hk
    have hname:fn.name= "internal/bytealg.IndexByteString" :=by simpa using hname
    have hN:(fn.name== "runtime.NumGoroutine")=false:=by rw[hname];rfl
    unfold ixt at e;split at e
    ·rename_i s c _
     cases e
     obtain⟨a,b,h1,h2,h3⟩:∃a b,us= #[a,b]/\a=.string ⟨s.toArray⟩/\b=.int .u8 c:=by
      simp only[VRs,VR]at hv;obtain⟨v,vs',h1,rfl,v2,vs2,h2,rfl,h3⟩:=hv;subst h3;subst h2;exact⟨_,_,Array.ext' (by simpa using h1),rfl,rfl⟩
     subst h1 h2 h3;rw[run_callFunc_extern hf hN hb.1 hn (find_ibs hname),Lib.run_indexByteString];exact⟨_,rfl,VR_int m _ _⟩
    ·exfalso;simp_all
    ·cases e
   ·split at hk
    ·rename_i hname
     cases hk
     have hname:fn.name= "internal/bytealg.abigen_runtime_cmpstring" :=by simpa using hname
     have hN:(fn.name== "runtime.NumGoroutine")=false:=by rw[hname];rfl
     unfold ixt at e;split at e
     ·exfalso;simp_all
     ·rename_i s t _
      cases e
      obtain⟨a,b,h1,h2,h3⟩:∃a b,us= #[a,b]/\a=.string ⟨s.toArray⟩/\b=.string ⟨t.toArray⟩:=by
       simp only[VRs,VR]at hv;obtain⟨v,vs',h1,rfl,v2,vs2,h2,rfl,h3⟩:=hv;subst h3;subst h2;exact⟨_,_,Array.ext' (by simpa using h1),rfl,rfl⟩
      subst h1 h2 h3;rw[run_callFunc_extern hf hN hb.1 hn (find_cmp hname),Lib.run_compareString];exact⟨_,rfl,VR_int m _ _⟩
     ·cases e
    ·cases hk
  ·cases hk
 ·cases hk
def icap (P:Program)(t:TypeId)(x:IV):Option IV :=
 match P.underlying t,x with
 | some (.slice _),.nilSlice=>some (.int .i64 0)
 | some (.slice _),.slice _ _ _ lb true _=>some (.int .i64 lb)
 | _,_=>none
theorem run_icap {P:Program}{m:Mp}{t ty:TypeId}{ts:Array TypeId}{x r:IV}{v:Value}(ht:ts[0]? =some t)(hx:VR m x v)(h:icap P t x=some r)(w:World) :
  ∃u,(Builtin.cap_ ts ty #[v]).run P w=.ok u w/\VR m r u:=by
 unfold icap at h;split at h
 ·rename_i hund
  cases h;simp only[VR]at hx;subst hx
  exact⟨_,by simp[Builtin.cap_,ht,run_underlying hund,goInt],VR_int m _ _⟩
 ·rename_i hund
  cases h;simp only[VR]at hx;obtain⟨l,o1,c,sp,_,rfl,_,_,h3,_⟩:=hx
  have:=h3 trivial;subst this;exact⟨_,by simp[Builtin.cap_,ht,run_underlying hund,goInt],VR_int m _ _⟩
 ·cases h
end Go.Shade
namespace Go.Shade
open Go.RowKit
theorem run_ovl_raw {P:Program}{w:World}{tS e:TypeId}{ps rs:Array TypeId}{size:Nat}(hp:ps[0]? =some tS)(ht:P.underlying tS=some (.slice e))(hz:szOf P e=some size)(a b:Addr)(la ca lb cb:Nat){A B:TypeId×Nat}
  (sha:w.shape? a.block=some A) (shb:w.shape? b.block=some B) (hfb:w.frozen? b=false) :
  ∃bb w',(Extern.SlicesOverlaps.overlaps ps rs #[.slice (some a) la ca,.slice (some b) lb cb]).run P w=.ok (.bool bb) w'/\w'.heap=w.heap/\w'.os=w.os/\w'.tape=w.tape/\w'.output=w.output:=by
 have hdef:Extern.SlicesOverlaps.overlaps ps rs #[.slice (some a) la ca,.slice (some b) lb cb]=(do
  let some t:=ps[0]? | stuck "slices.overlaps: no parameter types"
  let .slice elem ←underlying t | stuck "slices.overlaps: slice type expected"
  let size ←sizeOf elem
  match (some a:Option Addr),(some b:Option Addr)with
  | some a,some b =>
   if la=0∨lb=0∨size=0 then pure (Value.bool false)
   else if a.block != b.block&&(←frozen a)&&(←frozen b)then unsupported .addressObserved
   else do
    if a.block != b.block then do
     noView a;noView b
     if ←mayBeOne a b then return Value.bool ((←choose (.extern "sameAddr.stringBytes" 2))==1)
    pure (Value.bool (a.block==b.block&&a.off<b.off+lb*size&&b.off<a.off+la*size))
  | _,_=>pure (Value.bool false)):=rfl
 rw[hdef];by_cases h0:la=0∨lb=0∨size=0
 ·exact⟨false,w,by simp[hp,run_underlying ht,run_size hz,h0],rfl,rfl,rfl,rfl⟩
 ·by_cases hne:a.block=b.block
  ·have e1:(a.block != b.block)=false:=by simpa using hne
   exact⟨_,w,by simp[hp,run_underlying ht,run_size hz,h0,e1];rfl,rfl,rfl,rfl,rfl⟩
  ·have e1:(a.block != b.block)=true:=by simpa using hne
   have e2:(a.block==b.block)=false:=by simpa using hne
   obtain⟨mb,hmb⟩:∃mb,(mayBeOne a b).run P w=.ok mb w:=by
    obtain⟨A1,A2⟩:=A;obtain⟨B1,B2⟩:=B
    cases hfa:w.frozen? a<;>simp[mayBeOne,stringish,frozen,shape,Sem.run,sha,shb,hfa,hfb]
   cases mb with
   | false =>
    refine⟨false,w,?_,rfl,rfl,rfl,rfl⟩
    cases hfa:w.frozen? a<;>simp[hp,run_underlying ht,run_size hz,h0,e1,e2,frozen,noView,viewAt,shape,Sem.run,sha,shb,hfa,hfb,hmb]
   | true =>
    obtain⟨c,w',hc,g1,g2,g3,g4⟩:∃c w',(choose (.extern "sameAddr.stringBytes" 2)).run P w=.ok c w'/\w'.heap=w.heap/\w'.os=w.os/\w'.tape=w.tape/\w'.output=w.output:=by
     simp only[choose,Sem.run];split
     ·exact⟨_,_,rfl,rfl,rfl,rfl,rfl⟩
     ·exact⟨_,_,rfl,rfl,rfl,rfl,rfl⟩
    refine⟨c==1,w',?_,g1,g2,g3,g4⟩;simp only[choose,Sem.run]at hc
    cases hfa:w.frozen? a
    all_goals
     simp[hp,run_underlying ht,run_size hz,h0,e1,e2,frozen,noView,viewAt,shape,Sem.run,sha,shb,hfa,hfb,hmb];split at hc
     ·rename_i hf;rw[if_pos hf];cases hc;rfl
     ·rename_i hf;rw[if_neg hf];cases hc;rfl
def ovlFn (P:Program)(g:FuncId):Bool :=
 match P.funcs[g]? with
 | some fn=> !(fn.name== "runtime.NumGoroutine")&&fn.body.isNone&&(Extern.findNext fn).isNone&&fn.origin== "slices.overlaps" &&(Extern.allGenericRows.lookup fn.name).isNone&&(Extern.allTypedRows.lookup fn.name).isNone&&(Extern.allRows.lookup fn.name).isNone &&
   (match fn.params[0]? with
   | some t=>match P.underlying t with
    | some (.slice e)=>(szOf P e).isSome
    | _=>false
   | none=>false)
 | none=>false
def rowThere :Option IObj->Bool
 | some (.row _ false)=>true
 | some (.row (_::_) true)=>true
 | _=>false
def rowHeld :Option IObj->Bool
 | some (.row _ false)=>true
 | _=>false
def stOvl (H:Heap)(x y:IV):Option (List (IV×Heap)) :=
 match x,y with
 | .slice a _ _ _ _ _,.slice b _ _ lb _ sz=>if 0<lb/\0<sz/\rowThere H[a]? =true/\rowHeld H[b]? =true then some [(.bool false,H),(.bool true,H)]else none
 | _,_=>none
theorem isNone_eq {α:Type}{o:Option α}(h:o.isNone=true):o=none:=by cases o<;>simp_all
theorem run_ovl {P:Program}{B0:Nat}{w0 w:World}{m:Mp}{H:Heap}(hR:Rel B0 w0 m H w){g:FuncId}(hg:ovlFn P g=true){x y:IV}{us:Array Value}(hv:VRs m [x,y] us.toList){outs:List (IV×Heap)}(e:stOvl H x y=some outs) :
  ∃r w' u,r∈outs/\(callFunc g us).run P w=.ok (.value u) w'/\Rel B0 w0 m r.2 w'/\VR m r.1 u:=by
 unfold stOvl at e;split at e
 ·rename_i a oa na la exa sa b ob nb lb exb sz;split at e
  ·rename_i hc
   cases e
   obtain⟨q1,q2,q3,q4⟩:=hc;simp only[VRs,VR]at hv;obtain⟨v1,vs1,h1,⟨l1,o1,c1,sp1,hl1,rfl,_⟩,v2,vs2,h2,⟨l2,o2,c2,sp2,hl2,rfl,k1,k2,k3,k4,k5⟩,h3⟩:=hv;subst h3;subst h2;have hus:us= #[.slice (some ⟨l1.cb,o1,sp1⟩) na c1,.slice (some ⟨l2.cb,o2,sp2⟩) nb c2]:=Array.ext' (by simpa using h1);subst hus;obtain⟨A,hA⟩:∃A,w.shape? l1.cb=some A:=by
    cases ha:H[a]? with
    | none=>rw[ha]at q3;cases q3
    | some o =>
     rw[ha]at q3;have hgd:=hR.good a o ha
     cases o with
     | row cs ro =>
      cases ro with
      | false =>
       obtain⟨l',C,e,fr,g1,g2,_⟩:=hgd;rw[hl1]at g1;cases g1
       exact⟨(e,C.size),by simp[World.shape?,g2]⟩
      | true =>
       cases cs with
       | nil=>cases q3
       | cons z zs =>
        obtain⟨l',g1,g2⟩:=hgd;rw[hl1]at g1;cases g1
        obtain⟨C,e,fr,g3,_⟩:=g2 (by simp);exact⟨(e,C.size),by simp[World.shape?,g3]⟩
     | _=>cases q3
   obtain⟨B,hB,hfz⟩:∃B,w.shape? l2.cb=some B/\w.frozen? ⟨l2.cb,o2,sp2⟩=false:=by
    cases hb:H[b]? with
    | none=>rw[hb]at q4;cases q4
    | some o =>
     rw[hb]at q4;have hgd:=hR.good b o hb
     cases o with
     | row cs ro =>
      cases ro with
      | false =>
       obtain⟨l',C,e,fr,g1,g2,g3,g4,g5,g6,_⟩:=hgd;rw[hl2]at g1;cases g1
       obtain⟨e1,e2⟩:=k5 q2;subst e2;have hlt:0<c2*sz:=Nat.mul_pos (by omega) q2;exact⟨(e,C.size),by simp[World.shape?,g2],by rw[frozen_of g2];exact decide_eq_false (g6 _ (by omega))⟩
      | true=>cases q4
     | _=>cases q4
   unfold ovlFn at hg;split at hg
   ·rename_i fn hf;simp only[Bool.and_eq_true,Bool.not_eq_true']at hg;obtain⟨⟨⟨⟨⟨⟨⟨n1,n2⟩,n3⟩,n4⟩,n5⟩,n6⟩,n7⟩,n8⟩:=hg;have n4:fn.origin= "slices.overlaps" :=by simpa using n4
    have hfind:Extern.find fn=some (Extern.SlicesOverlaps.overlaps fn.params fn.resultTypes):=by
     have h1:Extern.allGenericRows.lookup "slices.overlaps" =none:=by kernel_rfl
     have h2:Extern.allTypedRows.lookup "slices.overlaps" =some Extern.SlicesOverlaps.overlaps:=by kernel_rfl
     unfold Extern.find;simp only[isNone_eq n5,isNone_eq n6,isNone_eq n7,n4,h1,h2];rfl
    split at n8
    ·rename_i t ht;split at n8
     ·rename_i et hu
      cases hsz:szOf P et with
      | none=>rw[hsz]at n8;cases n8
      | some size =>
       obtain⟨bb,w',r1,r2,r3,r4,r5⟩:=run_ovl_raw (rs:=fn.resultTypes) ht hu hsz ⟨l1.cb,o1,sp1⟩ ⟨l2.cb,o2,sp2⟩ na c1 nb c2 hA hB hfz;refine⟨(.bool bb,H),w',.bool bb,by cases bb<;>simp,?_,hR.same r2 r3 r4 r5,VR_bool m bb⟩;rw[run_callFunc_extern hf n1 n2 (isNone_eq n3) hfind,r1];rfl
     ·cases n8
    ·cases n8
   ·cases hg
  ·cases e
 ·cases e
end Go.Shade
namespace Go.Shade
open Go.RowKit
def iappz (P:Program)(H:Heap)(t xT:TypeId)(s x:IV):Option (INext×Heap) :=
 match P.underlying t,P.underlying xT,x with
 | some (.slice e),some (.int _),.int _ k=>(szOf P e).bind fun sz=>(byOf P e).bind fun by_=>(zeroOf P e).bind fun z =>
  if isTuple z=false/\z.cells.length=sz/\z.cells.all IV.one=true/\0<sz/\0<by_/\0<k then
   match s with
   | .nilSlice=>if k.toNat*by_<=140737488355328 then some (.val (.slice H.length 0 k.toNat k.toNat false sz),H++[.row (zrep k.toNat z.cells) false])else none
   | .slice b o len lb ex sz'=>if lb<len+k.toNat/\ex=true then(isl P H e (.slice b o len lb ex sz') len).bind fun old =>
     if(len+k.toNat)*by_<=140737488355328/\old.length=len*sz then some (.val (.slice H.length 0 (len+k.toNat) (len+k.toNat) false sz),H++[.row (old++zrep k.toNat z.cells) false])else none
    else none
   | _=>none
  else none
 | _,_,_=>none
theorem run_freshz {P:Program}{B0:Nat}{w0 w:World}{m:Mp}{H:Heap}(h:Rel B0 w0 m H w){t xT ty e:TypeId}{kn kq:IntKind}{sz by_ len c k:Nat}{base:Option Addr}{old:List IV}{ous:List Value}{z:IV}
  (hund:P.underlying t=some (.slice e)) (hux:P.underlying xT=some (.int kn)) (hsz:szOf P e=some sz) (hby:byOf P e=some by_) (hz:zeroOf P e=some z) (c1:isTuple z=false) (c2:z.cells.length=sz) (c3:z.cells.all IV.one=true) (c4:0<sz) (hb0:0<by_)
  (hold:(Builtin.firstCells sz len (.slice base len c)).run P w=.ok ous.toArray w) (ho:VRs m old ous) (h1o:old.all IV.one=true) (hol:old.length=len*sz) (hk:0<k) (hc:c<len+k) (hfit:(len+k)*by_<=140737488355328) :
  OkTo P B0 w0 m w (do pure (.value (←Builtin.append_ #[t,xT] ty #[.slice base len c,.int kq k]))) (.val (.slice H.length 0 (len+k) (len+k) false sz),H++[.row (old++zrep k z.cells) false]):=by
 obtain⟨i,hi⟩:∃i,P.info? e=some i:=by
  unfold byOf at hby;cases hx:P.info? e with
  | none=>simp[hx]at hby
  | some i=>exact⟨i,rfl⟩
 have hib:i.bytes=by_:=by unfold byOf at hby;simpa[hi]using hby
 have his:i.size=sz:=by unfold szOf at hsz;simpa[hi]using hsz
 obtain⟨u,hiz,hr⟩:∃u,i.zero=some u/\VR m z u:=by
  unfold zeroOf at hz;obtain⟨u,g1,g2⟩:=obs hz;rw[hi]at g1;exact⟨u,by simpa using g1,ofV_VR m g2⟩
 have hrc:=hr.cells (fun l e=>by subst e;simp[isTuple]at c1);have hul:u.cells.size=sz:=by rw[←c2,hrc.length];simp
 have hmul:len+k<=(len+k)*by_:=Nat.le_mul_of_pos_right _ hb0;have hkb:k*by_<=(len+k)*by_:=Nat.mul_le_mul_right _ (by omega);have hold':(Builtin.firstCells i.size len (.slice base len c)).run P w.drew=.ok ous.toArray w.drew:=by
  rw[his];exact run_first_drawn hold (w.drawn+1)
 have hrun:=Lib.run_append_grow_zeros w t xT ty e i u kq kn hund hux hi hiz base len c ous hold' k hk (by rw[his];exact c4) hc (by omega) (by rw[hib];omega) (by rw[hib];exact growslice_fits hc hfit);have hge:=grownCap_ge w (len+k) c e;have hR1:Rel B0 w0 m H w.drew:=h.drew _;have hV:=mcells_VRs k hrc;have holdnew:=ho.append hV;rw[c2]at holdnew;have hC:(ous.toArray++Builtin.zeroCells u.cells k++Builtin.zeroCells u.cells (grownCap w (len+k) c e - (len+k))).toList=ous++(mcells u.cells (k*sz)).toList++(mcells u.cells ((grownCap w (len+k) c e - (len+k))*sz)).toList:=by
  simp only[Array.toList_append,zeroCells_mcells,hul]
 have hCs:(ous.toArray++Builtin.zeroCells u.cells k++Builtin.zeroCells u.cells (grownCap w (len+k) c e - (len+k))).size=len*sz+k*sz+(grownCap w (len+k) c e - (len+k))*sz:=by
  have hl:=ho.length;simp only[Array.size_append,zeroCells_mcells,hul,mcells,Array.size_map,Array.size_range,List.size_toArray];omega
 have hlen:(old++zrep k z.cells).length=len*sz+k*sz:=by rw[List.length_append,hol,zrep_length,c2]
 have hrel:=hR1.newRow (old++zrep k z.cells) _ e (0,0) (by rw[hCs,hlen];omega) (by simp) (fun j x hj=>by
  have h1:(old++zrep k z.cells).all IV.one=true:=by rw[List.all_append,h1o,zrep_all c3];rfl
  obtain⟨y,hy,hxy⟩:=holdnew.get hj;refine⟨List.all_eq_true.1 h1 _ (List.mem_of_getElem? hj),y,?_,hxy⟩;rw[←Array.getElem?_toList,hC,List.getElem?_append,if_pos (ges hy).1];exact hy)
 refine⟨_,_,.slice (some ⟨w.heap.size,0,none⟩) (len+k) (grownCap w (len+k) c e),?_,grow_ext h _,hrel,?_⟩
 ·rw[vv hrun]
 ·simp only[VR];refine⟨_,0,_,none,grow_at _ _ _,rfl,Nat.le_refl _,hge,(fun h=>by cases h),fun _=>⟨rfl,rfl⟩,fun _=>⟨?_,rfl⟩⟩;simp only[hCs];rw[←Nat.add_mul,←Nat.add_mul];have:len+k+(grownCap w (len+k) c e - (len+k))=grownCap w (len+k) c e:=by omega
  rw[this];omega
theorem run_iappz {P:Program}{B0:Nat}{w0 w:World}{m:Mp}{H:Heap}(h:Rel B0 w0 m H w){t xT ty:TypeId}{s x:IV}{vs vx:Value}(hs:VR m s vs)(hx:VR m x vx){r:INext×Heap}
  (e:iappz P H t xT s x=some r):OkTo P B0 w0 m w (do pure (.value (←Builtin.append_ #[t,xT] ty #[vs,vx]))) r:=by
 unfold iappz at e;split at e
 ·rename_i et kn kq k hund hux;obtain⟨sz,hsz,e⟩:=obs e;obtain⟨by_,hby,e⟩:=obs e;obtain⟨z,hz,e⟩:=obs e;split at e
  ·rename_i hcond;obtain⟨c1,c2,c3,c4,c5,c6⟩:=hcond;simp only[VR]at hx;subst hx;have hkk:(k:Int)=((k.toNat:Nat):Int):=by omega
   split at e
   ·split at e
    ·rename_i hf
     cases e
     simp only[VR]at hs;subst hs;have:=run_freshz (ty:=ty) (kq:=kq) (base:=none) (len:=0) (c:=0) (k:=k.toNat) (old:=[]) (ous:=[]) h hund hux hsz hby hz c1 c2 c3 c4 c5 (by simp[Builtin.firstCells]) (VRs.nil m) rfl (by simp) (by omega) (by omega) (by simpa using hf);rw[←hkk]at this
     simpa using this
    ·cases e
   ·rename_i b o len lb ex sz';split at e
    ·rename_i hroom;obtain⟨hr1,hr2⟩:=hroom;subst hr2;obtain⟨old,hold,e⟩:=obs e;split at e
     ·rename_i hf
      cases e
      have hs':=hs;simp only[VR]at hs;obtain⟨l,o1,c,sp,hl,rfl,h1,h2,h3,h4,h5⟩:=hs;obtain⟨ous,hoV,horun⟩:=run_isl (P:=P) h hold hs' hsz;have hoall:=VRs_all_cells h hold;have hcl:=h3 trivial;have:=run_freshz (ty:=ty) (kq:=kq) (k:=k.toNat) h hund hux hsz hby hz c1 c2 c3 c4 c5 horun hoV hoall hf.2 (by omega) (by omega) hf.1;rw[←hkk]at this;exact this
     ·cases e
    ·cases e
   ·cases e
  ·cases e
 ·cases e
end Go.Shade
namespace Go.Shade
open Go.RowKit
variable {B0 : Nat} {H : Heap} {P : Program} {m : Mp} {r : INext × Heap} {w w0 : World} {x : IV}
theorem modify_push {α:Type}(a:Array α)(x:α)(f:α->α):(a.push x).modify a.size f=a.push (f x):=by
 apply Array.ext_getElem?;intro i;rw[Array.getElem?_modify,Array.getElem?_push,Array.getElem?_push];by_cases h:a.size=i
 ·subst h;simp
 ·rw[if_neg h,if_neg (Ne.symm h),if_neg (Ne.symm h)]
def ibytesOf (P:Program)(H:Heap)(s d:TypeId)(x:IV):Option (INext×Heap) :=
 match P.underlying s,P.underlying d,x with
 | some _,some (.slice e),.str l=>match P.underlying e,szOf P e with
  | some (.int .u8),some 1=>some (.val (.slice H.length 0 l.length l.length false 1),H++[.row (l.map fun b=>.int .u8 b.toNat) false])
  | _,_=>none
 | _,_,_=>none
theorem run_ibytesOf (h:Rel B0 w0 m H w){s d:TypeId}{v:Value}(hx:VR m x v)(e:ibytesOf P H s d x=some r):OkTo P B0 w0 m w (do pure (.value (←convert s d v))) r:=by
 unfold ibytesOf at e;split at e
 ·rename_i ds et l hs hd;split at e
  ·rename_i he hsz
   cases e
   simp only[VR]at hx;subst hx
   let q:=Question.appendCap l.length 0 et
   let cap:=q.cut (w.tape w.drawn q)
   have hcap:l.length<=cap:=Nat.le_add_right _ _
   let w1:World:= { w with drawn:=w.drawn+1 }
   have hR1:Rel B0 w0 m H w1:=h.drew _
   let C:Array Value:=(⟨l.toArray⟩:ByteArray).data.map (fun b=>Value.int .u8 b.toNat)++Array.replicate (cap - l.length) (.int .u8 0)
   have hC:C.size=cap:=by simp[C];omega
   have hrel:=hR1.newRow (l.map fun b=>.int .u8 b.toNat) C et (C.size,C.size+1) (by rw[hC];simpa using hcap) (fun j hj=>by omega) (fun j y hj=>by
    rw[List.getElem?_map]at hj
    cases hb:l[j]? with
    | none=>simp[hb]at hj
    | some b =>
     simp[hb]at hj;subst hj;refine⟨rfl,_,?_,VR_int m _ _⟩;have hlt:=(ges hb).1;simp only[C];rw[Array.getElem?_append,if_pos (by simpa using hlt)];simp[hb])
   have hrel2:=hrel.same (w':=(w1.alloc (.cells C et (0,0))).freeze ⟨w.heap.size,C.size,none⟩ 1) (by
    have hm:∀f:Obj->Obj,(w1.heap.push (.cells C et (0,0))).modify w.heap.size f=w1.heap.push (f (.cells C et (0,0))):=fun f=>modify_push w1.heap _ f;simp only[World.freeze,World.alloc];rw[if_neg (by omega)];exact hm (fun o=>match o with | .cells c elem (lo,hi)=>.cells c elem (if lo==hi then(C.size,C.size+1)else(min lo C.size,max hi (C.size+1))) | o=>o)) rfl rfl rfl
   refine⟨_,_,.slice (some ⟨w.heap.size,0,none⟩) l.length cap,?_,grow_ext h _,hrel2,?_⟩
   ·rw[vv];simp only[convert,Sem.run_bind,run_underlying hs,run_underlying hd,Result.andThen_ok];simp only[Sem.run_bind,run_underlying he,Result.andThen_ok,Conv.stringToBytes,run_choose,size_mk];have hforced:(Question.appendCap l.length 0 et).forced=false:=rfl;rw[hforced];simp only[Bool.false_eq_true,if_false,Result.andThen_ok,Sem.run_bind];have e2:(Go.newRow et C).run P w1=.ok ⟨w.heap.size,0,none⟩ (w1.alloc (.cells C et (0,0))):=by simp[Go.newRow];rfl
    have e3:(Go.newRow et (Array.map (fun b=>Value.int IntKind.u8 ↑b.toNat) l.toArray++Array.replicate ((Question.appendCap l.length 0 et).cut (w.tape w.drawn (Question.appendCap l.length 0 et)) - l.length) (Value.int IntKind.u8 0))).run P { heap:=w.heap,tape:=w.tape,drawn:=w.drawn+1,os:=w.os,output:=w.output }=.ok ⟨w.heap.size,0,none⟩ (w1.alloc (.cells C et (0,0))):=e2;rw[e3];have e4:(w1.alloc (.cells C et (0,0))).shape? w.heap.size=some (et,C.size):=by
     have:(w1.alloc (.cells C et (0,0))).heap[w.heap.size]? =some (.cells C et (0,0)):=by
      show(w.heap.push _)[w.heap.size]? =_;simp
     simp[World.shape?,this]
    simp only[Result.andThen_ok,markStringish,Sem.run_bind,run_shape,e4,run_freeze,Sem.run_pure];rfl
   ·simp only[VR];refine⟨_,0,cap,none,grow_at _ _ _,rfl,Nat.le_refl _,hcap,(fun h=>by cases h),fun _=>⟨rfl,rfl⟩,fun _=>⟨?_,rfl⟩⟩;simp only[hC];omega
  ·cases e
 ·cases e
def callable (P:Program)(f:FuncId):Bool :=
 match P.funcs[f]? with
 | some fn=> !(fn.name== "runtime.NumGoroutine")&&fn.body.isSome
 | none=>false
theorem run_callFunc {f:FuncId}{args:Array Value}(h:callable P f=true)(w:World):(callFunc f args).run P w=.ok (.enter f args) w:=by
 unfold callable at h;split at h
 ·rename_i fn hf;simp only[Bool.and_eq_true,Bool.not_eq_true']at h;obtain⟨h1,h2⟩:=h;have h3:fn.body.isNone=false:=by cases hb:fn.body<;>simp_all
  simp only[callFunc,Sem.run_bind,run_program,Result.andThen_ok,hf];simp only[h1,h3,Bool.false_eq_true,if_false,Sem.run_pure]
 ·cases h
def mlook (P:Program)(t:TypeId)(name:String):Option (FuncId×Bool) :=
 match P.info? t with
 | some i=>match i.methods.find? (·.name==name)with
  | some mt=>if mt.path.isEmpty then mt.func else none
  | none=>none
 | none=>none
def imethod (P:Program)(H:Heap)(t:TypeId)(v:IV)(name:String):Option (FuncId×IV) :=
 (mlook P t name).bind fun fp=>match P.underlying t,fp.2,v with
  | some (.pointer _),true,v=>some (fp.1,v)
  | some (.pointer e),false,.ptr b o=>(iload P e H b o).bind fun x=>some (fp.1,x)
  | some (.pointer _),false,_=>none
  | some _,false,v=>some (fp.1,v)
  | _,_,_=>none
theorem run_imethod (h:Rel B0 w0 m H w){t:TypeId}{v:IV}{u:Value}{name:String}{f:FuncId}(hv:VR m v u)(e:imethod P H t v name=some (f,x)) :
  ∃y,(method (P.types.size+Made.depth) t u name).run P w=.ok (f,y) w/\VR m x y:=by
 unfold imethod at e
 replace e:=obs e
 obtain⟨⟨f',pr⟩,hm,e⟩:=e;unfold mlook at hm;split at hm
 ·rename_i i hi;split at hm
  ·rename_i mt hmt;split at hm
   ·rename_i hp;have hpath:mt.path= #[]:=by simpa using hp
    have hdep:0<Made.depth:=by decide
    have hfuel:∃k,P.types.size+Made.depth=k+1:=⟨P.types.size+Made.depth - 1,by omega⟩;obtain⟨k,hk⟩:=hfuel;rw[hk];have main:∀y,(receiverAt t (.val u) pr (if mt.path.isEmpty then some ((name.splitOn ".").getLastD name)else none)).run P w=.ok y w->(method (k+1) t u name).run P w=.ok (f',y) w:=by
     intro y hy;simp only[method,Sem.run_bind,run_info hi,Result.andThen_ok,hmt];simp only[hpath,follow,Sem.run_bind,Sem.run_pure,Result.andThen_ok];rw[hm];simp only[Sem.run_bind];rw[hpath]at hy;rw[hy];rfl
    simp only at e;split at e
    ·rename_i eT hund
     cases e
     refine⟨u,main u ?_,hv⟩;simp only[receiverAt,Sem.run_bind,run_underlying hund,Result.andThen_ok,Place.get,Sem.run_pure]
    ·rename_i eT b o hund
     replace e:=obs e
     obtain⟨q,hq,e⟩:=e
     cases e
     simp only[VR]at hv;obtain⟨l,hl,rfl⟩:=hv;obtain⟨y,hy,hr⟩:=run_iload (P:=P) h hq hl;refine⟨y,main y ?_,hr⟩;rw[hp,if_pos rfl];simp only[receiverAt,Sem.run_bind,run_underlying hund,Result.andThen_ok,Place.get,Sem.run_pure];have hss:∀(s:String),(Builtin.ssaWrapNilChk_ #[t] t #[.pointer (some ⟨l.cb,l.co+o,none⟩),strVal "",strVal s]).run P w=.ok (.pointer (some ⟨l.cb,l.co+o,none⟩)) w:=fun s=>rfl;rw[hss];simp only[Result.andThen_ok,asAddr,Sem.run_pure,hy]
    ·cases e
    ·rename_i dT hnp hund hnp2
     cases e
     refine⟨u,main u ?_,hv⟩;have hd:∀q,dT≠ .pointer q:=fun q hq=>hnp q hq
     cases dT<;>first
      | exact absurd rfl (hd _)
      | simp only[receiverAt,Sem.run_bind,run_underlying hund,Result.andThen_ok,Place.get,Sem.run_pure]
    ·cases e
   ·cases hm
  ·cases hm
 ·cases hm
def iappA (P:Program)(H:Heap)(t xT:TypeId)(s x:IV):Option (INext×Heap) :=
 match P.underlying xT with
 | some (.int _)=>iappz P H t xT s x
 | _=>iappend P H t xT s x
theorem run_iappA (h:Rel B0 w0 m H w){t xT ty:TypeId}{s:IV}{vs vx:Value}(hs:VR m s vs)(hx:VR m x vx)(e:iappA P H t xT s x=some r):OkTo P B0 w0 m w (do pure (.value (←Builtin.append_ #[t,xT] ty #[vs,vx]))) r:=by
 unfold iappA at e;split at e
 ·exact run_iappz h hs hx e
 ·exact run_iappend h hs hx e
def ie (P:Program)(H:Heap)(ρ:Env):Op->Option (INext×Heap)
 | .alloc t=>(zeroOf P t).bind fun z=>ibox z H
 | .box _ x=>(ρ x).bind fun v=>ibox v H
 | .buildSlice t len parts=>(evps ρ parts.toList).bind fun ps=>ibuildSlice P H t len ps
 | .store t a x=>(ρ a).bind fun p=>(ρ x).bind fun v=>(istore P H t p v).bind fun H'=>some (.skip,H')
 | .makeMap _ none=>some (.val (.map H.length),H++[.map [] 0])
 | .makeMap t (some x)=>match P.underlying t,ρ x with
  | some (.map ..),some (.int ..)=>some (.val (.map H.length),H++[.map [] 0])
  | _,_=>none
 | .makeSlice t l c=>(ρ l).bind fun a=>(ρ c).bind fun b=>imakeSlice P H t a b
 | .mapUpdate t d k x=>(ρ d).bind fun a=>(ρ k).bind fun b=>(ρ x).bind fun c=>(iupdate P H t a b c).bind fun H'=>some (.skip,H')
 | .insert t d k x=>(ρ d).bind fun a=>(ρ k).bind fun b=>(ρ x).bind fun c=>(iupdate P H t a b c).bind fun H'=>some (.skip,H')
 | .convert s d x=>(ρ x).bind fun v=>ibytesOf P H s d v
 | .call { callee:=.builtin .append,args:=⟨[s,x]⟩,argTypes:=⟨[t,xT]⟩ }=>(ρ s).bind fun a=>(ρ x).bind fun b=>iappA P H t xT a b
 | .call { callee:=.builtin .copy,args:=⟨[d,x]⟩,argTypes:=⟨[t,_]⟩ }=>(ρ d).bind fun a=>(ρ x).bind fun b=>icopy P H t a b
 | .call { callee:=.builtin .clear,args:=⟨[d]⟩,argTypes:=⟨t::_⟩ }=>(ρ d).bind fun a=>iclear P H t a
 | .call { callee:=.builtin .delete,args:=⟨[d,k]⟩,argTypes:=⟨t::_⟩ }=>(ρ d).bind fun a=>(ρ k).bind fun b=>(idelete P H t a b).bind fun H'=>some (.val (.tuple []),H')
 | .call { callee:=.value f,args,.. }=>(ρ f).bind fun fv=>(evs ρ args.toList).bind fun vs=>match fv with
  | .func (.func g) first cap=>if callable P g then some (.enter g (first++vs++cap),H)else(xkind P g).bind fun k=>(ixt k (first++vs++cap)).bind fun r=>some (.val r,H)
  | _=>none
 | .call { callee:=.builtin .cap,args:=⟨[x]⟩,argTypes:=⟨t::_⟩ }=>(ρ x).bind fun a=>(icap P t a).bind fun r=>some (.val r,H)
 | .call { callee:=.invoke r name,args,.. }=>(ρ r).bind fun rv=>(evs ρ args.toList).bind fun vs=>match rv with
  | .iface t v=>(imethod P H t v name).bind fun fx=>if callable P fx.1 then some (.enter fx.1 (fx.2::vs),H)else none
  | _=>none
 | _=>none
theorem run_ie (h:Rel B0 w0 m H w){ρ:Env}{ρ':Operand->Value}(hρ:ER m ρ ρ'){o:Oper}(e:ie P H ρ o.op=some r) :
  OkTo P B0 w0 m w (execOp ρ' o) r:=by
 obtain⟨dst,op,type,pos,after,guard⟩:=o;simp only at e;unfold ie at e;split at e
 ·exact ok_alloc h e
 ·replace e:=obs e
  obtain⟨v,hv,e⟩:=e;exact ok_box h _ (hρ _ _ hv) e
 ·rename_i t len parts
  replace e:=obs e
  obtain⟨ps,hps,e⟩:=e;have hx:execOp ρ' ⟨dst,.buildSlice t len parts,type,pos,after,guard⟩=(do pure (.value (←Instr.buildSlice t len (parts.map fun(i,x)=>(i,ρ' x)))):Sem Next):=rfl;have hp:PRs m ps (parts.map fun(i,x)=>(i,ρ' x)).toList:=by simpa using evps_PRs hρ hps
  rw[hx];exact run_ibuildSlice h hp e
 ·replace e:=obs e
  obtain⟨a,ha,e⟩:=e
  replace e:=obs e
  obtain⟨v,hv,e⟩:=e
  replace e:=obs e
  obtain⟨H',hH,e⟩:=e
  cases e
  obtain⟨w',h1,h2⟩:=run_istore h (hρ _ _ ha) (hρ _ _ hv) hH;exact⟨m,w',by simp[execOp,h1],Ext.refl m,h2⟩
 ·cases e
  have hp:=h.push (.map [] 0) (.map #[] 0) 0 ⟨⟨w.heap.size,0,0⟩,#[],grow_at _ _ _,by show(w.heap.push _)[w.heap.size]? =_;simp,h.base,rfl,by simp⟩;refine⟨_,_,.map (some w.heap.size),?_,grow_ext h _,hp,by simp only[VR];exact⟨_,grow_at _ _ _,rfl⟩⟩;simp[execOp,Instr.makeMap]
 ·rename_i t x;split at e
  ·rename_i k et k' n hund hx
   cases e
   have hp:=h.push (.map [] 0) (.map #[] 0) 0 ⟨⟨w.heap.size,0,0⟩,#[],grow_at _ _ _,by show(w.heap.push _)[w.heap.size]? =_;simp,h.base,rfl,by simp⟩;have hv:=hρ _ _ hx;simp only[VR]at hv;refine⟨_,_,.map (some w.heap.size),?_,grow_ext h _,hp,by simp only[VR];exact⟨_,grow_at _ _ _,rfl⟩⟩;simp[execOp,Instr.makeMap,run_underlying hund,hv,asInt,asIntOf]
  ·cases e
 ·replace e:=obs e
  obtain⟨a,ha,e⟩:=e
  replace e:=obs e
  obtain⟨b,hb,e⟩:=e;exact run_imakeSlice h (hρ _ _ ha) (hρ _ _ hb) e
 ·replace e:=obs e
  obtain⟨a,ha,e⟩:=e
  replace e:=obs e
  obtain⟨b,hb,e⟩:=e
  replace e:=obs e
  obtain⟨c,hc,e⟩:=e
  replace e:=obs e
  obtain⟨H',hH,e⟩:=e
  cases e
  obtain⟨w',h1,h2⟩:=run_iupdate h (hρ _ _ ha) (hρ _ _ hb) (hρ _ _ hc) hH;exact⟨m,w',by simp[execOp,h1],Ext.refl m,h2⟩
 ·replace e:=obs e
  obtain⟨a,ha,e⟩:=e
  replace e:=obs e
  obtain⟨b,hb,e⟩:=e
  replace e:=obs e
  obtain⟨c,hc,e⟩:=e
  replace e:=obs e
  obtain⟨H',hH,e⟩:=e
  cases e
  obtain⟨w',h1,h2⟩:=run_iupdate h (hρ _ _ ha) (hρ _ _ hb) (hρ _ _ hc) hH;exact⟨m,w',by simp[execOp,h1],Ext.refl m,h2⟩
 ·replace e:=obs e
  obtain⟨a,ha,e⟩:=e;exact run_ibytesOf h (hρ _ _ ha) e
 ·rename_i s x t xT
  replace e:=obs e
  obtain⟨a,ha,e⟩:=e
  replace e:=obs e
  obtain⟨b,hb,e⟩:=e;have:=run_iappA (ty:=type) h (hρ _ _ ha) (hρ _ _ hb) e;have hx:execOp ρ' ⟨dst,.call { callee:=.builtin .append,args:=⟨[s,x]⟩,argTypes:=⟨[t,xT]⟩ },type,pos,after,guard⟩=(do pure (.value (←Builtin.append_ #[t,xT] type #[ρ' s,ρ' x])):Sem Next):=by simp[execOp,resolve,invoke,builtin]
  rw[hx];exact this
 ·rename_i d x t xT
  replace e:=obs e
  obtain⟨a,ha,e⟩:=e
  replace e:=obs e
  obtain⟨b,hb,e⟩:=e;have:=run_icopy (xT:=xT) (ty:=type) h (hρ _ _ ha) (hρ _ _ hb) e;have hx:execOp ρ' ⟨dst,.call { callee:=.builtin .copy,args:=⟨[d,x]⟩,argTypes:=⟨[t,xT]⟩ },type,pos,after,guard⟩=(do pure (.value (←Builtin.copy_ #[t,xT] type #[ρ' d,ρ' x])):Sem Next):=by simp[execOp,resolve,invoke,builtin]
  rw[hx];exact this
 ·rename_i d t ts
  replace e:=obs e
  obtain⟨a,ha,e⟩:=e;have:=run_iclear (ts:=⟨t::ts⟩) (ty:=type) h rfl (hρ _ _ ha) e;have hx:execOp ρ' ⟨dst,.call { callee:=.builtin .clear,args:=⟨[d]⟩,argTypes:=⟨t::ts⟩ },type,pos,after,guard⟩=(do pure (.value (←Builtin.clear_ ⟨t::ts⟩ type #[ρ' d])):Sem Next):=by simp[execOp,resolve,invoke,builtin]
  rw[hx];exact this
 ·rename_i d k t ts
  replace e:=obs e
  obtain⟨a,ha,e⟩:=e
  replace e:=obs e
  obtain⟨b,hb,e⟩:=e
  replace e:=obs e
  obtain⟨H',hH,e⟩:=e
  cases e
  obtain⟨w',h1,h2⟩:=run_idelete (ts:=⟨t::ts⟩) (ty:=type) h rfl (hρ _ _ ha) (hρ _ _ hb) hH;have hx:execOp ρ' ⟨dst,.call { callee:=.builtin .delete,args:=⟨[d,k]⟩,argTypes:=⟨t::ts⟩ },type,pos,after,guard⟩=(do pure (.value (←Builtin.delete_ ⟨t::ts⟩ type #[ρ' d,ρ' k])):Sem Next):=by simp[execOp,resolve,invoke,builtin]
  rw[hx];exact⟨m,w',.tuple #[],by rw[vv];exact h1,Ext.refl m,h2,VR_unit m⟩
 ·rename_i f args ts
  replace e:=obs e
  obtain⟨fv,hf,e⟩:=e
  replace e:=obs e
  obtain⟨vs,hvs,e⟩:=e;split at e
  ·rename_i g first cap
   split at e
   ·rename_i hcall
    cases e
    have hv:=hρ _ _ hf;simp only[VR]at hv;obtain⟨fa,ca,hv,h1,h2⟩:=hv;refine⟨fa++args.map ρ'++ca,?_,h,?_⟩
    ·simp only[execOp,resolve,hv,Deferred.ofValue,Sem.run_bind,Sem.run_pure,Result.andThen_ok,invoke];exact run_callFunc hcall w
    ·simp only[Array.toList_append,Array.toList_map];exact(h1.append (evs_VRs hρ hvs)).append h2
   ·replace e:=obs e
    obtain⟨k,hk,e⟩:=e
    replace e:=obs e
    obtain⟨r0,hr0,e⟩:=e
    cases e
    have hv:=hρ _ _ hf;simp only[VR]at hv;obtain⟨fa,ca,hv,h1,h2⟩:=hv;obtain⟨u,hu,hru⟩:=run_ixt (us:=fa++args.map ρ'++ca) hk (by simp only[Array.toList_append,Array.toList_map];exact(h1.append (evs_VRs hρ hvs)).append h2) hr0 w;refine⟨m,w,u,?_,Ext.refl m,h,hru⟩;simp only[execOp,resolve,hv,Deferred.ofValue,Sem.run_bind,Sem.run_pure,Result.andThen_ok,invoke];exact hu
  ·cases e
 ·rename_i x t ts
  replace e:=obs e
  obtain⟨a,ha,e⟩:=e
  replace e:=obs e
  obtain⟨r0,hr0,e⟩:=e
  cases e
  obtain⟨u,hu,hru⟩:=run_icap (P:=P) (ty:=type) (ts:=⟨t::ts⟩) rfl (hρ _ _ ha) hr0 w;have hx:execOp ρ' ⟨dst,.call { callee:=.builtin .cap,args:=⟨[x]⟩,argTypes:=⟨t::ts⟩ },type,pos,after,guard⟩=(do pure (.value (←Builtin.cap_ ⟨t::ts⟩ type #[ρ' x])):Sem Next):=by simp[execOp,resolve,invoke,builtin]
  rw[hx];exact⟨m,w,u,by rw[vv];exact hu,Ext.refl m,h,hru⟩
 ·rename_i rr name args ts
  replace e:=obs e
  obtain⟨rv,hr,e⟩:=e
  replace e:=obs e
  obtain⟨vs,hvs,e⟩:=e;split at e
  ·rename_i t v
   replace e:=obs e
   obtain⟨⟨f,x⟩,hm,e⟩:=e;simp only at e;split at e
   ·rename_i hcall
    cases e
    have hv:=hρ _ _ hr;simp only[VR]at hv;obtain⟨y,hv,hy⟩:=hv;obtain⟨z,h1,h2⟩:=run_imethod (P:=P) h hy hm;refine⟨#[z]++args.map ρ',?_,h,?_⟩
    ·have hext:(#[Value.iface t y]++args.map ρ').extract 1 (#[Value.iface t y]++args.map ρ').size=args.map ρ':=by
      apply Array.ext';simp[List.extract_eq_take_drop];exact List.take_of_length_le (by simp)
     have h0:(#[Value.iface t y]++args.map ρ')[0]? =some (.iface t y):=by rw[Array.getElem?_append,if_pos (by simp)];rfl
     simp only[execOp,resolve,hv,Sem.run_bind,Sem.run_pure,Result.andThen_ok,invoke,h0,hext,callMethod,run_program,h1];exact run_callFunc hcall w
    ·have:(#[z]++args.map ρ').toList=z::args.toList.map ρ':=by simp
     rw[this];exact VRs.cons h2 (evs_VRs hρ hvs)
   ·cases e
  ·cases e
 ·cases e
def istep (P:Program)(H:Heap)(ρ:Env)(op:Op):Option (INext×Heap) :=
 match iq P H ρ op with
 | some v=>some (.val v,H)
 | none=>ie P H ρ op
theorem run_istep (h:Rel B0 w0 m H w){ρ:Env}{ρ':Operand->Value}(hρ:ER m ρ ρ'){o:Oper}(e:istep P H ρ o.op=some r) :
  OkTo P B0 w0 m w (execOp ρ' o) r:=by
 unfold istep at e;split at e
 ·rename_i v hv
  cases e
  obtain⟨u,h1,h2⟩:=run_iq h hρ hv;exact⟨m,w,u,h1,Ext.refl m,h,h2⟩
 ·exact run_ie h hρ e
end Go.Shade
namespace Go.Shade
open Go.RowKit
variable {a : Act} {m : Mp} {ts : List IV}
abbrev Oracle :=FuncId->List IV->Heap->Option (IV×Heap)
def SimCall (P:Program)(f:FuncId)(args:List IV)(H:Heap)(r:IV)(H':Heap):Prop :=
 ∀(B0:Nat) (w0 w:World) (m:Mp) (us:Array Value),Rel B0 w0 m H w->VRs m args us.toList ->
  Calls P f us w fun e w'=>∃m' u,e=.returned u/\Ext m m'/\Rel B0 w0 m' H' w'/\VR m' r u
def Sound (P:Program)(O:Oracle):Prop:=∀f args H r H',O f args H=some (r,H')->SimCall P f args H r H'
def env (ts:List IV):Env
 | .tmp t=>some (ts.getD t (.tuple []))
 | .const v=>ofV v
 | .func f=>some (.func (.func f) [] [])
 | .global _=>none
def TR (m:Mp)(ts:List IV)(a:Act):Prop:=VRs m ts a.tmps.toList/\a.defers=[]
theorem TR.ext {m m':Mp}(h:Ext m m'){ts:List IV}{a:Act}(k:TR m ts a):TR m' ts a:=⟨k.1.ext h,k.2⟩
theorem TR.env {m:Mp}{ts:List IV}{a:Act}(h:TR m ts a):ER m (env ts) a.eval:=by
 intro x v hx
 cases x with
 | tmp t =>
  simp only[Shade.env,Option.some.injEq]at hx;subst hx;simp only[Act.eval];have hl:=h.1.length;simp only[Array.length_toList]at hl;by_cases ht:t<ts.length
  ·obtain⟨u,hu,hr⟩:=h.1.get (List.getElem?_eq_getElem ht);have hu':a.tmps[t]? =some u:=by simpa using hu
   rw[List.getD_eq_getElem?_getD,List.getElem?_eq_getElem ht,Array.getD_eq_getD_getElem?,hu'];exact hr
  ·have h1:ts.length<=t:=Nat.le_of_not_lt ht;have h2:a.tmps.size<=t:=hl▸h1;rw[List.getD_eq_getElem?_getD,List.getElem?_eq_none h1,Array.getD_eq_getD_getElem?,Array.getElem?_eq_none h2];exact VR_unit m
 | const c=>exact ofV_VR m hx
 | func f =>
  simp only[Shade.env,Option.some.injEq]at hx;subst hx;simp only[Act.eval,VR];exact⟨#[],#[],rfl,VRs.nil m,VRs.nil m⟩
 | global g=>simp[Shade.env]at hx
def put (ts:List IV)(d:Option Tmp)(v:IV):List IV :=
 match d with
 | some t=>ts.set t v
 | none=>ts
theorem TR.put {m:Mp}{ts:List IV}{a:Act}(h:TR m ts a)(d:Option Tmp){v:IV}{u:Value}(hv:VR m v u):TR m (Shade.put ts d v) (a.put d u):=by
 cases d with
 | none=>exact h
 | some t =>
  refine⟨?_,h.2⟩;simp only[Shade.put,Act.put,Array.toList_setIfInBounds];exact h.1.set t hv
def iyield (ops:Array Oper)(ts:List IV)(j:Nat):Option Bool :=
 match ((ops[j]?).bind (·.dst)).bind (ts[·]?)with
 | some (.bool b)=>some b
 | _=>none
theorem yield_eq (h:TR m ts a)(ops:Array Oper)(j:Nat):yielded ops a.tmps j=iyield ops ts j:=by
 unfold yielded iyield
 cases hd:(ops[j]?).bind (·.dst)with
 | none=>rfl
 | some t =>
  simp only[Option.bind_some];have hl:=h.1.length;simp only[Array.length_toList]at hl;by_cases ht:t<ts.length
  ·obtain⟨u,hu,hr⟩:=h.1.get (List.getElem?_eq_getElem ht);have hu':a.tmps[t]? =some u:=by simpa using hu
   rw[hu',List.getElem?_eq_getElem ht];generalize ts[t]=x at hr
   cases x<;>simp only[VR]at hr<;>first
    | (subst hr;rfl)
    | (obtain⟨l,h1,h2⟩:=hr;subst h2;rfl)
    | (obtain⟨l,o,c,sp,h1,h2,_⟩:=hr;subst h2;rfl)
    | (obtain⟨a,b,h1,_⟩:=hr;subst h1;rfl)
    | (obtain⟨y,h1,_⟩:=hr;subst h1;rfl)
  ·have h1:ts.length<=t:=Nat.le_of_not_lt ht;have h2:a.tmps.size<=t:=hl▸h1;rw[List.getElem?_eq_none h1,Array.getElem?_eq_none h2]
def iwanted (ops:Array Oper)(o:Oper)(ts:List IV):Bool :=
 match o.guard with
 | none=>true
 | some (j,want)=>iyield ops ts j==some want
theorem wanted_eq (h:TR m ts a)(ops:Array Oper)(o:Oper):Region.wanted o (yielded ops a.tmps)=iwanted ops o ts:=by
 unfold Region.wanted iwanted;split<;>simp_all [yield_eq h]
def iopV (P:Program)(O:Oracle)(ops:Array Oper)(o:Oper)(ts:List IV)(H:Heap):Option (IV×Heap) :=
 if iwanted ops o ts then
  match istep P H (env ts) o.op with
  | some (.val v,H')=>some (v,H')
  | some (.skip,H')=>some (.tuple [],H')
  | some (.enter f args,H')=>O f args H'
  | none=>none
 else some (.tuple [],H)
theorem wp_iop {P:Program}{O:Oracle}(hφ:Sound P O){ops:Array Oper}{i:Nat}{o:Oper}(hi:ops[i]? =some o){H H':Heap}{v:IV}(e:iopV P O ops o ts H=some (v,H')){B0:Nat}{w0 w:World}(hR:Rel B0 w0 m H w)(hT:TR m ts a){Q:Exit->Act->World->Prop}{K:Act->World->Prop}(hK:∀m' w' u,Ext m m'->Rel B0 w0 m' H' w'->VR m' v u->K (a.put o.dst u) w'):wpOp P ops Q i K a w:=by
 unfold wpOp;rw[hi];simp only;rw[wanted_eq hT];unfold iopV at e;split at e
 ·rename_i hw;rw[if_pos hw];left;unfold Oper.wp;split at e
  ·rename_i x H1 hs
   cases e
   obtain⟨m',w',u,h1,h2,h3,h4⟩:=run_istep hR hT.env hs;rw[h1];exact hK m' w' u h2 h3 h4
  ·rename_i H1 hs
   cases e
   obtain⟨m',w',h1,h2,h3⟩:=run_istep hR hT.env hs;rw[h1];exact hK m' w' undef h2 h3 (VR_unit m')
  ·rename_i f args H1 hs;obtain⟨us,h1,h2,h3⟩:=run_istep hR hT.env hs;rw[h1];refine Calls.mono (hφ f args H1 v H' e B0 w0 w m us h2 h3) ?_;rintro e' w' ⟨m',u,rfl,h4,h5,h6⟩;exact hK m' w' u h4 h5 h6
  ·cases e
 ·rename_i hw;rw[if_neg hw]
  cases e
  exact hK m w undef (Ext.refl m) hR (VR_unit m)
def iops (P:Program)(O:Oracle)(ops:Array Oper):List Oper->List IV->Heap->Option (List IV×Heap)
 | [],ts,H=>some (ts,H)
 | o::os,ts,H=>(iopV P O ops o ts H).bind fun r=>iops P O ops os (put ts o.dst r.1) r.2
theorem wp_iops {P:Program}{O:Oracle}(hφ:Sound P O){ops:Array Oper}{Q:Exit->Act->World->Prop}{B0:Nat}{w0:World}{ts':List IV}{H':Heap}:∀(os:List Oper) (k:Nat) (ts:List IV) (H:Heap) (w:World) (m:Mp) (a:Act),
  (∀j,os[j]? =ops[k+j]?)->iops P O ops os ts H=some (ts',H')->Rel B0 w0 m H w->TR m ts a ->
  (∀m' a' w',Ext m m'->Rel B0 w0 m' H' w'->TR m' ts' a'->Q .normal a' w')->wpOps P ops Q (List.range' k os.length) a w
 | [],k,ts,H,w,m,a,_,e,hR,hT,hQ=>by
  simp only[iops]at e;cases e
  exact hQ m a w (Ext.refl m) hR hT
 | o::os,k,ts,H,w,m,a,hk,e,hR,hT,hQ=>by
  simp only[iops]at e
  replace e:=obs e
  obtain⟨⟨v,H1⟩,h1,e⟩:=e;have h0:ops[k]? =some o:=by have:=hk 0;simpa using this.symm
  rw[List.length_cons,List.range'_succ,wpOps_cons];refine wp_iop hφ h0 h1 hR hT (fun m1 w1 u hm hR1 hv=> ?_);exact wp_iops hφ os (k+1) _ _ _ m1 _ (fun j=>by have:=hk (j+1);simpa[Nat.add_assoc,Nat.add_comm 1 j]using this) e hR1 ((hT.ext hm).put _ hv)
   (fun m' a' w' h2 h3 h4=>hQ m' a' w' (hm.trans h2) h3 h4)
theorem wp_iregion {P:Program}{O:Oracle}(hφ:Sound P O){ops:Array Oper}{id:Nat}{Q:Exit->Act->World->Prop}{B0:Nat}{w0 w:World}{ts':List IV}{H H':Heap}(e:iops P O ops ops.toList ts H=some (ts',H'))(hR:Rel B0 w0 m H w)(hT:TR m ts a)(hQ:∀m' a' w',Ext m m'->Rel B0 w0 m' H' w'->TR m' ts' a'->Q .normal a' w'):(Code.region id ops false).wp P Q a w:=by
 refine wp_region ?_;have:=wp_iops (P:=P) (Q:=Q) hφ ops.toList 0 ts H w m a (fun j=>by simp) e hR hT hQ
 rwa [Array.length_toList,←List.range_eq_range']at this
end Go.Shade
namespace Go.Shade
open Go.RowKit
variable {H : Heap} {P : Program} {op : Op} {ρ ρ' : Env}
theorem evs_congr {ρ ρ':Env}:∀{xs:List Operand},(∀x∈xs,ρ x=ρ' x)->evs ρ xs=evs ρ' xs
 | [],_=>rfl
 | x::xs,h=>by
  have ih:evs ρ xs=evs ρ' xs:=evs_congr (fun y hy=>h y (List.mem_cons_of_mem _ hy));simp only[evs,h x (by simp),ih]
theorem evps_congr {ρ ρ':Env}:∀{xs:List (Nat×Operand)},(∀x∈xs,ρ x.2=ρ' x.2)->evps ρ xs=evps ρ' xs
 | [],_=>rfl
 | (i,x)::xs,h=>by
  have ih:evps ρ xs=evps ρ' xs:=evps_congr (fun y hy=>h y (List.mem_cons_of_mem _ hy));simp only[evps,h (i,x) (by simp),ih]
theorem oneOpt_congr {x:Option Operand}(h:∀y,x=some y->ρ y=ρ' y):oneOpt ρ x=oneOpt ρ' x:=by
 cases x with
 | none=>rfl
 | some y=>simp only[oneOpt,h y rfl]
theorem iq_congr (h:∀x∈op.operands,ρ x=ρ' x):iq P H ρ op=iq P H ρ' op:=by
 unfold iq;split
 case h_24=>rfl
 all_goals simp only[Op.operands,Call.operands]at h
 all_goals first
  | (rw[h _ (by simp)];done)
  | skip
 ·rename_i c a b;simp only[h c (by simp),h a (by simp),h b (by simp)]
 ·rename_i op t x y yt;simp only[h x (by simp),h y (by simp)]
 ·rename_i fn first cap
  rw[evs_congr (ρ:=ρ) (ρ':=ρ') (xs:=first.toList) (fun x hx=>h x (by simp[Array.mem_toList_iff.1 hx])),evs_congr (ρ:=ρ) (ρ':=ρ') (xs:=cap.toList) (fun x hx=>h x (by simp[Array.mem_toList_iff.1 hx]))]
 ·rename_i t x lo hi mx;rw[h x (by simp),oneOpt_congr (ρ:=ρ) (ρ':=ρ') (x:=lo) (fun y hy=>h y (by simp[hy])),oneOpt_congr (ρ:=ρ) (ρ':=ρ') (x:=hi) (fun y hy=>h y (by simp[hy])),oneOpt_congr (ρ:=ρ) (ρ':=ρ') (x:=mx) (fun y hy=>h y (by simp[hy]))]
 ·rename_i t x i;simp only[h x (by simp),h i (by simp)]
 ·rename_i t x i;simp only[h x (by simp),h i (by simp)]
 ·rename_i t x i ok;simp only[h x (by simp),h i (by simp)]
 ·rename_i t parts;rw[evps_congr (ρ:=ρ) (ρ':=ρ') (xs:=parts.toList) (fun x hx=>h x.2 (by simp;exact⟨x.1,by simpa using hx⟩))]
 ·rename_i x ys ts;rw[h x (by simp),evs_congr (ρ:=ρ) (ρ':=ρ') (xs:=ys) (fun y hy=>h y (by simp[hy]))]
 ·rename_i x ys ts;rw[h x (by simp),evs_congr (ρ:=ρ) (ρ':=ρ') (xs:=ys) (fun y hy=>h y (by simp[hy]))]
theorem ie_congr (h:∀x∈op.operands,ρ x=ρ' x):ie P H ρ op=ie P H ρ' op:=by
 unfold ie;split
 case h_18=>rfl
 all_goals simp only[Op.operands,Call.operands]at h
 all_goals first
  | rfl
  | (rw[h _ (by simp)];done)
  | skip
 ·rename_i t len parts;rw[evps_congr (ρ:=ρ) (ρ':=ρ') (xs:=parts.toList) (fun x hx=>h x.2 (by simp;exact⟨x.1,by simpa using hx⟩))]
 ·rename_i t a x;simp only[h a (by simp),h x (by simp)]
 ·rename_i t l c;simp only[h l (by simp),h c (by simp)]
 ·rename_i t d k x;simp only[h d (by simp),h k (by simp),h x (by simp)]
 ·rename_i t d k x;simp only[h d (by simp),h k (by simp),h x (by simp)]
 ·rename_i s x t xT;simp only[h s (by simp),h x (by simp)]
 ·rename_i s x t xT;simp only[h s (by simp),h x (by simp)]
 ·rename_i s x t xT;simp only[h s (by simp),h x (by simp)]
 ·rename_i f args ts;rw[h f (by simp),evs_congr (ρ:=ρ) (ρ':=ρ') (xs:=args.toList) (fun x hx=>h x (by simp[Array.mem_toList_iff.1 hx]))]
 ·rename_i f nm args ts;rw[h f (by simp),evs_congr (ρ:=ρ) (ρ':=ρ') (xs:=args.toList) (fun x hx=>h x (by simp[Array.mem_toList_iff.1 hx]))]
theorem istep_congr (h:∀x∈op.operands,ρ x=ρ' x):istep P H ρ op=istep P H ρ' op:=by
 unfold istep;rw[iq_congr h,ie_congr h]
theorem env_congr {ts us:List IV}{x:Operand}(h:∀t,x=.tmp t->ts[t]? =us[t]?):env ts x=env us x:=by
 cases x with
 | tmp t=>simp only[env,List.getD_eq_getElem?_getD,h t rfl]
 | _=>rfl
theorem iopV_congr {O:Oracle}{ops:Array Oper}{o:Oper}{ts us:List IV}(h:∀t∈o.looksAt ops,ts[t]? =us[t]?):iopV P O ops o ts H=iopV P O ops o us H:=by
 have h1:iwanted ops o ts=iwanted ops o us:=by
  unfold iwanted;split
  ·rfl
  ·rename_i j want hg;unfold iyield
   cases hd:(ops[j]?).bind (·.dst)with
   | none=>rfl
   | some t =>
    have:ts[t]? =us[t]? :=h t (by simp[Oper.looksAt,hg,hd]);simp only[Option.bind_some,this]
 have h2:istep P H (env ts) o.op=istep P H (env us) o.op:=istep_congr (fun x hx=>env_congr (fun t ht=>h t (by
  subst ht;simp only[Oper.looksAt,List.mem_append,List.mem_filterMap];exact .inl ⟨.tmp t,by simpa using hx,rfl⟩)))
 unfold iopV;rw[h1,h2]
end Go.Shade
namespace Go.Shade
open Go.RowKit
mutual
def ivb :IV->IV->Bool
 | .bool a,.bool b=>a==b
 | .int k a,.int k' b=>k==k'&&a==b
 | .str a,.str b=>a==b
 | .ptr a b,.ptr c d=>a==c&&b==d
 | .nilPtr,.nilPtr=>true
 | .slice a b c d e f,.slice a' b' c' d' e' f'=>a==a'&&b==b'&&c==c'&&d==d'&&e==e'&&f==f'
 | .nilSlice,.nilSlice=>true
 | .map a,.map b=>a==b
 | .nilMap,.nilMap=>true
 | .func f a b,.func g c d=>f==g&&ivbs a c&&ivbs b d
 | .nilFunc,.nilFunc=>true
 | .iface t a,.iface u b=>t==u&&ivb a b
 | .nilIface,.nilIface=>true
 | .agg a,.agg b=>ivbs a b
 | .tuple a,.tuple b=>ivbs a b
 | _,_=>false
def ivbs :List IV->List IV->Bool
 | [],[]=>true
 | a::as,b::bs=>ivb a b&&ivbs as bs
 | _,_=>false
end
mutual
theorem ivb_eq :∀(a b:IV),ivb a b=true->a=b
 | .bool a,b,h=>by cases b<;>simp_all [ivb]
 | .int k a,b,h=>by cases b<;>simp_all [ivb]
 | .str a,b,h=>by cases b<;>simp_all [ivb]
 | .ptr a b,c,h=>by cases c<;>simp_all [ivb]
 | .nilPtr,b,h=>by cases b<;>simp_all [ivb]
 | .slice _ _ _ _ _ _,b,h=>by cases b<;>simp_all [ivb]
 | .nilSlice,b,h=>by cases b<;>simp_all [ivb]
 | .map a,b,h=>by cases b<;>simp_all [ivb]
 | .nilMap,b,h=>by cases b<;>simp_all [ivb]
 | .func f a b,c,h=>by
  cases c<;>simp only[ivb,Bool.and_eq_true,beq_iff_eq]at h<;>first
   | (cases h;done)
   | (obtain⟨⟨rfl,h1⟩,h2⟩:=h;rw[ivbs_eq _ _ h1,ivbs_eq _ _ h2])
 | .nilFunc,b,h=>by cases b<;>simp_all [ivb]
 | .iface t a,b,h=>by
  cases b<;>simp only[ivb,Bool.and_eq_true,beq_iff_eq]at h<;>first
   | (cases h;done)
   | (obtain⟨rfl,h1⟩:=h;rw[ivb_eq _ _ h1])
 | .nilIface,b,h=>by cases b<;>simp_all [ivb]
 | .agg a,b,h=>by
  cases b<;>simp only[ivb]at h<;>first
   | (cases h;done)
   | rw[ivbs_eq _ _ h]
 | .tuple a,b,h=>by
  cases b<;>simp only[ivb]at h<;>first
   | (cases h;done)
   | rw[ivbs_eq _ _ h]
theorem ivbs_eq :∀(a b:List IV),ivbs a b=true->a=b
 | [],b,h=>by cases b<;>simp_all [ivbs]
 | a::as,b,h=>by
  cases b with
  | nil=>simp[ivbs]at h
  | cons b bs =>
   simp only[ivbs,Bool.and_eq_true]at h;rw[ivb_eq _ _ h.1,ivbs_eq _ _ h.2]
end
mutual
theorem ivb_refl :∀(a:IV),ivb a a=true
 | .bool a=>by simp[ivb]
 | .int k a=>by simp[ivb]
 | .str a=>by simp[ivb]
 | .ptr a b=>by simp[ivb]
 | .nilPtr=>by simp[ivb]
 | .slice _ _ _ _ _ _=>by simp[ivb]
 | .nilSlice=>by simp[ivb]
 | .map a=>by simp[ivb]
 | .nilMap=>by simp[ivb]
 | .func f a b=>by simp[ivb,ivbs_refl a,ivbs_refl b]
 | .nilFunc=>by simp[ivb]
 | .iface t a=>by simp[ivb,ivb_refl a]
 | .nilIface=>by simp[ivb]
 | .agg a=>by simp[ivb,ivbs_refl a]
 | .tuple a=>by simp[ivb,ivbs_refl a]
theorem ivbs_refl :∀(a:List IV),ivbs a a=true
 | []=>by simp[ivbs]
 | a::as=>by simp[ivbs,ivb_refl a,ivbs_refl as]
end
def ivo :Option IV->IV->Bool
 | some a,b=>ivb a b
 | none,_=>false
theorem ivo_eq {a:Option IV}{b:IV}(h:ivo a b=true):a=some b:=by
 cases a with
 | none=>simp[ivo]at h
 | some a=>rw[ivb_eq a b h]
theorem ivo_refl (a:IV):ivo (some a) a=true:=ivb_refl a
def isE (P:Program):Op->Bool
 | .alloc _ | .box .. | .buildSlice .. | .store .. | .makeMap .. | .makeSlice .. | .mapUpdate .. | .insert .. =>true
 | .convert _ d _=>match P.underlying d with
  | some (.slice _)=>true
  | _=>false
 | .call { callee:=.builtin .len,.. }=>false
 | .call { callee:=.builtin .min,.. }=>false
 | .call { callee:=.builtin .max,.. }=>false
 | .call _=>true
 | _=>false
def readsH :Op->Bool
 | .load .. | .lookup .. | .slice .. | .convert .. | .call _ | .entry _=>true
 | _=>false
theorem notE {P:Program}{op:Op}(h:isE P op=false)(H:Heap)(ρ:Env):istep P H ρ op=(iq P H ρ op).bind fun v=>some (.val v,H):=by
 unfold istep
 cases hq:iq P H ρ op with
 | some v=>rfl
 | none =>
  simp only[Option.bind_none];unfold ie;split<;>first
   | rfl
   | (simp[isE]at h;done)
   | skip
  rename_i s d x;simp only[isE]at h
  cases hx:ρ x with
  | none=>rfl
  | some v =>
   simp only[Option.bind_some,ibytesOf];split<;>simp_all
theorem noRead {P:Program}{op:Op}(h:readsH op=false)(H H':Heap)(ρ:Env):iq P H ρ op=iq P H' ρ op:=by
 unfold iq;split<;>first
  | rfl
  | (simp[readsH]at h;done)
def mask (acc:List Nat):List Edge->Nat
 | []=>0
 | e::es=>if Region.binds .any e then(2 ^ e.on ||| acc.getD e.on 0) ||| mask acc es else mask acc es
def ancs :List Oper->List Nat->List Nat
 | [],acc=>acc
 | o::os,acc=>ancs os (acc++[mask acc o.after.toList])
def anc (l:List Oper)(i j:Nat):Bool:=((ancs l []).getD i 0).testBit j
def okDraw (P:Program)(ops:Array Oper):Bool :=
 let l:=ops.toList
 let A:=ancs l []
 let n:=l.length
 l.zipIdx.all fun(o,i) =>
  (o.after.toList.all fun e=> !Region.binds .any e||decide (e.on<i)) &&
  (l.zipIdx.all fun(p,j) =>
   (!(isE P o.op&&isE P p.op&&decide (i<j))||(A.getD j 0).testBit i) &&
   (i==j||o.dst.isNone|| !(o.dst==p.dst)) &&
   ((o.looksAt ops).all fun t=> !(p.dst==some t)||(i != j&&((A.getD i 0).testBit j||(A.getD j 0).testBit i))))
def loose (P:Program)(ops:Array Oper):List (Nat×Nat) :=
 let l:=ops.toList
 let A:=ancs l []
 l.zipIdx.flatMap fun(o,i)=>if isE P o.op|| !readsH o.op then []else
  l.zipIdx.filterMap fun(p,j)=>if isE P p.op&& !((A.getD i 0).testBit j)&& !((A.getD j 0).testBit i)then some (i,j)else none
end Go.Shade
