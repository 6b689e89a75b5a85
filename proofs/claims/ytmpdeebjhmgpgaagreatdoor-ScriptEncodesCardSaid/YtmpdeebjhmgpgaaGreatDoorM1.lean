/- Part 1 of the proof. -/
import Derived.Test.YtmpdeebjhmgpgaaGreatDoorM0
import Derived.Scope
import Derived.WalkKit
set_option linter.all false
namespace Go.Shade
open Go.RowKit
structure Rec where
 ts:List IV
 h:Heap
 v:IV
 h':Heap
def itrace (P:Program)(O:Oracle)(ops:Array Oper):List Oper->List IV->Heap->Option (List Rec×List IV×Heap)
 | [],ts,H=>some ([],ts,H)
 | o::os,ts,H=>(iopV P O ops o ts H).bind fun r=>(itrace P O ops os (put ts o.dst r.1) r.2).bind fun q=>some (⟨ts,H,r.1,r.2⟩::q.1,q.2)
def looseOk (P:Program)(ops:Array Oper)(recs:List Rec)(ij:Nat×Nat):Bool :=
 match ops[ij.1]?,recs[ij.1]?,recs[ij.2]? with
 | some o,some r,some s=> !(iwanted ops o r.ts)||(ivo (iq P s.h (env r.ts) o.op) r.v&&ivo (iq P s.h' (env r.ts) o.op) r.v)
 | _,_,_=>false
def idraw (P:Program)(O:Oracle)(ops:Array Oper)(ts:List IV)(H:Heap):Option (List IV×Heap) :=
 if okDraw P ops then
  match loose P ops with
  | []=>iops P O ops ops.toList ts H
  | p::ps=>(itrace P O ops ops.toList ts H).bind fun q=>if(p::ps).all (looseOk P ops q.1)then some q.2 else none
 else none
theorem iops_trace {P:Program}{O:Oracle}{ops:Array Oper}:∀{os:List Oper} {ts:List IV} {H:Heap} {r:List IV×Heap},iops P O ops os ts H=some r->∃recs,itrace P O ops os ts H=some (recs,r)
 | [],ts,H,r,h=>by simp only[iops]at h;cases h;exact⟨[],rfl⟩
 | o::os,ts,H,r,h=>by
  simp only[iops]at h;obtain⟨q,h1,h2⟩:=obs h;obtain⟨recs,h3⟩:=iops_trace h2;exact⟨⟨ts,H,q.1,q.2⟩::recs,by simp[itrace,h1,h3]⟩
structure Walk (P:Program)(O:Oracle)(ops:Array Oper)(l:List Oper)(ts:List IV)(H:Heap)(ts':List IV)(H':Heap)(S:Nat->List IV×Heap)(V:Nat->IV):Prop where
 start:S 0=(ts,H)
 stop:S l.length=(ts',H')
 op:∀i o,l[i]? =some o->iopV P O ops o (S i).1 (S i).2=some (V i,(S (i+1)).2)
 slots:∀i o,l[i]? =some o->(S (i+1)).1=put (S i).1 o.dst (V i)
def stAt (recs:List Rec)(e:List IV×Heap)(i:Nat):List IV×Heap:=match recs[i]? with
 | some r=>(r.ts,r.h)
 | none=>e
def vAt (recs:List Rec)(i:Nat):IV:=match recs[i]? with
 | some r=>r.v
 | none=>.nilPtr
theorem walk_of {P:Program}{O:Oracle}{ops:Array Oper}:∀{os:List Oper} {ts:List IV} {H:Heap} {recs:List Rec} {e:List IV×Heap},itrace P O ops os ts H=some (recs,e) ->
  recs.length=os.length/\Walk P O ops os ts H e.1 e.2 (stAt recs e) (vAt recs)/\∀i r,recs[i]? =some r->r.h'=(stAt recs e (i+1)).2
 | [],ts,H,recs,e,h=>by
  simp only[itrace]at h;cases h
  exact⟨rfl,⟨rfl,rfl,by simp,by simp⟩,by simp⟩
 | o::os,ts,H,recs,e,h=>by
  simp only[itrace]at h;obtain⟨q,h1,h2⟩:=obs h;obtain⟨⟨recs',e'⟩,h3,h4⟩:=obs h2
  cases h4
  obtain⟨g1,g2,g3⟩:=walk_of h3;have hs:∀i,stAt (⟨ts,H,q.1,q.2⟩::recs') e' (i+1)=stAt recs' e' i:=fun i=>by simp[stAt]
  have hv:∀i,vAt (⟨ts,H,q.1,q.2⟩::recs') (i+1)=vAt recs' i:=fun i=>by simp[vAt]
  refine⟨by simp[g1],⟨rfl,by rw[List.length_cons,hs];exact g2.stop,fun i o' hi=> ?_,fun i o' hi=> ?_⟩,fun i r hi=> ?_⟩
  ·cases i with
   | zero =>
    simp at hi;subst hi;rw[hs,g2.start];exact h1
   | succ i=>rw[hs,hs,hv];exact g2.op i o' (by simpa using hi)
  ·cases i with
   | zero =>
    simp at hi;subst hi;rw[hs,g2.start];rfl
   | succ i=>rw[hs,hs,hv];exact g2.slots i o' (by simpa using hi)
  ·cases i with
   | zero =>
    simp at hi;subst hi;rw[hs,g2.start]
   | succ i=>rw[hs];exact g3 i r (by simpa using hi)
structure Looks (P:Program)(ops:Array Oper)(A:Nat->Nat->Bool):Prop where
 edge:∀(i:Nat) (o:Oper),ops[i]? =some o->∀e∈o.after,Region.binds .any e=true->e.on<i
 anc:∀(i:Nat) (o:Oper),ops[i]? =some o->∀j,A i j=true->∃e∈o.after,Region.binds .any e=true/\(e.on=j∨A e.on j=true)
 eff:∀(i j:Nat) (o p:Oper),ops[i]? =some o->ops[j]? =some p->isE P o.op=true->isE P p.op=true->i<j->A j i=true
 dst:∀(i j:Nat) (o p:Oper) (t:Tmp),ops[i]? =some o->ops[j]? =some p->i≠j->o.dst=some t->p.dst≠some t
 look:∀(i j:Nat) (o p:Oper) (t:Tmp),ops[i]? =some o->ops[j]? =some p->t∈o.looksAt ops->p.dst=some t->i≠j/\(A i j=true∨A j i=true)
theorem mask_spec {acc:List Nat}{j:Nat}:∀{es:List Edge},(mask acc es).testBit j=true->∃e∈es,Region.binds .any e=true/\(e.on=j∨(acc.getD e.on 0).testBit j=true)
 | [],h=>by simp[mask]at h
 | e::es,h=>by
  simp only[mask]at h;split at h
  ·rename_i hb;rw[Nat.testBit_or,Nat.testBit_or,Nat.testBit_two_pow]at h;simp only[Bool.or_eq_true,decide_eq_true_eq]at h;rcases h with(h | h) | h
   ·exact⟨e,by simp,hb,.inl h⟩
   ·exact⟨e,by simp,hb,.inr h⟩
   ·obtain⟨e',h1,h2⟩:=mask_spec h;exact⟨e',by simp[h1],h2⟩
  ·obtain⟨e',h1,h2⟩:=mask_spec h;exact⟨e',by simp[h1],h2⟩
theorem ancs_prefix :∀(os:List Oper) (acc:List Nat) (k:Nat),k<acc.length->(ancs os acc).getD k 0=acc.getD k 0
 | [],acc,k,_=>rfl
 | o::os,acc,k,h=>by
  simp only[ancs];rw[ancs_prefix os _ k (by simp;omega)];simp[List.getD_eq_getElem?_getD,List.getElem?_append_left h]
theorem ancs_spec :∀(os:List Oper) (acc:List Nat) (i:Nat) (o:Oper),os[i]? =some o->(∀e∈o.after.toList,Region.binds .any e=true->e.on<acc.length+i) ->
  ∀j,((ancs os acc).getD (acc.length+i) 0).testBit j=true->∃e∈o.after.toList,Region.binds .any e=true/\(e.on=j∨((ancs os acc).getD e.on 0).testBit j=true)
 | [],acc,i,o,h,_,j,_=>by simp at h
 | p::os,acc,i,o,h,he,j,hj=>by
  simp only[ancs]at hj ⊢
  cases i with
  | zero =>
   simp at h;subst h;rw[ancs_prefix _ _ _ (by simp)]at hj;simp only[Nat.add_zero,List.getD_eq_getElem?_getD,List.getElem?_append_right (Nat.le_refl _),Nat.sub_self]at hj;simp at hj;obtain⟨e,h1,h2,h3⟩:=mask_spec hj;refine⟨e,h1,h2,?_⟩;rcases h3 with h3 | h3
   ·exact .inl h3
   ·right;have hlt:=he e h1 h2;rw[ancs_prefix _ _ _ (by simp;omega)];rw[List.getD_eq_getElem?_getD,List.getElem?_append_left (by omega),←List.getD_eq_getElem?_getD];exact h3
  | succ i =>
   have hl:(acc++[mask acc p.after.toList]).length+i=acc.length+(i+1):=by simp;omega
   have:=ancs_spec os (acc++[mask acc p.after.toList]) i o (by simpa using h) (fun e h1 h2=>by have:=he e h1 h2;omega) j (by rw[hl];exact hj);exact this
theorem okDraw_looks {P:Program}{ops:Array Oper}(h:okDraw P ops=true):Looks P ops (fun i j=>((ancs ops.toList []).getD i 0).testBit j):=by
 unfold okDraw at h;simp only[List.all_eq_true,Bool.and_eq_true]at h;have hm:∀{i:Nat} {o:Oper},ops[i]? =some o->(o,i)∈ops.toList.zipIdx:=by
  intro i o hi;rw[List.mem_zipIdx_iff_getElem?];simpa using hi
 have hedge:∀(i:Nat) (o:Oper),ops[i]? =some o->∀e∈o.after,Region.binds .any e=true->e.on<i:=by
  intro i o hi e he hb;have:=(h (o,i) (hm hi)).1 e (by simpa using he);simp only[hb,Bool.not_true,Bool.false_or,decide_eq_true_eq]at this;exact this
 refine⟨hedge,fun i o hi j hj=> ?_,fun i j o p hi hj ho hp hlt=> ?_,fun i j o p t hi hj hne ht hp=> ?_,fun i j o p t hi hj ht hp=> ?_⟩
 ·have:=ancs_spec ops.toList [] i o (by simpa using hi) (fun e h1 h2=>by simpa using hedge i o hi e (by simpa using h1) h2) j (by simpa using hj);obtain⟨e,h1,h2,h3⟩:=this;exact⟨e,by simpa using h1,h2,h3⟩
 ·have:=((h (o,i) (hm hi)).2 (p,j) (hm hj)).1.1;simp only[ho,hp,hlt,decide_true,Bool.and_self,Bool.not_true,Bool.false_or]at this;exact this
 ·have:=((h (o,i) (hm hi)).2 (p,j) (hm hj)).1.2;simp[ht,hp,hne]at this
 ·have:=((h (o,i) (hm hi)).2 (p,j) (hm hj)).2 t ht;simp only[hp,BEq.rfl,Bool.not_true,Bool.false_or,Bool.and_eq_true,bne_iff_ne,ne_eq,Bool.or_eq_true]at this;exact this
end Go.Shade
namespace Go.Shade
open Go.RowKit
variable {i : Nat}
section
variable {P : Program} {O : Oracle} {ops : Array Oper} {A : Nat -> Nat -> Bool} {ts ts' : List IV} {H H' : Heap} {S : Nat -> List IV × Heap} {V : Nat -> IV}
theorem put_length (ts:List IV)(d:Option Tmp)(v:IV):(put ts d v).length=ts.length:=by cases d<;>simp[put]
theorem put_same {ts:List IV}{t:Tmp}{v:IV}(h:t<ts.length):(put ts (some t) v)[t]? =some v:=by simp[put,h]
theorem put_other {ts:List IV}{d:Option Tmp}{t:Tmp}{v:IV}(h:d≠some t):(put ts d v)[t]? =ts[t]? :=by
 cases d with
 | none=>rfl
 | some d=>simp only[put];rw[List.getElem?_set_ne];exact fun e=>h (by rw[e])
theorem walk_slots (L:Looks P ops A)(W:Walk P O ops ops.toList ts H ts' H' S V):∀k,k<=ops.size ->
  (S k).1.length=ts.length/\(∀(j:Nat) p t,j<k->ops[j]? =some p->p.dst=some t->t<ts.length->(S k).1[t]? =some (V j)) /\
  (∀t,(∀(j:Nat) p,j<k->ops[j]? =some p->p.dst≠some t)->(S k).1[t]? =ts[t]?)
 | 0,_=>by rw[W.start];exact⟨rfl,fun j p t h=>by omega,fun t _=>rfl⟩
 | k+1,hk=>by
  obtain⟨h1,h2,h3⟩:=walk_slots L W k (by omega);obtain⟨o,ho⟩:∃o,ops[k]? =some o:=⟨ops[k],Array.getElem?_eq_getElem (by omega)⟩;have hs:=W.slots k o (by simpa using ho);rw[hs];refine⟨by rw[put_length,h1],fun j p t hj hp ht hlt=> ?_,fun t hno=> ?_⟩
  ·by_cases e:j=k
   ·subst e;rw[ho]at hp;cases hp
    rw[ht];exact put_same (by rw[h1];exact hlt)
   ·rw[put_other (L.dst j k p o t hp ho e ht)];exact h2 j p t (by omega) hp ht hlt
  ·rw[put_other (hno k o (by omega) ho)];exact h3 t (fun j p hj hp=>hno j p (by omega) hp)
theorem walk_still (W:Walk P O ops ops.toList ts H ts' H' S V){o:Oper}(ho:ops[i]? =some o)(he:isE P o.op=false):(S (i+1)).2=(S i).2:=by
 have h:=W.op i o (by simpa using ho);unfold iopV at h;rw[notE he]at h;split at h
 ·cases hq:iq P (S i).2 (env (S i).1) o.op with
  | none=>simp[hq]at h
  | some v=>simp[hq]at h;exact h.2.symm
 ·simp at h;exact h.2.symm
theorem walk_between (W:Walk P O ops ops.toList ts H ts' H' S V)(a:Nat):∀b,a<=b->b<=ops.size->(∀(e:Nat) p,a<=e->e<b->ops[e]? =some p->isE P p.op=false)->(S b).2=(S a).2:=by
 intro b
 induction b with
 | zero => intro h1 _ _;have:a=0:=by omega
           subst this;rfl
 | succ b ih =>
  intro hab hb hno;by_cases e:a=b+1
  ·rw[e]
  ·obtain⟨o,ho⟩:∃o,ops[b]? =some o:=⟨ops[b],Array.getElem?_eq_getElem (by omega)⟩;rw[walk_still W ho (hno b o (by omega) (by omega) ho)];exact ih (by omega) (by omega) (fun e p h1 h2=>hno e p h1 (by omega))
structure Inv (P:Program)(ops:Array Oper)(ts:List IV)(H:Heap)(S:Nat->List IV×Heap)(V:Nat->IV)(listed:Array Bool)(tsc:List IV)(Hc:Heap):Prop where
 size:listed.size=ops.size
 closed:∀(i:Nat) (o:Oper),ops[i]? =some o->listed.getD i false=true->∀e∈o.after,Region.binds .any e=true->listed.getD e.on false=true
 len:tsc.length=ts.length
 cur1:∀(j:Nat) (p:Oper) (t:Tmp),ops[j]? =some p->listed.getD j false=true->p.dst=some t->t<ts.length->tsc[t]? =some (V j)
 cur2:∀(t:Tmp),(∀(j:Nat) (p:Oper),ops[j]? =some p->listed.getD j false=true->p.dst≠some t)->tsc[t]? =ts[t]?
 heap:(∃(e:Nat) (p:Oper),ops[e]? =some p/\isE P p.op=true/\listed.getD e false=true/\(∀(e':Nat) (p':Oper),ops[e']? =some p'->isE P p'.op=true->listed.getD e' false=true->e'<=e)/\Hc=(S (e+1)).2)∨
  ((∀(e:Nat) (p:Oper),ops[e]? =some p->isE P p.op=true->listed.getD e false=false)/\Hc=H)
theorem Inv.anc {listed:Array Bool}{tsc:List IV}{Hc:Heap}(L:Looks P ops A)(I:Inv P ops ts H S V listed tsc Hc):∀(i:Nat) (o:Oper),ops[i]? =some o->(∀e∈o.after,Region.binds .any e=true->listed.getD e.on false=true)->∀j,A i j=true->listed.getD j false=true:=by
 intro i
 induction i using Nat.strongRecOn with
 | _ i ih =>
  intro o ho hed j hj;obtain⟨e,h1,h2,h3⟩:=L.anc i o ho j hj;rcases h3 with h3 | h3
  ·rw[←h3];exact hed e h1 h2
  ·have hlt:=L.edge i o ho e h1 h2;have hin:i<ops.size:=(Array.getElem?_eq_some_iff.1 ho).1;obtain⟨p,hp⟩:∃p,ops[e.on]? =some p:=⟨ops[e.on],Array.getElem?_eq_getElem (by omega)⟩;exact ih e.on hlt p hp (I.closed e.on p hp (hed e h1 h2)) j h3
theorem Inv.reads {listed:Array Bool}{tsc:List IV}{Hc:Heap}(L:Looks P ops A)(W:Walk P O ops ops.toList ts H ts' H' S V)(I:Inv P ops ts H S V listed tsc Hc)
  {i:Nat} {o:Oper} (ho:ops[i]? =some o) (hi:listed.getD i false=false) (hanc:∀j,A i j=true->listed.getD j false=true) (he:isE P o.op=false)
  (lo:∀(j:Nat) (p:Oper),ops[j]? =some p->isE P p.op=true->A i j=false->A j i=false->iq P (S j).2 (env (S i).1) o.op=some (V i)/\iq P (S (j+1)).2 (env (S i).1) o.op=some (V i))
  (h0:iq P (S i).2 (env (S i).1) o.op=some (V i)):iq P Hc (env (S i).1) o.op=some (V i):=by
 have hin:i<ops.size:=(Array.getElem?_eq_some_iff.1 ho).1;have noA:∀(j:Nat) (p:Oper),ops[j]? =some p->listed.getD j false=true->A j i=false:=by
  intro j p hp hj
  cases hA:A j i with
  | false=>rfl
  | true =>
   have:=I.anc L j p hp (I.closed j p hp hj) i hA;rw[hi]at this;cases this
 have small:∀a b,A a b=true->(∃o,ops[a]? =some o)->b<a:=by
  intro a
  induction a using Nat.strongRecOn with
  | _ a ih =>
   intro b hb ⟨oa,hoa⟩;obtain⟨e,h1,h2,h3⟩:=L.anc a oa hoa b hb;have hlt:=L.edge a oa hoa e h1 h2;rcases h3 with h3 | h3
   ·omega
   ·have hin:a<ops.size:=(Array.getElem?_eq_some_iff.1 hoa).1;have:=ih e.on hlt b h3 ⟨ops[e.on],Array.getElem?_eq_getElem (by omega)⟩;omega
 have fwd:∀b,b<=i->(∀(e:Nat) p,b<=e->e<i->ops[e]? =some p->isE P p.op=true->listed.getD e false=false)->iq P (S b).2 (env (S i).1) o.op=some (V i):=by
  intro b hb hno;by_cases hex:∃e p,b<=e/\e<i/\ops[e]? =some p/\isE P p.op=true
  ·
   have:∃e,(∃p,b<=e/\e<i/\ops[e]? =some p/\isE P p.op=true)/\∀e',e'<e->¬(∃p,b<=e'/\e'<i/\ops[e']? =some p/\isE P p.op=true):=by
    obtain⟨e,he⟩:=hex
    induction e using Nat.strongRecOn with
    | _ e ih =>
     by_cases hs:∃e',e'<e/\∃p,b<=e'/\e'<i/\ops[e']? =some p/\isE P p.op=true
     ·obtain⟨e',h1,h2⟩:=hs;exact ih e' h1 h2
     ·exact⟨e,he,fun e' h1 h2=>hs ⟨e',h1,h2⟩⟩
   obtain⟨e,⟨p,h1,h2,h3,h4⟩,h5⟩:=this;have hbe:(S e).2=(S b).2:=walk_between W b e h1 (by omega) (fun e' p' g1 g2 g3=>by
    cases hE:isE P p'.op with
    | false=>rfl
    | true=>exact absurd ⟨p',g1,by omega,g3,hE⟩ (h5 e' g2))
   rw[←hbe];have hel:=hno e p h1 h2 h3 h4;refine(lo e p h3 h4 ?_ ?_).1
   ·cases hA:A i e with
    | false=>rfl
    | true=>have:=hanc e hA;rw[hel]at this;cases this
   ·cases hA:A e i with
    | false=>rfl
    | true=>have:=small e i hA ⟨p,h3⟩;omega
  ·have hbe:(S i).2=(S b).2:=walk_between W b i hb (by omega) (fun e' p' g1 g2 g3=>by
    cases hE:isE P p'.op with
    | false=>rfl
    | true=>exact absurd ⟨e',p',g1,g2,g3,hE⟩ hex)
   rw[←hbe];exact h0
 rcases I.heap with⟨e,p,h1,h2,h3,h4,rfl⟩ | ⟨h1,rfl⟩
 ·by_cases hlt:e<i
  ·exact fwd (e+1) (by omega) (fun e' p' g1 g2 g3 g4=>by
    cases hl:listed.getD e' false with
    | false=>rfl
    | true=>have:=h4 e' p' g3 g4 hl;omega)
  ·have hne:e≠i:=fun h=>by subst h;rw[hi]at h3;cases h3
   refine(lo e p h1 h2 ?_ (noA e p h1 h3)).2
   cases hA:A i e with
   | false=>rfl
   | true=>have:=small i e hA ⟨o,ho⟩;omega
 ·have:=fwd 0 (by omega) (fun e p _ _ g3 g4=>h1 e p g3 g4)
  rwa [W.start]at this
theorem getD_true_false {l:Array Bool}(h:i<l.size):l.getD i true=l.getD i false:=by
 simp[Array.getD_eq_getD_getElem?,Array.getElem?_eq_getElem h]
theorem set_getD {l:Array Bool}{j:Nat}(hi:i<l.size):(l.setIfInBounds i true).getD j false=if i=j then true else l.getD j false:=by
 simp only[Array.getD_eq_getD_getElem?,Array.getElem?_setIfInBounds];by_cases e:i=j
 ·subst e;simp[hi]
 ·simp[e]
theorem Inv.step {listed:Array Bool}{tsc:List IV}{Hc:Heap}(L:Looks P ops A)(W:Walk P O ops ops.toList ts H ts' H' S V)(I:Inv P ops ts H S V listed tsc Hc)
  {i:Nat} {o:Oper} (ho:ops[i]? =some o) (hi:listed.getD i false=false) (hed:∀e∈o.after,Region.binds .any e=true->listed.getD e.on false=true)
  (lo:isE P o.op=false->readsH o.op=true->iwanted ops o (S i).1=true->∀(j:Nat) (p:Oper),ops[j]? =some p->isE P p.op=true->A i j=false->A j i=false->iq P (S j).2 (env (S i).1) o.op=some (V i)/\iq P (S (j+1)).2 (env (S i).1) o.op=some (V i)) :
  ∃Hn,iopV P O ops o tsc Hc=some (V i,Hn)/\Inv P ops ts H S V (listed.setIfInBounds i true) (put tsc o.dst (V i)) Hn:=by
 have hin:i<ops.size:=(Array.getElem?_eq_some_iff.1 ho).1;have hil:i<listed.size:=by rw[I.size];exact hin
 have hanc:=I.anc L i o ho hed;obtain⟨s1,s2,s3⟩:=walk_slots L W i (by omega);have small:∀a b,A a b=true->(∃o,ops[a]? =some o)->b<a:=by
  intro a
  induction a using Nat.strongRecOn with
  | _ a ih =>
   intro b hb ⟨oa,hoa⟩;obtain⟨e,h1,h2,h3⟩:=L.anc a oa hoa b hb;have hlt:=L.edge a oa hoa e h1 h2;rcases h3 with h3 | h3
   ·omega
   ·have hin:a<ops.size:=(Array.getElem?_eq_some_iff.1 hoa).1;have:=ih e.on hlt b h3 ⟨ops[e.on],Array.getElem?_eq_getElem (by omega)⟩;omega
 have hlook:∀t∈o.looksAt ops,tsc[t]? =(S i).1[t]? :=by
  intro t ht;by_cases htl:t<ts.length
  ·by_cases hw:∃(j:Nat) (p:Oper),ops[j]? =some p/\p.dst=some t
   ·obtain⟨j,p,hp,hd⟩:=hw;obtain⟨hne,hA⟩:=L.look i j o p t ho hp ht hd;have uniq:∀(k:Nat) (q:Oper),ops[k]? =some q->q.dst=some t->k=j:=by
     intro k q hq hqd;by_cases e:k=j
     ·exact e
     ·exact absurd hd (L.dst k j q p t hq hp e hqd)
    rcases hA with hA | hA
    ·have hlt:=small i j hA ⟨o,ho⟩;rw[I.cur1 j p t hp (hanc j hA) hd htl,s2 j p t hlt hp hd htl]
    ·have hlt:=small j i hA ⟨p,hp⟩;have hjl:listed.getD j false=false:=by
      cases hl:listed.getD j false with
      | false=>rfl
      | true =>
       have:=I.anc L j p hp (I.closed j p hp hl) i hA;rw[hi]at this;cases this
     rw[I.cur2 t (fun k q hq hl hqd=>by have:=uniq k q hq hqd;subst this;rw[hjl]at hl;cases hl),
      s3 t (fun k q hk hq hqd=>by have:=uniq k q hq hqd;omega)]
   ·rw[I.cur2 t (fun k q hq _ hqd=>hw ⟨k,q,hq,hqd⟩),s3 t (fun k q _ hq hqd=>hw ⟨k,q,hq,hqd⟩)]
  ·have hge:ts.length<=t:=Nat.le_of_not_lt htl;rw[List.getElem?_eq_none (by rw[I.len];exact hge),List.getElem?_eq_none (by rw[s1];exact hge)]
 have hop:=W.op i o (by simpa using ho);have hlen:(put tsc o.dst (V i)).length=ts.length:=by rw[put_length,I.len]
 have hsz:(listed.setIfInBounds i true).size=ops.size:=by simpa using I.size
 have hclosed:∀(k:Nat) (q:Oper),ops[k]? =some q->(listed.setIfInBounds i true).getD k false=true->∀e∈q.after,Region.binds .any e=true->(listed.setIfInBounds i true).getD e.on false=true:=by
  intro k q hq hk e he hb;rw[set_getD hil]at hk ⊢;by_cases ek:i=k
  ·subst ek;rw[ho]at hq;cases hq
   by_cases e2:i=e.on
   ·rw[if_pos e2]
   ·rw[if_neg e2];exact hed e he hb
  ·rw[if_neg ek]at hk;by_cases e2:i=e.on
   ·rw[if_pos e2]
   ·rw[if_neg e2];exact I.closed k q hq hk e he hb
 have hcur1:∀(j:Nat) (p:Oper) (t:Tmp),ops[j]? =some p->(listed.setIfInBounds i true).getD j false=true->p.dst=some t->t<ts.length->(put tsc o.dst (V i))[t]? =some (V j):=by
  intro j p t hp hj hd htl;rw[set_getD hil]at hj;by_cases e:i=j
  ·subst e;rw[ho]at hp;cases hp
   rw[hd];exact put_same (by rw[I.len];exact htl)
  ·rw[if_neg e]at hj;rw[put_other (L.dst j i p o t hp ho (Ne.symm e) hd)];exact I.cur1 j p t hp hj hd htl
 have hcur2:∀(t:Tmp),(∀(j:Nat) (p:Oper),ops[j]? =some p->(listed.setIfInBounds i true).getD j false=true->p.dst≠some t)->(put tsc o.dst (V i))[t]? =ts[t]? :=by
  intro t hno;rw[put_other (hno i o ho (by rw[set_getD hil,if_pos rfl]))];refine I.cur2 t (fun j p hp hj=>hno j p hp ?_);rw[set_getD hil];split<;>simp_all
 cases hE:isE P o.op with
 | true =>
  have hHc:Hc=(S i).2:=by
   rcases I.heap with⟨e,p,h1,h2,h3,h4,rfl⟩ | ⟨h1,rfl⟩
   ·have hei:e<i:=by
     rcases Nat.lt_or_ge e i with h | h
     ·exact h
     ·have hne:e≠i:=fun h=>by subst h;rw[hi]at h3;cases h3
      have hA:=L.eff i e o p ho h1 hE h2 (by omega);have:=I.anc L e p h1 (I.closed e p h1 h3) i hA;rw[hi]at this;cases this
    refine(walk_between W (e+1) i (by omega) (by omega) (fun e' p' g1 g2 g3=> ?_)).symm
    cases hE':isE P p'.op with
    | false=>rfl
    | true =>
     have hA:=L.eff e' i p' o g3 ho hE' hE g2;have:=h4 e' p' g3 hE' (hanc e' hA);omega
   ·have:=walk_between W 0 i (by omega) (by omega) (fun e' p' g1 g2 g3=>by
     cases hE':isE P p'.op with
     | false=>rfl
     | true =>
      have hA:=L.eff e' i p' o g3 ho hE' hE g2;have h2:=h1 e' p' g3 hE';rw[hanc e' hA]at h2;cases h2)
    rw[this,W.start]
  refine⟨(S (i+1)).2,?_,hsz,hclosed,hlen,hcur1,hcur2,.inl ⟨i,o,ho,hE,by rw[set_getD hil,if_pos rfl],fun e' p' g1 g2 g3=> ?_,rfl⟩⟩
  ·rw[iopV_congr hlook,hHc];exact hop
  ·rw[set_getD hil]at g3;by_cases e:i=e'
   ·omega
   ·rw[if_neg e]at g3;rcases Nat.lt_or_ge i e' with h | h
    ·have hA:=L.eff i e' o p' ho g1 hE g2 h;have:=I.anc L e' p' g1 (I.closed e' p' g1 g3) i hA;rw[hi]at this;cases this
    ·exact h
 | false =>
  refine⟨Hc,?_,hsz,hclosed,hlen,hcur1,hcur2,?_⟩
  ·rw[iopV_congr hlook];unfold iopV at hop ⊢;rw[notE hE]at hop ⊢;by_cases hw:iwanted ops o (S i).1=true
   ·rw[if_pos hw]at hop ⊢;have h0:iq P (S i).2 (env (S i).1) o.op=some (V i):=by
     cases hq:iq P (S i).2 (env (S i).1) o.op with
     | none=>simp[hq]at hop
     | some v=>simp[hq]at hop;rw[hop.1]
    have h1:iq P Hc (env (S i).1) o.op=some (V i):=by
     cases hr:readsH o.op with
     | false=>rw[noRead hr Hc (S i).2];exact h0
     | true=>exact I.reads L W ho hi hanc hE (lo hE hr hw) h0
    rw[h1];rfl
   ·rw[if_neg hw]at hop ⊢;simp at hop;rw[←hop.1]
  ·rcases I.heap with⟨e,p,h1,h2,h3,h4,h5⟩ | ⟨h1,h2⟩
   ·refine .inl ⟨e,p,h1,h2,by rw[set_getD hil];split<;>simp_all,fun e' p' g1 g2 g3=> ?_,h5⟩;rw[set_getD hil]at g3;by_cases ee:i=e'
    ·subst ee;rw[ho]at g1;cases g1;rw[hE]at g2;cases g2
    ·rw[if_neg ee]at g3;exact h4 e' p' g1 g2 g3
   ·refine .inr ⟨fun e p g1 g2=> ?_,h2⟩;rw[set_getD hil];by_cases ee:i=e
    ·subst ee;rw[ho]at g1;cases g1;rw[hE]at g2;cases g2
    ·rw[if_neg ee];exact h1 e p g1 g2
end
end Go.Shade
namespace Go.Shade
open Go.RowKit
variable {i : Nat} {listed : Array Bool}
def open_ (n:Nat)(listed:Array Bool):Nat:=(List.range n).countP fun i=> !listed.getD i false
theorem countP_lt {l:List Nat}(hn:l.Nodup){p q:Nat->Bool}(hi:i∈l)(hp:p i=true)(hq:q i=false)(h:∀j,j≠i->q j=p j):l.countP q+1=l.countP p:=by
 induction l with
 | nil=>cases hi
 | cons a l ih =>
  rw[List.nodup_cons]at hn;by_cases e:a=i
  ·subst e;have:l.countP q=l.countP p:=List.countP_congr (fun j hj=>by
    have hne:j≠a:=fun e=>by subst e;exact hn.1 hj
    rw[h j hne])
   rw[List.countP_cons_of_neg (by simp[hq]),List.countP_cons_of_pos hp,this]
  ·have hi':i∈l:=by
    cases hi with
    | head=>exact absurd rfl e
    | tail _ h=>exact h
   have:=ih hn.2 hi';by_cases hpa:p a=true
   ·rw[List.countP_cons_of_pos hpa,List.countP_cons_of_pos (by rw[h a e];exact hpa)];omega
   ·rw[List.countP_cons_of_neg hpa,List.countP_cons_of_neg (by rw[h a e];exact hpa)];omega
theorem open_set {n:Nat}(hs:listed.size=n)(hi:i<n)(h:listed.getD i false=false):open_ n (listed.setIfInBounds i true)+1=open_ n listed:=by
 refine countP_lt List.nodup_range (by simpa using hi) (by simp[h]) (by rw[set_getD (by omega)];simp) (fun j hj=>by rw[set_getD (by omega),if_neg (Ne.symm hj)])
section
variable {P : Program} {O : Oracle} {ops : Array Oper} {A : Nat -> Nat -> Bool} {ts ts' : List IV} {H H' : Heap} {S : Nat -> List IV × Heap} {V : Nat -> IV}
theorem ready_mem (hs:listed.size=ops.size):i∈Region.ready .any ops listed↔
  ∃o,ops[i]? =some o/\listed.getD i false=false/\∀e∈o.after,Region.binds .any e=true->listed.getD e.on false=true:=by
 unfold Region.ready;simp only[List.mem_filter,List.mem_range,Bool.and_eq_true,Bool.not_eq_true'];constructor
 ·rintro⟨h1,h2,h3⟩;rw[Array.getElem?_eq_getElem h1]at h3;rw[getD_true_false (by omega)]at h2;refine⟨ops[i],Array.getElem?_eq_getElem h1,h2,fun e he hb=> ?_⟩;simp only[Option.map_some,Option.getD_some,Array.all_eq_true_iff_forall_mem]at h3;have:=h3 e he
  simpa[hb]using this
 ·rintro⟨o,h1,h2,h3⟩;have hin:i<ops.size:=(Array.getElem?_eq_some_iff.1 h1).1;refine⟨hin,by rw[getD_true_false (by omega)];exact h2,?_⟩;rw[h1];simp only[Option.map_some,Option.getD_some,Array.all_eq_true_iff_forall_mem];intro e he
  cases hb:Region.binds .any e with
  | false=>rfl
  | true=>simpa[hb]using h3 e he hb
theorem Inv.over {tsc:List IV}{Hc:Heap}(L:Looks P ops A)(W:Walk P O ops ops.toList ts H ts' H' S V)(I:Inv P ops ts H S V listed tsc Hc)(hr:Region.ready .any ops listed=[]):tsc=ts'/\Hc=H':=by
 have hall:∀i,i<ops.size->listed.getD i false=true:=by
  intro i
  induction i using Nat.strongRecOn with
  | _ i ih =>
   intro hi
   cases hl:listed.getD i false with
   | true=>rfl
   | false =>
    have:i∈Region.ready .any ops listed:=(ready_mem I.size).2 ⟨ops[i],Array.getElem?_eq_getElem hi,hl,fun e he hb=>by
     have hlt:=L.edge i ops[i] (Array.getElem?_eq_getElem hi) e he hb;exact ih e.on hlt (by omega)⟩
    rw[hr]at this;cases this
 have hstop:=W.stop;rw[Array.length_toList]at hstop;obtain⟨s1,s2,s3⟩:=walk_slots L W ops.size (Nat.le_refl _);have h1:(S ops.size).1=ts':=by rw[hstop]
 have h2:(S ops.size).2=H':=by rw[hstop]
 constructor
 ·rw[←h1];apply List.ext_getElem?;intro t;by_cases htl:t<ts.length
  ·by_cases hw:∃(j:Nat) (p:Oper),ops[j]? =some p/\p.dst=some t
   ·obtain⟨j,p,hp,hd⟩:=hw;have hj:j<ops.size:=(Array.getElem?_eq_some_iff.1 hp).1;rw[I.cur1 j p t hp (hall j hj) hd htl,s2 j p t hj hp hd htl]
   ·rw[I.cur2 t (fun k q hq _ hqd=>hw ⟨k,q,hq,hqd⟩),s3 t (fun k q _ hq hqd=>hw ⟨k,q,hq,hqd⟩)]
  ·rw[List.getElem?_eq_none (by rw[I.len];omega),List.getElem?_eq_none (by rw[s1];omega)]
 ·rw[←h2];rcases I.heap with⟨e,p,g1,g2,g3,g4,rfl⟩ | ⟨g1,rfl⟩
  ·have hin:e<ops.size:=(Array.getElem?_eq_some_iff.1 g1).1;refine(walk_between W (e+1) ops.size (by omega) (Nat.le_refl _) (fun e' p' k1 k2 k3=> ?_)).symm
   cases hE:isE P p'.op with
   | false=>rfl
   | true=>have:=g4 e' p' k3 hE (hall e' k2);omega
  ·have:=walk_between W 0 ops.size (by omega) (Nat.le_refl _) (fun e' p' k1 k2 k3=>by
    cases hE:isE P p'.op with
    | false=>rfl
    | true=>have h:=g1 e' p' k3 hE;rw[hall e' k2]at h;cases h)
   rw[this,W.start]
theorem wp_any {Q:Exit->Act->World->Prop}(hφ:Sound P O)(L:Looks P ops A)(W:Walk P O ops ops.toList ts H ts' H' S V)(lo:∀(i:Nat) (o:Oper),ops[i]? =some o->isE P o.op=false->readsH o.op=true->iwanted ops o (S i).1=true->∀(j:Nat) (p:Oper),ops[j]? =some p->isE P p.op=true->A i j=false->A j i=false->iq P (S j).2 (env (S i).1) o.op=some (V i)/\iq P (S (j+1)).2 (env (S i).1) o.op=some (V i)){B0:Nat}{w0:World}:∀(fuel:Nat) (listed:Array Bool) (tsc:List IV) (Hc:Heap) (m:Mp) (a:Act) (w:World),Inv P ops ts H S V listed tsc Hc->open_ ops.size listed<=fuel->Rel B0 w0 m Hc w->TR m tsc a ->
   (∀m' a' w',Ext m m'->Rel B0 w0 m' H' w'->TR m' ts' a'->Q .normal a' w')->wpAny P .any ops Q fuel listed a w:=by
 have fin:∀(listed:Array Bool) (tsc:List IV) (Hc:Heap) (m:Mp) (a:Act) (w:World),Inv P ops ts H S V listed tsc Hc->Rel B0 w0 m Hc w->TR m tsc a ->
   (∀m' a' w',Ext m m'->Rel B0 w0 m' H' w'->TR m' ts' a'->Q .normal a' w')->Region.ready .any ops listed=[]->Q .normal a w:=by
  intro listed tsc Hc m a w I hR hT hQ hr;obtain⟨rfl,rfl⟩:=I.over L W hr;exact hQ m a w (Ext.refl m) hR hT
 intro fuel
 induction fuel with
 | zero =>
  intro listed tsc Hc m a w I hf hR hT hQ;have hr:Region.ready .any ops listed=[]:=by
   cases h:Region.ready .any ops listed with
   | nil=>rfl
   | cons i r =>
    have hi:i∈Region.ready .any ops listed:=by rw[h];simp
    obtain⟨o,h1,h2,_⟩:=(ready_mem I.size).1 hi;have hin:i<ops.size:=(Array.getElem?_eq_some_iff.1 h1).1;have:=open_set I.size hin h2;omega
  exact⟨hr,fin listed tsc Hc m a w I hR hT hQ hr⟩
 | succ fuel ih =>
  intro listed tsc Hc m a w I hf hR hT hQ;refine⟨fin listed tsc Hc m a w I hR hT hQ,fun i hi=> ?_⟩;obtain⟨o,h1,h2,h3⟩:=(ready_mem I.size).1 hi;have hin:i<ops.size:=(Array.getElem?_eq_some_iff.1 h1).1;obtain⟨Hn,h4,h5⟩:=I.step L W h1 h2 h3 (fun hE hr hw=>lo i o h1 hE hr hw);refine wp_iop hφ h1 h4 hR hT (fun m' w' u hm hR' hv=> ?_);have:=open_set I.size hin h2;exact ih _ _ _ m' _ _ h5 (by omega) hR' ((hT.ext hm).put _ hv) (fun m2 a2 w2 g1 g2 g3=>hQ m2 a2 w2 (hm.trans g1) g2 g3)
theorem Inv.first (W:Walk P O ops ops.toList ts H ts' H' S V):Inv P ops ts H S V (Array.replicate ops.size false) ts H:=by
 have hf:∀i,(Array.replicate ops.size false).getD i false=false:=by
  intro i;simp only[Array.getD_eq_getD_getElem?,Array.getElem?_replicate];split<;>rfl
 refine⟨by simp,fun i o _ h=> ?_,rfl,fun j p t _ h=> ?_,fun t _=>rfl,.inr ⟨fun e p _ _=>hf e,rfl⟩⟩
 ·rw[hf]at h;cases h
 ·rw[hf]at h;cases h
theorem loose_mem {j:Nat}{o p:Oper}(ho:ops[i]? =some o)(hp:ops[j]? =some p)(h1:isE P o.op=false)(h2:readsH o.op=true)(h3:isE P p.op=true)(h4:((ancs ops.toList []).getD i 0).testBit j=false)(h5:((ancs ops.toList []).getD j 0).testBit i=false):(i,j)∈loose P ops:=by
 unfold loose;simp only[List.mem_flatMap];refine⟨(o,i),by rw[List.mem_zipIdx_iff_getElem?];simpa using ho,?_⟩;simp only[h1,h2,Bool.not_true,Bool.or_self,Bool.false_eq_true,if_false,List.mem_filterMap];refine⟨(p,j),by rw[List.mem_zipIdx_iff_getElem?];simpa using hp,?_⟩;rw[h3,h4,h5];rfl
theorem wp_idraw {Q:Exit->Act->World->Prop}(hφ:Sound P O)(hm:P.follows .mixedOrders=true){id:Nat}{B0:Nat}{w0 w:World}{m:Mp}{a:Act}(e:idraw P O ops ts H=some (ts',H'))(hR:Rel B0 w0 m H w)(hT:TR m ts a)(hQ:∀m' a' w',Ext m m'->Rel B0 w0 m' H' w'->TR m' ts' a'->Q .normal a' w'):(Code.region id ops true).wp P Q a w:=by
 unfold idraw at e;split at e
 ·rename_i hok;have L:=okDraw_looks hok;have key:∀recs,itrace P O ops ops.toList ts H=some (recs,(ts',H'))->(∀ij∈loose P ops,looseOk P ops recs ij=true)->(Code.region id ops true).wp P Q a w:=by
   intro recs ht hlo;obtain⟨g1,W,g3⟩:=walk_of ht;refine wp_region_any hm ?_;refine wp_any hφ L W (fun i o ho hE hr hw j p hp hE2 hA1 hA2=> ?_) ops.size _ ts H m a _ (Inv.first W) ?_ (hR.drew _) hT hQ
   ·have:=hlo _ (loose_mem ho hp hE hr hE2 hA1 hA2);have hi:i<recs.length:=by rw[g1,Array.length_toList];exact(Array.getElem?_eq_some_iff.1 ho).1
    have hj:j<recs.length:=by rw[g1,Array.length_toList];exact(Array.getElem?_eq_some_iff.1 hp).1
    unfold looseOk at this;simp only[ho,List.getElem?_eq_getElem hi,List.getElem?_eq_getElem hj]at this;have s1:(stAt recs (ts',H') i).1=recs[i].ts:=by simp[stAt,List.getElem?_eq_getElem hi]
    have s2:vAt recs i=recs[i].v:=by simp[vAt,List.getElem?_eq_getElem hi]
    have s3:(stAt recs (ts',H') j).2=recs[j].h:=by simp[stAt,List.getElem?_eq_getElem hj]
    have s4:=g3 j recs[j] (List.getElem?_eq_getElem hj);rw[s1]at hw ⊢;rw[s2,s3,←s4];simp only[hw,Bool.not_true,Bool.false_or,Bool.and_eq_true]at this;exact⟨ivo_eq this.1,ivo_eq this.2⟩
   ·unfold open_;exact Nat.le_trans List.countP_le_length (by simp)
  split at e
  ·rename_i hl;obtain⟨recs,ht⟩:=iops_trace e;exact key recs ht (by rw[hl];simp)
  ·rename_i p ps hl;obtain⟨⟨recs,q⟩,ht,e⟩:=obs e;split at e
   ·rename_i hall
    cases e
    refine key recs ht (fun ij hij=> ?_);rw[hl]at hij;exact List.all_eq_true.1 hall ij hij
   ·cases e
 ·cases e
end
end Go.Shade
namespace Go.Shade
open Go.RowKit
variable {B0 : Nat} {H : Heap} {P : Program} {w0 : World}
inductive IX where
 | normal
 | exit (id:Nat)
 | ret
def iter (body:List IV->Heap->Option (IX×List IV×Heap)):Nat->List IV->Heap->Option (IX×List IV×Heap)
 | 0,_,_=>none
 | k+1,ts,H=>(body ts H).bind fun r=>match r with
  | (.normal,ts',H')=>iter body k ts' H'
  | r=>some r
def iexec (P:Program)(O:Oracle)(n:Nat):Code->List IV->Heap->Option (IX×List IV×Heap)
 | .skip,ts,H=>some (.normal,ts,H)
 | .label _,ts,H=>some (.normal,ts,H)
 | .region _ ops false,ts,H=>(iops P O ops ops.toList ts H).bind fun r=>some (.normal,r.1,r.2)
 | .region _ ops true,ts,H=>(idraw P O ops ts H).bind fun r=>some (.normal,r.1,r.2)
 | .seq a b,ts,H=>(iexec P O n a ts H).bind fun r=>match r with
  | (.normal,ts',H')=>iexec P O n b ts' H'
  | r=>some r
 | .cond c a b,ts,H=>match env ts c with
  | some (.bool true)=>iexec P O n a ts H
  | some (.bool false)=>iexec P O n b ts H
  | _=>none
 | .block id a,ts,H=>(iexec P O n a ts H).bind fun r=>match r with
  | (.exit id',ts',H')=>if id'=id then some (.normal,ts',H')else some (.exit id',ts',H')
  | r=>some r
 | .loop a,ts,H=>iter (iexec P O n a) n ts H
 | .exit id,ts,H=>some (.exit id,ts,H)
 | .ret,ts,H=>some (.ret,ts,H)
 | .scope a,ts,H=>iexec P O n a ts H
 | _,_,_=>none
def IX.to :IX->Exit
 | .normal=>.normal
 | .exit id=>.exit id
 | .ret=>.ret
def Post (B0:Nat)(w0:World)(m:Mp)(x:IX)(ts:List IV)(H:Heap)(Q:Exit->Act->World->Prop):Prop :=
 ∀m' a' w',Ext m m'->Rel B0 w0 m' H w'->TR m' ts a'->Q x.to a' w'
theorem wp_iexec {O:Oracle}(hφ:Sound P O)(hm:P.follows .mixedOrders=true)(n:Nat):∀(c:Code) (ts:List IV) (H:Heap) (x:IX) (ts':List IV) (H':Heap),iexec P O n c ts H=some (x,ts',H') ->
  ∀(m:Mp) (a:Act) (w:World) (Q:Exit->Act->World->Prop),Rel B0 w0 m H w->TR m ts a->Post B0 w0 m x ts' H' Q->c.wp P Q a w:=by
 intro c
 induction c with
 | skip =>
  intro ts H x ts' H' e m a w Q hR hT hQ;simp only[iexec]at e;cases e
  exact wp_skip (hQ m a w (Ext.refl m) hR hT)
 | label l =>
  intro ts H x ts' H' e m a w Q hR hT hQ;simp only[iexec]at e;cases e
  exact wp_label (hQ m a w (Ext.refl m) hR hT)
 | region id ops draw =>
  intro ts H x ts' H' e m a w Q hR hT hQ
  cases draw with
  | false =>
   simp only[iexec]at e;obtain⟨r,h1,h2⟩:=obs e
   cases h2
   exact wp_iregion hφ h1 hR hT (fun m' a' w' g1 g2 g3=>hQ m' a' w' g1 g2 g3)
  | true =>
   simp only[iexec]at e;obtain⟨r,h1,h2⟩:=obs e
   cases h2
   exact wp_idraw hφ hm h1 hR hT (fun m' a' w' g1 g2 g3=>hQ m' a' w' g1 g2 g3)
 | seq c d ihc ihd =>
  intro ts H x ts' H' e m a w Q hR hT hQ;simp only[iexec]at e;obtain⟨⟨x1,ts1,H1⟩,h1,h2⟩:=obs e;refine wp_seq (ihc ts H x1 ts1 H1 h1 m a w _ hR hT ?_);intro m' a' w' g1 g2 g3
  cases x1 with
  | normal=>exact ihd ts1 H1 x ts' H' h2 m' a' w' Q g2 g3 (fun m2 a2 w2 k1 k2 k3=>hQ m2 a2 w2 (g1.trans k1) k2 k3)
  | exit id=>simp only at h2;cases h2;exact hQ m' a' w' g1 g2 g3
  | ret=>simp only at h2;cases h2;exact hQ m' a' w' g1 g2 g3
 | cond c x1 x2 ih1 ih2 =>
  intro ts H x ts' H' e m a w Q hR hT hQ;simp only[iexec]at e;split at e
  ·rename_i hc;have:=hT.env _ _ hc;simp only[VR]at this;exact wp_cond_true this (ih1 ts H x ts' H' e m a w Q hR hT hQ)
  ·rename_i hc;have:=hT.env _ _ hc;simp only[VR]at this;exact wp_cond_false this (ih2 ts H x ts' H' e m a w Q hR hT hQ)
  ·cases e
 | block id c ih =>
  intro ts H x ts' H' e m a w Q hR hT hQ;simp only[iexec]at e;obtain⟨⟨x1,ts1,H1⟩,h1,h2⟩:=obs e;refine wp_block (ih ts H x1 ts1 H1 h1 m a w _ hR hT ?_);intro m' a' w' g1 g2 g3
  cases x1 with
  | normal=>simp only at h2;cases h2;exact hQ m' a' w' g1 g2 g3
  | exit id' =>
   simp only at h2;simp only[IX.to,Exit.inBlock];split at h2
   ·rename_i hid;cases h2;rw[if_pos hid];exact hQ m' a' w' g1 g2 g3
   ·rename_i hid;cases h2;rw[if_neg hid];exact hQ m' a' w' g1 g2 g3
  | ret=>simp only at h2;cases h2;exact hQ m' a' w' g1 g2 g3
 | loop c ih =>
  intro ts H x ts' H' e m a w Q hR hT hQ;simp only[iexec]at e;have key:∀(k:Nat) (ts:List IV) (H:Heap) (m:Mp) (a:Act) (w:World),iter (iexec P O n c) k ts H=some (x,ts',H')->Rel B0 w0 m H w->TR m ts a->Post B0 w0 m x ts' H' Q->Code.rounds P c Q k a w:=by
   intro k
   induction k with
   | zero=>intro ts H m a w e;simp[iter]at e
   | succ k ihk =>
    intro ts H m a w e hR hT hQ;simp only[iter]at e;obtain⟨⟨x1,ts1,H1⟩,h1,h2⟩:=obs e;rw[rounds_succ];refine ih ts H x1 ts1 H1 h1 m a w _ hR hT ?_;intro m' a' w' g1 g2 g3
    cases x1 with
    | normal=>exact ihk ts1 H1 m' a' w' h2 g2 g3 (fun m2 a2 w2 k1 k2 k3=>hQ m2 a2 w2 (g1.trans k1) k2 k3)
    | exit id=>simp only at h2;cases h2;exact hQ m' a' w' g1 g2 g3
    | ret=>simp only at h2;cases h2;exact hQ m' a' w' g1 g2 g3
  exact wp_loop_rounds n (key n ts H m a w e hR hT hQ)
 | exit id =>
  intro ts H x ts' H' e m a w Q hR hT hQ;simp only[iexec]at e;cases e
  exact wp_exit (hQ m a w (Ext.refl m) hR hT)
 | ret =>
  intro ts H x ts' H' e m a w Q hR hT hQ;simp only[iexec]at e;cases e
  exact wp_ret (hQ m a w (Ext.refl m) hR hT)
 | scope c ih =>
  intro ts H x ts' H' e m a w Q hR hT hQ;simp only[iexec]at e;exact wp_scope_straight (ih ts H x ts' H' e m a w _ hR hT (fun m' a' w' g1 g2 g3=>by have:=hQ m' a' w' g1 g2 g3;cases x<;>exact this))
 | rangeFunc f ps as body _ _=>intro ts H x ts' H' e;simp[iexec]at e
 | goto l=>intro ts H x ts' H' e;simp[iexec]at e
 | refuse why=>intro ts H x ts' H' e;simp[iexec]at e
def iresult (P:Program)(ts:List IV)(H:Heap):ResultVar->Option IV
 | .tmp t=>some (ts.getD t (.tuple []))
 | .cell a t=>match ts.getD a (.tuple [])with
  | .ptr b o=>iload P t H b o
  | _=>none
def iresults (P:Program)(ts:List IV)(H:Heap):List ResultVar->Option (List IV)
 | []=>some []
 | r::rs=>(iresult P ts H r).bind fun v=>(iresults P ts H rs).bind fun vs=>some (v::vs)
def pack :List IV->IV
 | [v]=>v
 | vs=>.tuple vs
theorem run_iresult {w:World}{m:Mp}(hR:Rel B0 w0 m H w){ts:List IV}{a:Act}(hT:TR m ts a){r:ResultVar}{v:IV}(e:iresult P ts H r=some v) :
  ∃u,((match r with | .tmp t=>pure (a.tmps.getD t undef) | .cell x t=>do loadVar t (←asAddr (a.tmps.getD x undef)):Sem Value)).run P w=.ok u w/\VR m v u:=by
 cases r with
 | tmp t =>
  simp only[iresult]at e;cases e
  exact⟨_,rfl,hT.env (.tmp t) _ rfl⟩
 | cell x t =>
  simp only[iresult]at e;split at e
  ·rename_i b o hx;have:=hT.env (.tmp x) (.ptr b o) (by simp only[env,hx]);simp only[VR,Act.eval]at this;obtain⟨l,hl,hv⟩:=this;obtain⟨u,h1,h2⟩:=run_iload (P:=P) hR e hl;exact⟨u,by simp only[hv,asAddr,Sem.run_bind,Sem.run_pure,Result.andThen_ok];exact h1,h2⟩
  ·cases e
theorem run_iresults {P:Program}{B0:Nat}{w0 w:World}{m:Mp}{H:Heap}(hR:Rel B0 w0 m H w){ts:List IV}{a:Act}(hT:TR m ts a):∀{rs:List ResultVar} {vs:List IV},iresults P ts H rs=some vs ->
  ∃us,(rs.mapM fun r=>(match r with | .tmp t=>pure (a.tmps.getD t undef) | .cell x t=>do loadVar t (←asAddr (a.tmps.getD x undef)):Sem Value)).run P w=.ok us w/\VRs m vs us
 | [],vs,e=>by simp only[iresults]at e;cases e;exact⟨[],by simp,VRs.nil m⟩
 | r::rs,vs,e=>by
  simp only[iresults]at e;obtain⟨v,h1,e⟩:=obs e;obtain⟨vs',h2,e⟩:=obs e
  cases e
  obtain⟨u,g1,g2⟩:=run_iresult hR hT h1;obtain⟨us,g3,g4⟩:=run_iresults hR hT h2;refine⟨u::us,?_,VRs.cons g2 g4⟩;rw[List.mapM_cons,Sem.run_bind,g1,Result.andThen_ok,Sem.run_bind,g3];rfl
theorem run_results {w:World}{m:Mp}(hR:Rel B0 w0 m H w){ts:List IV}{a:Act}(hT:TR m ts a){fn:Func}{vs:List IV}(e:iresults P ts H fn.results.toList=some vs) :
  ∃u,(results fn a.tmps).run P w=.ok u w/\VR m (pack vs) u:=by
 obtain⟨us,h1,h2⟩:=run_iresults hR hT e;have hrun:∀f:Array Value->Sem Value,((fn.results.mapM fun r=>(match r with | .tmp t=>pure (a.tmps.getD t undef) | .cell x t=>do loadVar t (←asAddr (a.tmps.getD x undef)):Sem Value)) >>= f).run P w=(f us.toArray).run P w:=by
  intro f;rw[Array.mapM_eq_mapM_toList,Sem.run_bind,Sem.run_map,h1];rfl
 refine⟨if h:us.toArray.size=1 then us.toArray[0]else .tuple us.toArray,?_,?_⟩
 ·unfold results;exact hrun (fun vs=>pure (if h:vs.size=1 then vs[0]else .tuple vs))
 ·cases vs with
  | nil=>simp only[VRs]at h2;subst h2;simp only[pack,VR];exact⟨#[],rfl,VRs.nil m⟩
  | cons v vs =>
   simp only[VRs]at h2;obtain⟨u,us',rfl,g1,g2⟩:=h2
   cases vs with
   | nil=>simp only[VRs]at g2;subst g2;simpa[pack]using g1
   | cons v2 vs2 =>
    have hl:=g2.length;have hne:¬(u::us').toArray.size=1:=by simp;intro e;subst e;simp at hl
    rw[dif_neg hne];simp only[pack,VR];exact⟨_,rfl,VRs.cons g1 g2⟩
abbrev Table :=FuncId->Option (List IV->Heap->Option (IV×Heap))
def SoundT (P:Program)(T:Table):Prop:=∀f g,T f=some g->∀args H r H',g args H=some (r,H')->SimCall P f args H r H'
def ibody (P:Program)(O:Oracle)(n:Nat)(fn:Func)(args:List IV)(H:Heap):Option (IV×Heap) :=
 match fn.body with
 | some c=>(iexec P O n c (args++List.replicate (fn.ntmps - args.length) (.tuple [])) H).bind fun r=>match r with
  | (.exit _,_,_)=>none
  | (_,ts,H')=>(iresults P ts H' fn.results.toList).bind fun vs=>some (pack vs,H')
 | none=>none
def icall (P:Program)(T:Table):Nat->Oracle
 | 0,_,_,_=>none
 | n+1,f,args,H=>match T f with
  | some g=>g args H
  | none=>match P.funcs[f]? with
   | some fn=>ibody P (icall P T n) n fn args H
   | none=>none
theorem sound_body {O:Oracle}(hφ:Sound P O)(hm:P.follows .mixedOrders=true){n:Nat}{f:FuncId}{fn:Func}(hf:P.funcs[f]? =some fn){args:List IV}{H':Heap}{r:IV}(e:ibody P O n fn args H=some (r,H')) :
  SimCall P f args H r H':=by
 intro B0 w0 w m us hR hA;unfold ibody at e;split at e
 ·rename_i c hc;obtain⟨⟨x,ts,H1⟩,h1,e⟩:=obs e;have hl:=hA.length;simp only[Array.length_toList]at hl;have hT:TR m (args++List.replicate (fn.ntmps - args.length) (.tuple [])) { tmps:=us++Array.replicate (fn.ntmps - us.size) undef,defers:=[] }:=by
   refine⟨?_,rfl⟩;simp only[Array.toList_append,Array.toList_replicate];rw[hl];exact hA.append (VRs.replicate (VR_unit m) _)
  refine calls_of_wp hf hc (wp_iexec hφ hm n c _ H x ts H1 h1 m _ w _ hR hT ?_);intro m' a' w' g1 g2 g3;have fin:∀vs,iresults P ts H1 fn.results.toList=some vs->r=pack vs->H'=H1->a'.defers=[]/\∃v,(results fn a'.tmps).run P w'=.ok v w'/\∃m' u,Ending.returned v=.returned u/\Ext m m'/\Rel B0 w0 m' H' w'/\VR m' r u:=by
   rintro vs hvs rfl rfl;obtain⟨u,k1,k2⟩:=run_results (P:=P) g2 g3 hvs;exact⟨g3.2,u,k1,m',u,rfl,g1,g2,k2⟩
  cases x with
  | normal =>
   simp only at e;obtain⟨vs,hvs,e⟩:=obs e
   cases e
   exact fin vs hvs rfl rfl
  | ret =>
   simp only at e;obtain⟨vs,hvs,e⟩:=obs e
   cases e
   exact fin vs hvs rfl rfl
  | exit id=>cases e
 ·cases e
theorem sound_icall {P:Program}{T:Table}(hT:SoundT P T)(hm:P.follows .mixedOrders=true):∀n,Sound P (icall P T n)
 | 0=>fun f args H r H' e=>by simp[icall]at e
 | n+1=>fun f args H r H' e=>by
  simp only[icall]at e;split at e
  ·rename_i g hg;exact hT f g hg args H r H' e
  ·split at e
   ·rename_i fn hf;exact sound_body (sound_icall hT hm n) hm hf e
   ·cases e
end Go.Shade
namespace Go.Shade
open Go.RowKit
variable {P : Program} {T : Table} {f : FuncId} {k n : Nat} {α : Type} {O ψ : Oracle}
def LeF {α:Type}(a b:Option α):Prop:=∀r,a=some r->b=some r
theorem LeF.refl (a:Option α):LeF a a:=fun _ h=>h
theorem LeF.trans {a b c:Option α}(h:LeF a b)(k:LeF b c):LeF a c:=fun r hr=>k r (h r hr)
theorem LeF.bind {α β:Type}{a a':Option α}{f f':α->Option β}(h:LeF a a')(k:∀x,LeF (f x) (f' x)):LeF (a.bind f) (a'.bind f'):=by
 intro r hr;obtain⟨x,h1,h2⟩:=obs hr;rw[h x h1];exact k x r h2
def LeO (O ψ:Oracle):Prop:=∀f args H,LeF (O f args H) (ψ f args H)
theorem iopV_mono (h:LeO O ψ)(ops:Array Oper)(o:Oper)(ts:List IV)(H:Heap):LeF (iopV P O ops o ts H) (iopV P ψ ops o ts H):=by
 unfold iopV;split
 ·split<;>first | exact LeF.refl _ | exact h _ _ _
 ·exact LeF.refl _
theorem iops_mono {P:Program}{O ψ:Oracle}(h:LeO O ψ)(ops:Array Oper):∀(os:List Oper) (ts:List IV) (H:Heap),LeF (iops P O ops os ts H) (iops P ψ ops os ts H)
 | [],_,_=>LeF.refl _
 | o::os,ts,H=>(iopV_mono h ops o ts H).bind fun r=>iops_mono h ops os _ _
theorem itrace_mono {P:Program}{O ψ:Oracle}(h:LeO O ψ)(ops:Array Oper):∀(os:List Oper) (ts:List IV) (H:Heap),LeF (itrace P O ops os ts H) (itrace P ψ ops os ts H)
 | [],_,_=>LeF.refl _
 | o::os,ts,H=>(iopV_mono h ops o ts H).bind fun r=>(itrace_mono h ops os _ _).bind fun _=>LeF.refl _
theorem idraw_mono (h:LeO O ψ)(ops:Array Oper)(ts:List IV)(H:Heap):LeF (idraw P O ops ts H) (idraw P ψ ops ts H):=by
 unfold idraw;split
 ·split
  ·exact iops_mono h ops _ _ _
  ·exact(itrace_mono h ops _ _ _).bind fun _=>LeF.refl _
 ·exact LeF.refl _
abbrev Body :=List IV->Heap->Option (IX×List IV×Heap)
theorem iter_mono {f g:Body}(h:∀ts H,LeF (f ts H) (g ts H)):∀(k j:Nat),k<=j->∀ts H,LeF (iter f k ts H) (iter g j ts H)
 | 0,_,_,_,_=>fun r hr=>by simp[iter]at hr
 | k+1,0,hk,_,_=>by omega
 | k+1,j+1,hk,ts,H=>by
  simp only[iter];refine(h ts H).bind fun r=> ?_;obtain⟨x,ts',H'⟩:=r
  cases x with
  | normal=>exact iter_mono h k j (by omega) ts' H'
  | exit id=>exact LeF.refl _
  | ret=>exact LeF.refl _
theorem iexec_mono (h:LeO O ψ)(hn:n<=k):∀(c:Code) (ts:List IV) (H:Heap),LeF (iexec P O n c ts H) (iexec P ψ k c ts H):=by
 intro c
 induction c with
 | region id ops draw =>
  intro ts H
  cases draw with
  | false=>exact(iops_mono h ops _ _ _).bind fun _=>LeF.refl _
  | true=>exact(idraw_mono h ops _ _).bind fun _=>LeF.refl _
 | seq c d ihc ihd =>
  intro ts H;refine(ihc ts H).bind fun r=> ?_;obtain⟨x,ts',H'⟩:=r
  cases x with
  | normal=>exact ihd ts' H'
  | exit id=>exact LeF.refl _
  | ret=>exact LeF.refl _
 | cond c a b iha ihb =>
  intro ts H;simp only[iexec];split
  ·exact iha ts H
  ·exact ihb ts H
  ·exact LeF.refl _
 | block id c ih =>
  intro ts H;exact(ih ts H).bind fun r=>LeF.refl _
 | loop c ih =>
  intro ts H;simp only[iexec];exact iter_mono ih n k hn ts H
 | scope c ih =>
  intro ts H;simp only[iexec];exact ih ts H
 | _=>intro ts H;exact LeF.refl _
theorem ibody_mono (h:LeO O ψ)(hn:n<=k)(fn:Func)(args:List IV)(H:Heap):LeF (ibody P O n fn args H) (ibody P ψ k fn args H):=by
 unfold ibody;split
 ·exact(iexec_mono h hn _ _ _).bind fun _=>LeF.refl _
 ·exact LeF.refl _
theorem icall_step {P:Program}{T:Table}:∀n,LeO (icall P T n) (icall P T (n+1))
 | 0=>fun f args H r hr=>by simp[icall]at hr
 | n+1=>fun f args H=>by
  simp only[icall];split
  ·exact LeF.refl _
  ·split
   ·exact ibody_mono (icall_step n) (Nat.le_succ n) _ _ _
   ·exact LeF.refl _
theorem icall_mono (h:n<=k):LeO (icall P T n) (icall P T k):=by
 induction k with
 | zero => have:n=0:=by omega
           subst this;exact fun _ _ _=>LeF.refl _
 | succ k ih =>
  by_cases e:n=k+1
  ·subst e;exact fun _ _ _=>LeF.refl _
  ·exact fun f args H=>(ih (by omega) f args H).trans (icall_step k f args H)
open Classical in
noncomputable def lim {α:Type}(f:Nat->Option α):Option α:=if h:∃n v,f n=some v then f (Classical.choose h)else none
def Rising {α:Type}(f:Nat->Option α):Prop:=∀n k,n<=k->LeF (f n) (f k)
theorem lim_some {f:Nat->Option α}(hf:Rising f){v:α}:lim f=some v↔∃n,f n=some v:=by
 unfold lim;constructor
 ·intro h;split at h
  ·exact⟨_,h⟩
  ·cases h
 ·rintro⟨n,hn⟩;have hex:∃n v,f n=some v:=⟨n,v,hn⟩;rw[dif_pos hex];obtain⟨u,hu⟩:=Classical.choose_spec hex;rw[hu];rcases Nat.le_total n (Classical.choose hex)with h | h
  ·have:=hf _ _ h v hn;rw[hu]at this;exact this
  ·have:=hf _ _ h u hu;rw[hn]at this;exact this.symm
theorem lim_eq {f:Nat->Option α}(hf:Rising f){r:Option α}(h:∀v,r=some v↔∃n,f n=some v):lim f=r:=by
 apply Option.ext;intro v;rw[lim_some hf,h v]
noncomputable def den (P:Program)(T:Table):Oracle:=fun f args H=>lim fun n=>icall P T n f args H
theorem den_rising (P:Program)(T:Table)(f:FuncId)(args:List IV)(H:Heap):Rising fun n=>icall P T n f args H:=fun n k h=>icall_mono h f args H
theorem den_some {args:List IV}{H:Heap}{r:IV×Heap}:den P T f args H=some r↔∃n,icall P T n f args H=some r:=lim_some (den_rising P T f args H)
theorem icall_den (n:Nat):LeO (icall P T n) (den P T):=fun f args H r hr=>den_some.2 ⟨n,hr⟩
theorem sound_den (hT:SoundT P T)(hm:P.follows .mixedOrders=true):Sound P (den P T):=fun f args H r H' e=>by
 obtain⟨n,hn⟩:=den_some.1 e;exact sound_icall hT hm n f args H r H' hn
def Fin_ {α:Type}(P:Program)(T:Table)(F:Oracle->Option α):Prop:=∀r,F (den P T)=some r->∃k,∀j,k<=j->F (icall P T j)=some r
theorem Fin_.const (a:Option α):Fin_ P T (fun _=>a):=fun r h=>⟨0,fun _ _=>h⟩
theorem Fin_.bind {α β:Type}{P:Program}{T:Table}{F:Oracle->Option α}{G:α->Oracle->Option β}(h:Fin_ P T F)(k:∀x,Fin_ P T (G x)):Fin_ P T (fun O=>(F O).bind fun x=>G x O):=by
 intro r hr;obtain⟨x,h1,h2⟩:=obs hr;obtain⟨n1,g1⟩:=h x h1;obtain⟨n2,g2⟩:=k x r h2;exact⟨max n1 n2,fun j hj=>by
  show(F (icall P T j)).bind _=_;rw[g1 j (by omega)];exact g2 j (by omega)⟩
theorem iopV_fin (ops:Array Oper)(o:Oper)(ts:List IV)(H:Heap):Fin_ P T (fun O=>iopV P O ops o ts H):=by
 unfold iopV;split
 ·split
  ·exact Fin_.const _
  ·exact Fin_.const _
  ·rename_i f args H' hs;intro r hr;obtain⟨n,hn⟩:=den_some.1 hr;exact⟨n,fun j hj=>icall_mono hj f args H' r hn⟩
  ·exact Fin_.const _
 ·exact Fin_.const _
theorem iops_fin {P:Program}{T:Table}(ops:Array Oper):∀(os:List Oper) (ts:List IV) (H:Heap),Fin_ P T (fun O=>iops P O ops os ts H)
 | [],_,_=>Fin_.const _
 | o::os,ts,H=>(iopV_fin ops o ts H).bind fun r=>iops_fin ops os _ _
theorem itrace_fin {P:Program}{T:Table}(ops:Array Oper):∀(os:List Oper) (ts:List IV) (H:Heap),Fin_ P T (fun O=>itrace P O ops os ts H)
 | [],_,_=>Fin_.const _
 | o::os,ts,H=>(iopV_fin ops o ts H).bind fun r=>(itrace_fin ops os _ _).bind fun _=>Fin_.const _
theorem idraw_fin (ops:Array Oper)(ts:List IV)(H:Heap):Fin_ P T (fun O=>idraw P O ops ts H):=by
 unfold idraw;split
 ·split
  ·exact iops_fin ops _ _ _
  ·exact(itrace_fin ops _ _ _).bind fun _=>Fin_.const _
 ·exact Fin_.const _
theorem iexec_fin (n:Nat):∀(c:Code) (ts:List IV) (H:Heap),Fin_ P T (fun O=>iexec P O n c ts H):=by
 intro c
 induction c with
 | region id ops draw =>
  intro ts H
  cases draw with
  | false=>exact(iops_fin ops _ _ _).bind fun _=>Fin_.const _
  | true=>exact(idraw_fin ops _ _).bind fun _=>Fin_.const _
 | seq c d ihc ihd =>
  intro ts H;refine(ihc ts H).bind (G:=fun r O=>match r with | (.normal,ts',H')=>iexec P O n d ts' H' | r=>some r) fun r=> ?_;obtain⟨x,ts',H'⟩:=r
  cases x with
  | normal=>exact ihd ts' H'
  | exit id=>exact Fin_.const _
  | ret=>exact Fin_.const _
 | cond c a b iha ihb =>
  intro ts H;simp only[iexec];split
  ·exact iha ts H
  ·exact ihb ts H
  ·exact Fin_.const _
 | block id c ih =>
  intro ts H;exact(ih ts H).bind (G:=fun r O=>match r with | (.exit id',ts',H')=>if id'=id then some (.normal,ts',H')else some (.exit id',ts',H') | r=>some r) fun r=>Fin_.const _
 | loop c ih =>
  intro ts H;simp only[iexec];have key:∀(k:Nat) (ts:List IV) (H:Heap),Fin_ P T (fun O=>iter (iexec P O n c) k ts H):=by
   intro k
   induction k with
   | zero=>intro ts H;exact Fin_.const _
   | succ k ihk =>
    intro ts H;simp only[iter];refine(ih ts H).bind (G:=fun r O=>match r with | (.normal,ts',H')=>iter (iexec P O n c) k ts' H' | r=>some r) fun r=> ?_;obtain⟨x,ts',H'⟩:=r
    cases x with
    | normal=>exact ihk ts' H'
    | exit id=>exact Fin_.const _
    | ret=>exact Fin_.const _
  exact key n ts H
 | scope c ih =>
  intro ts H;simp only[iexec];exact ih ts H
 | _=>intro ts H;exact Fin_.const _
noncomputable def xd (P:Program)(O:Oracle)(c:Code):Body:=fun ts H=>lim fun n=>iexec P O n c ts H
theorem xd_rising (P:Program)(O:Oracle)(c:Code)(ts:List IV)(H:Heap):Rising fun n=>iexec P O n c ts H:=fun n k h=>iexec_mono (fun _ _ _=>LeF.refl _) h c ts H
theorem xd_some {c:Code}{ts:List IV}{H:Heap}{r:IX×List IV×Heap}:xd P O c ts H=some r↔∃n,iexec P O n c ts H=some r:=lim_some (xd_rising P O c ts H)
section
variable {P : Program} {O : Oracle} {ts : List IV} {H : Heap}
def inBlock (id:Nat)(r:Option (IX×List IV×Heap)):Option (IX×List IV×Heap):=r.bind fun q=>match q with
 | (.exit id',ts,H)=>if id'=id then some (.normal,ts,H)else some (.exit id',ts,H)
 | q=>some q
end
def back (P:Program)(rs:List ResultVar)(r:Option (IX×List IV×Heap)):Option (IV×Heap):=r.bind fun q=>match q with
 | (.exit _,_,_)=>none
 | (_,ts,H)=>(iresults P ts H rs).bind fun vs=>some (pack vs,H)
theorem den_table {g:List IV->Heap->Option (IV×Heap)}(h:T f=some g)(args:List IV)(H:Heap):den P T f args H=g args H:=by
 refine lim_eq (den_rising P T f args H) fun v=>⟨fun e=>⟨1,by simp[icall,h,e]⟩,fun⟨n,hn⟩=> ?_⟩
 cases n with
 | zero=>simp[icall]at hn
 | succ n=>simpa[icall,h]using hn
theorem den_body {fn:Func}{c:Code}(h:T f=none)(hf:P.funcs[f]? =some fn)(hc:fn.body=some c)(args:List IV)(H:Heap) :
  den P T f args H=back P fn.results.toList (xd P (den P T) c (args++List.replicate (fn.ntmps - args.length) (.tuple [])) H):=by
 refine lim_eq (den_rising P T f args H) fun v=> ?_;have hb:∀O n,ibody P O n fn args H=back P fn.results.toList (iexec P O n c (args++List.replicate (fn.ntmps - args.length) (.tuple [])) H):=by
  intro O n;unfold ibody;rw[hc];rfl
 constructor
 ·intro e;obtain⟨q,h1,h2⟩:=obs e;obtain⟨n,hn⟩:=xd_some.1 h1;obtain⟨k,hk⟩:=iexec_fin n c _ H q hn;refine⟨max n k+1,?_⟩;simp only[icall,h,hf];rw[hb];unfold back;rw[iexec_mono (fun _ _ _=>LeF.refl _) (Nat.le_max_left n k) c _ H q (hk (max n k) (Nat.le_max_right _ _))];exact h2
 ·rintro⟨n,hn⟩
  cases n with
  | zero=>simp[icall]at hn
  | succ n =>
   simp only[icall,h,hf]at hn;rw[hb]at hn;obtain⟨q,h1,h2⟩:=obs hn;unfold back;rw[xd_some.2 ⟨n,iexec_mono (icall_den n) (Nat.le_refl n) c _ H q h1⟩];exact h2
end Go.Shade
namespace Go.Shade
open Go.RowKit
section
variable {P : Program} {O : Oracle} {ops : Array Oper} {o : Oper} {os : List Oper} {ts : List IV} {H : Heap}
def stepV (P:Program)(O:Oracle)(H:Heap)(r:Option (INext×Heap)):Option (IV×Heap) :=
 match r with
 | some (.val v,H')=>some (v,H')
 | some (.skip,H')=>some (.tuple [],H')
 | some (.enter f args,H')=>O f args H'
 | none=>none
end
end Go.Shade
namespace Go.Shade
open Go.RowKit
variable {listed listed' : Array Bool}
def rmOp (f:Nat->Nat)(ex:Array Edge)(o:Oper):Oper:= { o with after:=o.after.map (fun e=> { e with on:=f e.on })++ex,guard:=o.guard.map fun g=>(f g.1,g.2) }
def altOps (ops:Array Oper)(f g:Nat->Nat)(x y:Nat):Array Oper:=((List.range ops.size).map fun j=>rmOp f (if g j=x then #[⟨f y,.chain⟩]else #[]) (ops.getD (g j) default)).toArray
structure PiOk (n:Nat)(f g:Nat->Nat):Prop where
 lt:∀i,i<n->f i<n/\g (f i)=i
 ge:∀i,n<=i->n<=f i
 sur:∀j,j<n->g j<n/\f (g j)=j
theorem piId (n:Nat):PiOk n id id:=⟨fun i h=>⟨h,rfl⟩,fun i h=>h,fun j h=>⟨h,rfl⟩⟩
section
variable {P : Program} {O : Oracle} {ops : Array Oper} {f g : Nat -> Nat} {x y : Nat} {Q : Exit -> Act -> World -> Prop}
theorem alt_size :(altOps ops f g x y).size=ops.size:=by simp[altOps]
theorem alt_get (h:PiOk ops.size f g)(i:Nat):(altOps ops f g x y)[f i]? =(ops[i]?).map (rmOp f (if i=x then #[⟨f y,.chain⟩]else #[])):=by
 by_cases hi:i<ops.size
 ·obtain⟨h1,h2⟩:=h.lt i hi;unfold altOps;simp only[List.getElem?_toArray,List.getElem?_map];rw[List.getElem?_range h1,Option.map_some,h2,Array.getElem?_eq_getElem hi,Option.map_some];simp[Array.getD,hi]
 ·have:=h.ge i (by omega);rw[Array.getElem?_eq_none (by rw[alt_size];omega),Array.getElem?_eq_none (by omega)];rfl
theorem iyield_alt (h:PiOk ops.size f g)(ts:List IV)(j:Nat):iyield (altOps ops f g x y) ts (f j)=iyield ops ts j:=by
 unfold iyield;rw[alt_get h]
 cases ops[j]? <;>rfl
theorem iopV_alt (h:PiOk ops.size f g)(ex:Array Edge)(o:Oper)(ts:List IV)(H:Heap):iopV P O (altOps ops f g x y) (rmOp f ex o) ts H=iopV P O ops o ts H:=by
 have:iwanted (altOps ops f g x y) (rmOp f ex o) ts=iwanted ops o ts:=by
  unfold iwanted rmOp
  cases o.guard with
  | none=>rfl
  | some gd=>simp only[Option.map_some];rw[iyield_alt h]
 unfold iopV;rw[this];rfl
def PermL (n:Nat)(f:Nat->Nat)(listed listed':Array Bool):Prop:=listed.size=n/\listed'.size=n/\∀i,i<n->listed'.getD (f i) false=listed.getD i false
theorem PermL.get {n:Nat}(hf:PiOk n f g)(h:PermL n f listed listed')(i:Nat):listed'.getD (f i) false=listed.getD i false:=by
 by_cases hi:i<n
 ·exact h.2.2 i hi
 ·have:=hf.ge i (by omega);rw[Array.getD_eq_getD_getElem?,Array.getD_eq_getD_getElem?,Array.getElem?_eq_none (by rw[h.2.1];omega),Array.getElem?_eq_none (by rw[h.1];omega)]
theorem PermL.set {n:Nat}(hf:PiOk n f g)(h:PermL n f listed listed'){i:Nat}(hi:i<n):PermL n f (listed.setIfInBounds i true) (listed'.setIfInBounds (f i) true):=by
 refine⟨by simpa using h.1,by simpa using h.2.1,fun j hj=> ?_⟩;rw[set_getD (by rw[h.2.1];exact(hf.lt i hi).1),set_getD (by rw[h.1];exact hi)];by_cases e:i=j
 ·subst e;rw[if_pos rfl,if_pos rfl]
 ·rw[if_neg e,if_neg (fun e'=>e (by have a:=(hf.lt i hi).2;have b:=(hf.lt j hj).2;rw[e',b]at a;exact a.symm))];exact h.2.2 j hj
theorem rm_after {ex:Array Edge}{o:Oper}{e:Edge}:e∈(rmOp f ex o).after↔(∃e0∈o.after,e= { e0 with on:=f e0.on })∨e∈ex:=by
 unfold rmOp;simp only[Array.mem_append,Array.mem_map];constructor
 ·rintro(⟨a,h1,h2⟩ | h)
  ·exact .inl ⟨a,h1,h2.symm⟩
  ·exact .inr h
 ·rintro(⟨a,h1,h2⟩ | h)
  ·exact .inl ⟨a,h1,h2.symm⟩
  ·exact .inr h
theorem ready_alt (hf:PiOk ops.size f g){listed listed':Array Bool}(h:PermL ops.size f listed listed'){i:Nat}(hx:i=x->listed.getD y false=true)(hi:i∈Region.ready .any ops listed):f i∈Region.ready .any (altOps ops f g x y) listed':=by
 obtain⟨o,h1,h2,h3⟩:=(ready_mem h.1).1 hi;refine(ready_mem (by rw[alt_size];exact h.2.1)).2 ⟨_,by rw[alt_get hf,h1];rfl,by rw[h.get hf];exact h2,fun e he hb=> ?_⟩;rcases rm_after.1 he with⟨e0,h4,rfl⟩ | h4
 ·rw[h.get hf];exact h3 e0 h4 hb
 ·by_cases e':i=x
  ·rw[if_pos e']at h4;have:e=⟨f y,.chain⟩:=by simpa using h4
   subst this;rw[h.get hf];exact hx e'
  ·rw[if_neg e']at h4;simp at h4
theorem ready_back (hf:PiOk ops.size f g)(h:PermL ops.size f listed listed')(hr:Region.ready .any ops listed=[]):Region.ready .any (altOps ops f g x y) listed'=[]:=by
 cases hc:Region.ready .any (altOps ops f g x y) listed' with
 | nil=>rfl
 | cons j r =>
  exfalso
  have hj:j∈Region.ready .any (altOps ops f g x y) listed':=by rw[hc];simp
  obtain⟨o',h1,h2,h3⟩:=(ready_mem (by rw[alt_size];exact h.2.1)).1 hj;have hjn:j<ops.size:=by have:=(Array.getElem?_eq_some_iff.1 h1).1;rwa [alt_size]at this
  obtain⟨g1,g2⟩:=hf.sur j hjn;rw[←g2,alt_get hf]at h1;obtain⟨o,ho,rfl⟩:=Option.map_eq_some_iff.1 h1;have:g j∈Region.ready .any ops listed:=(ready_mem h.1).2 ⟨o,ho,by rw[←h.get hf,g2];exact h2,fun e he hb=>by
   rw[←h.get hf];exact h3 _ (rm_after.2 (.inl ⟨e,he,rfl⟩)) hb⟩
  rw[hr]at this;cases this
end
section
variable {P : Program} {O : Oracle} {ops : Array Oper} {Q : Exit -> Act -> World -> Prop}
structure Drawn (P:Program)(O:Oracle)(ops:Array Oper)(ts:List IV)(H:Heap)(ts':List IV)(H':Heap)(A:Nat->Nat->Bool)(S:Nat->List IV×Heap)(V:Nat->IV):Prop where
 L:Looks P ops A
 W:Walk P O ops ops.toList ts H ts' H' S V
 lo:∀(i:Nat) (o:Oper),ops[i]? =some o->isE P o.op=false->readsH o.op=true->iwanted ops o (S i).1=true->∀(j:Nat) (p:Oper),ops[j]? =some p->isE P p.op=true->A i j=false->A j i=false->iq P (S j).2 (env (S i).1) o.op=some (V i)/\iq P (S (j+1)).2 (env (S i).1) o.op=some (V i)
theorem idraw_drawn {ts ts':List IV}{H H':Heap}(e:idraw P O ops ts H=some (ts',H')):∃A S V,Drawn P O ops ts H ts' H' A S V:=by
 unfold idraw at e;split at e
 ·rename_i hok;have L:=okDraw_looks hok;have key:∀recs,itrace P O ops ops.toList ts H=some (recs,(ts',H'))->(∀ij∈loose P ops,looseOk P ops recs ij=true)->∃A S V,Drawn P O ops ts H ts' H' A S V:=by
   intro recs ht hlo;obtain⟨g1,W,g3⟩:=walk_of ht;refine⟨_,_,_,L,W,fun i o ho hE hr hw j p hp hE2 hA1 hA2=> ?_⟩;have:=hlo _ (loose_mem ho hp hE hr hE2 hA1 hA2);have hi:i<recs.length:=by rw[g1,Array.length_toList];exact(Array.getElem?_eq_some_iff.1 ho).1
   have hj:j<recs.length:=by rw[g1,Array.length_toList];exact(Array.getElem?_eq_some_iff.1 hp).1
   unfold looseOk at this;simp only[ho,List.getElem?_eq_getElem hi,List.getElem?_eq_getElem hj]at this;have s1:(stAt recs (ts',H') i).1=recs[i].ts:=by simp[stAt,List.getElem?_eq_getElem hi]
   have s2:vAt recs i=recs[i].v:=by simp[vAt,List.getElem?_eq_getElem hi]
   have s3:(stAt recs (ts',H') j).2=recs[j].h:=by simp[stAt,List.getElem?_eq_getElem hj]
   have s4:=g3 j recs[j] (List.getElem?_eq_getElem hj);rw[s1]at hw ⊢;rw[s2,s3,←s4];simp only[hw,Bool.not_true,Bool.false_or,Bool.and_eq_true]at this;exact⟨ivo_eq this.1,ivo_eq this.2⟩
  split at e
  ·rename_i hl;obtain⟨recs,ht⟩:=iops_trace e;exact key recs ht (by rw[hl];simp)
  ·rename_i p ps hl;obtain⟨⟨recs,q⟩,ht,e⟩:=obs e;split at e
   ·rename_i hall
    cases e
    refine key recs ht (fun ij hij=> ?_);rw[hl]at hij;exact List.all_eq_true.1 hall ij hij
   ·cases e
 ·cases e
end
end Go.Shade
namespace Go.Shade
open Go.RowKit
inductive Ord where
 | leaf
 | node (c z:Nat) (L:List Nat) (l r:Ord)
def fOf (n:Nat)(L:List Nat)(i:Nat):Nat:=if i<n then L.idxOf i else i
def gOf (L:List Nat)(j:Nat):Nat:=L.getD j j
def permOk (n:Nat)(L:List Nat):Bool:=(List.range n).all fun i=>Nat.blt (L.idxOf i) n&&(Nat.beq (L.getD (L.idxOf i) (L.idxOf i)) i&&(Nat.blt (L.getD i i) n&&Nat.beq (L.idxOf (L.getD i i)) i))
theorem permOk_pi {n:Nat}{L:List Nat}(h:permOk n L=true):PiOk n (fOf n L) (gOf L):=by
 unfold permOk at h;rw[List.all_eq_true]at h;have key:∀i,i<n->L.idxOf i<n/\L.getD (L.idxOf i) (L.idxOf i)=i/\L.getD i i<n/\L.idxOf (L.getD i i)=i:=fun i hi=>by
  have:=h i (List.mem_range.2 hi);simp only[Bool.and_eq_true]at this;obtain⟨h1,h2,h3,h4⟩:=this;exact⟨nble h1,Nat.eq_of_beq_eq_true h2,nble h3,Nat.eq_of_beq_eq_true h4⟩
 refine⟨fun i hi=> ?_,fun i hi=> ?_,fun j hj=> ?_⟩
 ·obtain⟨h1,h2,_⟩:=key i hi;unfold fOf gOf;rw[if_pos hi];exact⟨h1,h2⟩
 ·unfold fOf;rw[if_neg (by omega)];exact hi
 ·obtain⟨_,_,h3,h4⟩:=key j hj;unfold fOf gOf;rw[if_pos h3];exact⟨h3,h4⟩
section
variable (P : Program) (O : Oracle) (R : List IV -> Heap -> Prop) (ts : List IV) (H : Heap)
def TInv :Ord->Array Oper->Array Bool->List IV->Heap->Prop
 | .leaf,ops,listed,tsc,Hc=>∃ts' H' A S V,Drawn P O ops ts H ts' H' A S V/\Inv P ops ts H S V listed tsc Hc/\R ts' H'
 | .node c z L l r,ops,listed,tsc,Hc=>c<z/\z<ops.size/\PiOk ops.size (fOf ops.size L) (gOf L)/\listed.size=ops.size /\
  ((listed.getD c false=true/\TInv l (altOps ops id id z c) listed tsc Hc)∨
   (listed.getD z false=true/\∃listed2,PermL ops.size (fOf ops.size L) listed listed2/\TInv r (altOps ops (fOf ops.size L) (gOf L) c z) listed2 tsc Hc)∨
   (TInv l (altOps ops id id z c) listed tsc Hc/\∃listed2,PermL ops.size (fOf ops.size L) listed listed2/\TInv r (altOps ops (fOf ops.size L) (gOf L) c z) listed2 tsc Hc))
end
section
variable {P : Program} {O : Oracle} {R : List IV -> Heap -> Prop} {ts : List IV} {H : Heap}
theorem TInv.size :∀{t:Ord} {ops:Array Oper} {listed:Array Bool} {tsc:List IV} {Hc:Heap},TInv P O R ts H t ops listed tsc Hc->listed.size=ops.size
 | .leaf,ops,listed,tsc,Hc,h=>by obtain⟨_,_,_,_,_,_,I,_⟩:=h;exact I.size
 | .node ..,ops,listed,tsc,Hc,h=>h.2.2.2.1
theorem TInv.over :∀{t:Ord} {ops:Array Oper} {listed:Array Bool} {tsc:List IV} {Hc:Heap},TInv P O R ts H t ops listed tsc Hc->Region.ready .any ops listed=[]->R tsc Hc:=by
 intro t
 induction t with
 | leaf =>
  intro ops listed tsc Hc h hr;obtain⟨ts',H',A,S,V,D,I,q⟩:=h;obtain⟨rfl,rfl⟩:=I.over D.L D.W hr;exact q
 | node c z L l r ihl ihr =>
  intro ops listed tsc Hc h hr;obtain⟨hc,hz,hp,hs,h⟩:=h;have hp1:PermL ops.size id listed listed:=⟨hs,hs,fun _ _=>rfl⟩;rcases h with⟨_,h⟩ | ⟨_,l2,q,h⟩ | ⟨h,_⟩
  ·exact ihl h (ready_back (piId _) hp1 hr)
  ·exact ihr h (ready_back hp q hr)
  ·exact ihl h (ready_back (piId _) hp1 hr)
theorem TInv.step :∀{t:Ord} {ops:Array Oper} {listed:Array Bool} {tsc:List IV} {Hc:Heap},TInv P O R ts H t ops listed tsc Hc->∀{i:Nat} {o:Oper},i∈Region.ready .any ops listed->ops[i]? =some o ->
  ∃v Hn,iopV P O ops o tsc Hc=some (v,Hn)/\TInv P O R ts H t ops (listed.setIfInBounds i true) (put tsc o.dst v) Hn:=by
 intro t
 induction t with
 | leaf =>
  intro ops listed tsc Hc h i o hi ho;obtain⟨ts',H',A,S,V,D,I,q⟩:=h;obtain⟨o',h1,h2,h3⟩:=(ready_mem I.size).1 hi;rw[ho]at h1;cases h1
  obtain⟨Hn,h4,h5⟩:=I.step D.L D.W ho h2 h3 (fun hE hr hw=>D.lo _ _ ho hE hr hw);exact⟨_,Hn,h4,ts',H',A,S,V,D,h5,q⟩
 | node c z L l r ihl ihr =>
  intro ops listed tsc Hc h i o hi ho;obtain⟨hc,hz,hp,hs,h⟩:=h;have hin:i<ops.size:=(Array.getElem?_eq_some_iff.1 ho).1;have hp1:PermL ops.size id listed listed:=⟨hs,hs,fun _ _=>rfl⟩;have hset:∀k,listed.getD k false=true->(listed.setIfInBounds i true).getD k false=true:=fun k hk=>by
   rw[set_getD (by omega)];split
   ·rfl
   ·exact hk
  have st1:TInv P O R ts H l (altOps ops id id z c) listed tsc Hc->(i=z->listed.getD c false=true)->∃v Hn,iopV P O ops o tsc Hc=some (v,Hn)/\TInv P O R ts H l (altOps ops id id z c) (listed.setIfInBounds i true) (put tsc o.dst v) Hn:=by
   intro hl hx;obtain⟨v,Hn,h4,h5⟩:=ihl hl (ready_alt (x:=z) (y:=c) (piId _) hp1 hx hi) (by rw[alt_get (piId _),ho];rfl);rw[iopV_alt (piId _)]at h4;exact⟨v,Hn,h4,h5⟩
  have st2:∀l2,PermL ops.size (fOf ops.size L) listed l2->TInv P O R ts H r (altOps ops (fOf ops.size L) (gOf L) c z) l2 tsc Hc->(i=c->listed.getD z false=true)->∃v Hn,iopV P O ops o tsc Hc=some (v,Hn)/\TInv P O R ts H r (altOps ops (fOf ops.size L) (gOf L) c z) (l2.setIfInBounds (fOf ops.size L i) true) (put tsc o.dst v) Hn:=by
   intro l2 q hl hx;obtain⟨v,Hn,h4,h5⟩:=ihr hl (ready_alt (x:=c) (y:=z) hp q hx hi) (by rw[alt_get hp,ho];rfl);rw[iopV_alt hp]at h4;exact⟨v,Hn,h4,h5⟩
  have hs':(listed.setIfInBounds i true).size=ops.size:=by simpa using hs
  have here:(listed.setIfInBounds i true).getD i false=true:=by rw[set_getD (by omega),if_pos rfl]
  rcases h with⟨hcl,h⟩ | ⟨hzl,l2,q,h⟩ | ⟨h,l2,q,h'⟩
  ·obtain⟨v,Hn,h4,h5⟩:=st1 h (fun _=>hcl);exact⟨v,Hn,h4,hc,hz,hp,hs',.inl ⟨hset _ hcl,h5⟩⟩
  ·obtain⟨v,Hn,h4,h5⟩:=st2 l2 q h (fun _=>hzl);exact⟨v,Hn,h4,hc,hz,hp,hs',.inr (.inl ⟨hset _ hzl,_,q.set hp hin,h5⟩)⟩
  ·by_cases e1:i=c
   ·obtain⟨v,Hn,h4,h5⟩:=st1 h (fun e=>absurd (e1.symm.trans e) (by omega));exact⟨v,Hn,h4,hc,hz,hp,hs',.inl ⟨by rw[←e1];exact here,h5⟩⟩
   by_cases e2:i=z
   ·obtain⟨v,Hn,h4,h5⟩:=st2 l2 q h' (fun e=>absurd (e.symm.trans e2) (by omega));exact⟨v,Hn,h4,hc,hz,hp,hs',.inr (.inl ⟨by rw[←e2];exact here,_,q.set hp hin,h5⟩)⟩
   obtain⟨v,Hn,h4,h5⟩:=st1 h (fun e=>absurd e e2);obtain⟨v',Hn',h6,h7⟩:=st2 l2 q h' (fun e=>absurd e e1);rw[h4]at h6;simp only[Option.some.injEq,Prod.mk.injEq]at h6;obtain⟨rfl,rfl⟩:=h6;exact⟨v,Hn,h4,hc,hz,hp,hs',.inr (.inr ⟨h5,_,q.set hp hin,h7⟩)⟩
theorem wp_tree (hφ:Sound P O){t:Ord}{ops:Array Oper}{Q:Exit->Act->World->Prop}{B0:Nat}{w0:World} :
  ∀(fuel:Nat) (listed:Array Bool) (tsc:List IV) (Hc:Heap) (m:Mp) (a:Act) (w:World),TInv P O R ts H t ops listed tsc Hc->open_ ops.size listed<=fuel->Rel B0 w0 m Hc w->TR m tsc a ->
   (∀ts' H',R ts' H'->∀m' a' w',Ext m m'->Rel B0 w0 m' H' w'->TR m' ts' a'->Q .normal a' w')->wpAny P .any ops Q fuel listed a w:=by
 intro fuel
 induction fuel with
 | zero =>
  intro listed tsc Hc m a w I hf hR hT hQ;have hr:Region.ready .any ops listed=[]:=by
   cases h:Region.ready .any ops listed with
   | nil=>rfl
   | cons i r =>
    obtain⟨o,h1,h2,_⟩:=(ready_mem I.size).1 (show i∈Region.ready .any ops listed by rw[h];simp);have:=open_set I.size (Array.getElem?_eq_some_iff.1 h1).1 h2;omega
  exact⟨hr,hQ _ _ (I.over hr) m a w (Ext.refl m) hR hT⟩
 | succ fuel ih =>
  intro listed tsc Hc m a w I hf hR hT hQ;refine⟨fun hr=>hQ _ _ (I.over hr) m a w (Ext.refl m) hR hT,fun i hi=> ?_⟩;obtain⟨o,ho,hu,_⟩:=(ready_mem I.size).1 hi;have hin:i<ops.size:=(Array.getElem?_eq_some_iff.1 ho).1;have o1:=open_set I.size hin hu;obtain⟨v,Hn,h4,h5⟩:=I.step hi ho;refine wp_iop hφ ho h4 hR hT (fun m' w' u hm hR' hv=> ?_);exact ih _ _ Hn m' _ _ h5 (by omega) hR' ((hT.ext hm).put _ hv) (fun ts' H' q m2 a2 w2 g1 g2 g3=>hQ ts' H' q m2 a2 w2 (hm.trans g1) g2 g3)
def TAll (P:Program)(O:Oracle)(R:List IV->Heap->Prop)(ts:List IV)(H:Heap):Ord->Array Oper->Prop
 | .leaf,ops=>∃ts' H',idraw P O ops ts H=some (ts',H')/\R ts' H'
 | .node c z L l r,ops=>c<z/\z<ops.size/\permOk ops.size L=true/\TAll P O R ts H l (altOps ops id id z c)/\TAll P O R ts H r (altOps ops (fOf ops.size L) (gOf L) c z)
theorem TAll.first :∀{t:Ord} {ops:Array Oper},TAll P O R ts H t ops->TInv P O R ts H t ops (Array.replicate ops.size false) ts H:=by
 intro t
 induction t with
 | leaf =>
  intro ops h;obtain⟨ts',H',e,q⟩:=h;obtain⟨A,S,V,D⟩:=idraw_drawn e;exact⟨ts',H',A,S,V,D,Inv.first D.W,q⟩
 | node c z L l r ihl ihr =>
  intro ops h;obtain⟨h1,h2,h3,h4,h5⟩:=h;have a1:=ihl h4;have a2:=ihr h5;rw[alt_size]at a1 a2;have hf:∀i,(Array.replicate ops.size false).getD i false=false:=by
   intro i;simp only[Array.getD_eq_getD_getElem?,Array.getElem?_replicate];split<;>rfl
  exact⟨h1,h2,permOk_pi h3,by simp,.inr (.inr ⟨a1,_,⟨by simp,by simp,fun i _=>by rw[hf,hf]⟩,a2⟩)⟩
theorem wp_orders (hφ:Sound P O)(hm:P.follows .mixedOrders=true){id':Nat}{t:Ord}{ops:Array Oper}{Q:Exit->Act->World->Prop}{B0:Nat}{w0 w:World}{m:Mp}{a:Act}(h:TAll P O R ts H t ops)(hR:Rel B0 w0 m H w)(hT:TR m ts a)
  (hQ:∀ts' H',R ts' H'->∀m' a' w',Ext m m'->Rel B0 w0 m' H' w'->TR m' ts' a'->Q .normal a' w'):(Code.region id' ops true).wp P Q a w:=by
 refine wp_region_any hm ?_;have hle:open_ ops.size (Array.replicate ops.size false)<=ops.size:=by
  unfold open_;exact Nat.le_trans List.countP_le_length (by simp)
 exact wp_tree hφ ops.size _ ts H m a _ h.first hle (hR.drew _) hT hQ
end
end Go.Shade
namespace Go.Shade
open Go.RowKit
variable {P : Program} {n : Nat} {ops : Array Oper} {O : Oracle}
structure POp where
 d:Option Nat
 op:Op
 g:Option (Nat×Bool)
inductive PC where
 | skip
 | reg (l:List POp)
 | drw (l:List POp) (ps:List (Nat×Nat))
 | seq (a b:PC)
 | cond (c:Operand) (a b:PC)
 | block (id:Nat) (a:PC)
 | loop (a:PC)
 | exit (id:Nat)
 | ret
 | alt (a b:PC)
 deriving Inhabited
abbrev Sg :=List (Nat×IV)
def lk :Sg->Nat->IV
 | [],_=>.tuple []
 | (s,v)::r,t=>if s==t then v else lk r t
def penv (E:Sg):Env
 | .tmp t=>some (lk E t)
 | .const v=>ofV v
 | .func f=>some (.func (.func f) [] [])
 | .global _=>none
def pput (E:Sg)(d:Option Nat)(v:IV):Sg :=
 match d with
 | some t=>(t,v)::E
 | none=>E
def isB (x:IV)(want:Bool):Bool :=
 match x with
 | .bool b=>b==want
 | _=>false
def popV (P:Program)(O:Oracle)(p:POp)(E:Sg)(H:Heap):Option (IV×Heap) :=
 match p.g with
 | none=>stepV P O H (istep P H (penv E) p.op)
 | some (t,want)=>if isB (lk E t) want then stepV P O H (istep P H (penv E) p.op)else some (.tuple [],H)
def pops (P:Program)(O:Oracle):List POp->Sg->Heap->Option (Sg×Heap)
 | [],E,H=>some (E,H)
 | p::ps,E,H=>(popV P O p E H).bind fun r=>pops P O ps (pput E p.d r.1) r.2
structure PRec where
 p:POp
 E:Sg
 h:Heap
 v:IV
 h':Heap
def ptrace (P:Program)(O:Oracle):List POp->Sg->Heap->Option (List PRec×Sg×Heap)
 | [],E,H=>some ([],E,H)
 | p::ps,E,H=>(popV P O p E H).bind fun r=>(ptrace P O ps (pput E p.d r.1) r.2).bind fun q=>some (⟨p,E,H,r.1,r.2⟩::q.1,q.2)
def pwanted (p:POp)(E:Sg):Bool:=match p.g with
 | none=>true
 | some (t,want)=>isB (lk E t) want
def plooseOk (P:Program)(recs:List PRec)(ij:Nat×Nat):Bool :=
 match recs[ij.1]?,recs[ij.2]? with
 | some r,some s=> !(pwanted r.p r.E)||(ivo (iq P s.h (penv r.E) r.p.op) r.v&&ivo (iq P s.h' (penv r.E) r.p.op) r.v)
 | _,_=>false
def pdraw (P:Program)(O:Oracle)(l:List POp)(ps:List (Nat×Nat))(E:Sg)(H:Heap):Option (Sg×Heap) :=
 match ps with
 | []=>pops P O l E H
 | p::ps=>(ptrace P O l E H).bind fun q=>if(p::ps).all (plooseOk P q.1)then some q.2 else none
abbrev PBody :=Sg->Heap->Option (IX×Sg×Heap)
def piter (body:PBody):Nat->PBody
 | 0,_,_=>none
 | k+1,E,H=>(body E H).bind fun r=>match r with
  | (.normal,σ',H')=>piter body k σ' H'
  | r=>some r
def pexec (P:Program)(O:Oracle)(n:Nat):PC->PBody
 | .skip,E,H=>some (.normal,E,H)
 | .reg l,E,H=>(pops P O l E H).bind fun r=>some (.normal,r.1,r.2)
 | .drw l ps,E,H=>(pdraw P O l ps E H).bind fun r=>some (.normal,r.1,r.2)
 | .seq a b,E,H=>(pexec P O n a E H).bind fun r=>match r with
  | (.normal,σ',H')=>pexec P O n b σ' H'
  | r=>some r
 | .cond c a b,E,H=>match penv E c with
  | some (.bool true)=>pexec P O n a E H
  | some (.bool false)=>pexec P O n b E H
  | _=>none
 | .block id a,E,H=>(pexec P O n a E H).bind fun r=>match r with
  | (.exit id',σ',H')=>if id'=id then some (.normal,σ',H')else some (.exit id',σ',H')
  | r=>some r
 | .loop a,E,H=>piter (pexec P O n a) n E H
 | .exit id,E,H=>some (.exit id,E,H)
 | .ret,E,H=>some (.ret,E,H)
 | .alt _ _,_,_=>none
def okOpd (n:Nat):Operand->Bool
 | .tmp t=>decide (t<n)
 | _=>true
def pOper (n:Nat)(ops:Array Oper)(o:Oper):Option POp :=
 if(o.op.operands.toList.all (okOpd n))&&(match o.dst with | some d=>decide (d<n) | none=>true)then
  match o.guard with
  | none=>some ⟨o.dst,o.op,none⟩
  | some (j,want)=>match (ops[j]?).bind (·.dst)with
   | some t=>if t<n then some ⟨o.dst,o.op,some (t,want)⟩else none
   | none=>none
 else none
def pOpers (n:Nat)(ops:Array Oper):List Oper->Option (List POp)
 | []=>some []
 | o::os=>(pOper n ops o).bind fun p=>(pOpers n ops os).bind fun ps=>some (p::ps)
def altAt (P:Program)(ops:Array Oper):Option (Nat×Nat) :=
 let l:=ops.toList
 let A:=ancs l []
 (l.zipIdx.flatMap fun(o,i)=>if isE P o.op then l.zipIdx.filterMap fun(p,j)=>if isE P p.op&&decide (i<j)&& !((A.getD j 0).testBit i)then some (i,j)else none else []).head?
def aheadL (l:List Oper)(c z:Nat):List Nat :=
 let m:=(ancs l []).getD z 0
 List.range c++((List.range' c (z - c)).filter (m.testBit ·)++(z::((List.range' c (z - c)).filter (!m.testBit ·)++List.range' (z+1) (l.length - (z+1)))))
def ordOf (P:Program):Nat->Array Oper->Ord
 | 0,_=>.leaf
 | k+1,ops=>match altAt P ops with
  | none=>.leaf
  | some (c,z)=>.node c z (aheadL ops.toList c z) (ordOf P k (altOps ops id id z c)) (ordOf P k (altOps ops (fOf ops.size (aheadL ops.toList c z)) (gOf (aheadL ops.toList c z)) c z))
def compT (P:Program)(n:Nat):Ord->Array Oper->Option PC
 | .leaf,ops=>if okDraw P ops=true then(pOpers n ops ops.toList).bind fun l=>some (.drw l (loose P ops))else none
 | .node c z L l r,ops=>if c<z/\z<ops.size/\permOk ops.size L=true then
   (compT P n l (altOps ops id id z c)).bind fun a=>(compT P n r (altOps ops (fOf ops.size L) (gOf L) c z)).bind fun b=>some (.alt a b)
  else none
def compileA (P:Program)(n:Nat)(ops:Array Oper):Option PC:=compT P n (ordOf P 8 ops) ops
def compile (P:Program)(n:Nat):Code->Option PC
 | .skip=>some .skip
 | .label _=>some .skip
 | .region _ ops false=>(pOpers n ops ops.toList).bind fun l=>some (.reg l)
 | .region _ ops true=>if okDraw P ops then(pOpers n ops ops.toList).bind fun l=>some (.drw l (loose P ops))else compileA P n ops
 | .seq a b=>(compile P n a).bind fun x=>(compile P n b).bind fun y=>some (.seq x y)
 | .cond c a b=>if okOpd n c then(compile P n a).bind fun x=>(compile P n b).bind fun y=>some (.cond c x y)else none
 | .block id a=>(compile P n a).bind fun x=>some (.block id x)
 | .loop a=>(compile P n a).bind fun x=>some (.loop x)
 | .exit id=>some (.exit id)
 | .ret=>some .ret
 | .scope a=>compile P n a
 | _=>none
def rep (n:Nat)(E:Sg):List IV:=(List.range n).map (lk E)
theorem rep_length (n:Nat)(E:Sg):(rep n E).length=n:=by simp[rep]
theorem rep_get {t:Nat}(E:Sg)(h:t<n):(rep n E)[t]? =some (lk E t):=by simp[rep,h]
theorem rep_put {d:Option Nat}(hd:∀t,d=some t->t<n)(E:Sg)(v:IV):put (rep n E) d v=rep n (pput E d v):=by
 cases d with
 | none=>rfl
 | some t =>
  have ht:=hd t rfl;apply List.ext_getElem?;intro i;simp only[put,pput];by_cases hi:i<n
  ·rw[rep_get _ hi];by_cases e:t=i
   ·subst e;rw[List.getElem?_set_self (by rw[rep_length];exact ht)];simp[lk]
   ·rw[List.getElem?_set_ne e,rep_get _ hi];simp[lk,e]
  ·rw[List.getElem?_eq_none (by simp[rep_length];omega),List.getElem?_eq_none (by simp[rep_length];omega)]
theorem rep_env {x:Operand}(h:okOpd n x=true)(E:Sg):env (rep n E) x=penv E x:=by
 cases x with
 | tmp t =>
  simp only[okOpd,decide_eq_true_eq]at h;simp only[env,penv,List.getD_eq_getElem?_getD,rep_get E h,Option.getD_some]
 | _=>rfl
theorem rep_opV {o:Oper}{p:POp}(h:pOper n ops o=some p)(E:Sg)(H:Heap) :
  iopV P O ops o (rep n E) H=popV P O p E H/\p.d=o.dst/\p.op=o.op/\(∀t,o.dst=some t->t<n)/\(∀x∈o.op.operands,okOpd n x=true)/\iwanted ops o (rep n E)=pwanted p E:=by
 unfold pOper at h;by_cases hc:((o.op.operands.toList.all (okOpd n))&&(match o.dst with | some d=>decide (d<n) | none=>true))=true
 ·rw[if_pos hc]at h;simp only[Bool.and_eq_true,List.all_eq_true]at hc;obtain⟨h1,h2⟩:=hc;have hd:∀t,o.dst=some t->t<n:=by
   intro t ht;rw[ht]at h2;simpa using h2
  have hop:∀x∈o.op.operands,okOpd n x=true:=fun x hx=>h1 x (by simpa using hx);have hst:∀H,istep P H (env (rep n E)) o.op=istep P H (penv E) o.op:=fun H=>istep_congr (fun x hx=>rep_env (hop x hx) E);split at h
  ·rename_i hg
   cases h
   refine⟨?_,rfl,rfl,hd,hop,by simp[iwanted,pwanted,hg]⟩;unfold iopV popV iwanted stepV;rw[hg];simp only[if_true,hst]
   try rfl
  ·rename_i j want hg;split at h
   ·rename_i t ht;split at h
    ·rename_i htn
     cases h
     have hy:iyield ops (rep n E) j==some want↔isB (lk E t) want=true:=by
      unfold iyield;rw[ht];simp only[Option.bind_some,rep_get E htn]
      cases lk E t<;>simp[isB]
     have hw:iwanted ops o (rep n E)=isB (lk E t) want:=by
      unfold iwanted;rw[hg];rw[Bool.eq_iff_iff];exact hy
     refine⟨?_,rfl,rfl,hd,hop,by rw[hw];rfl⟩;unfold iopV popV;rw[hw];simp only[hst];rfl
    ·cases h
   ·cases h
 ·rw[if_neg hc]at h;cases h
theorem pOpers_get {n:Nat}{ops:Array Oper}:∀{os:List Oper} {ps:List POp},pOpers n ops os=some ps->ps.length=os.length/\∀(i:Nat) (o:Oper),os[i]? =some o->∃p,ps[i]? =some p/\pOper n ops o=some p
 | [],ps,h=>by simp only[pOpers]at h;cases h;simp
 | o::os,ps,h=>by
  simp only[pOpers]at h;obtain⟨p,h1,h⟩:=obs h;obtain⟨ps',h2,h⟩:=obs h
  cases h
  obtain⟨g1,g2⟩:=pOpers_get h2;refine⟨by simp[g1],fun i o' hi=> ?_⟩
  cases i with
  | zero=>simp at hi;subst hi;exact⟨p,by simp,h1⟩
  | succ i=>simpa using g2 i o' (by simpa using hi)
def up (n:Nat)(r:Option (Sg×Heap)):Option (List IV×Heap):=r.bind fun q=>some (rep n q.1,q.2)
theorem rep_ops {P:Program}{O:Oracle}{n:Nat}{ops:Array Oper}:∀{os:List Oper} {ps:List POp},pOpers n ops os=some ps->∀(E:Sg) (H:Heap),iops P O ops os (rep n E) H=up n (pops P O ps E H)
 | [],ps,h,E,H=>by simp only[pOpers]at h;cases h;rfl
 | o::os,ps,h,E,H=>by
  simp only[pOpers]at h;obtain⟨p,h1,h⟩:=obs h;obtain⟨ps',h2,h⟩:=obs h
  cases h
  obtain⟨g1,g2,_,g3,_⟩:=rep_opV (P:=P) (O:=O) h1 E H;simp only[iops,pops,up];rw[g1,Option.bind_assoc]
  congr 1
  funext r
  rw[rep_put g3,←g2];exact rep_ops h2 _ _
theorem rep_trace {P:Program}{O:Oracle}{n:Nat}{ops:Array Oper}:∀{os:List Oper} {ps:List POp},pOpers n ops os=some ps->∀(E:Sg) (H:Heap),
  itrace P O ops os (rep n E) H=(ptrace P O ps E H).bind fun q=>some (q.1.map fun r=>⟨rep n r.E,r.h,r.v,r.h'⟩,rep n q.2.1,q.2.2)
 | [],ps,h,E,H=>by simp only[pOpers]at h;cases h;rfl
 | o::os,ps,h,E,H=>by
  simp only[pOpers]at h;obtain⟨p,h1,h⟩:=obs h;obtain⟨ps',h2,h⟩:=obs h
  cases h
  obtain⟨g1,g2,_,g3,_⟩:=rep_opV (P:=P) (O:=O) h1 E H;simp only[itrace,ptrace];rw[g1,Option.bind_assoc]
  congr 1
  funext r
  rw[rep_put g3,←g2,rep_trace h2,Option.bind_assoc,Option.bind_assoc];rfl
theorem ptrace_ops {P:Program}{O:Oracle}:∀{ps:List POp} {E:Sg} {H:Heap} {q:List PRec×Sg×Heap},ptrace P O ps E H=some q->q.1.map (·.p)=ps
 | [],E,H,q,h=>by simp only[ptrace]at h;cases h;rfl
 | p::ps,E,H,q,h=>by
  simp only[ptrace]at h;obtain⟨r,h1,h⟩:=obs h;obtain⟨q',h2,h⟩:=obs h
  cases h
  simp[ptrace_ops h2]
theorem rep_loose {O:Oracle}{ps:List POp}(h:pOpers n ops ops.toList=some ps){recs:List PRec}(hr:recs.map (·.p)=ps)(ij:Nat×Nat) :
  looseOk P ops (recs.map fun r=>⟨rep n r.E,r.h,r.v,r.h'⟩) ij=plooseOk P recs ij:=by
 obtain⟨i,j⟩:=ij;obtain⟨g1,g2⟩:=pOpers_get h;unfold looseOk plooseOk;simp only[List.getElem?_map]
 cases hi:recs[i]? with
 | none=>cases ops[i]? <;>simp
 | some r =>
  have hps:ps[i]? =some r.p:=by rw[←hr];simp[hi]
  have hil:i<ops.size:=by rw[←Array.length_toList,←g1];exact(ges hps).1
  obtain⟨p,k1,k2⟩:=g2 i ops[i] (by simp[hil]);rw[hps]at k1;cases k1
  rw[Array.getElem?_eq_getElem hil]
  cases hj:recs[j]? with
  | none=>simp
  | some s =>
   simp only[Option.map_some];obtain⟨_,q2,q3,_,q5,q6⟩:=rep_opV (P:=P) (O:=O) k2 r.E r.h;have hq:∀H,iq P H (env (rep n r.E)) ops[i].op=iq P H (penv r.E) r.p.op:=fun H=>by
    rw[q3];exact iq_congr (fun x hx=>rep_env (q5 x hx) r.E)
   rw[q6,hq,hq]
theorem rep_draw {ps:List POp}(hok:okDraw P ops=true)(h:pOpers n ops ops.toList=some ps)(E:Sg)(H:Heap):idraw P O ops (rep n E) H=up n (pdraw P O ps (loose P ops) E H):=by
 unfold idraw pdraw;rw[if_pos hok]
 cases hl:loose P ops with
 | nil=>exact rep_ops h E H
 | cons p l =>
  simp only;rw[rep_trace h];unfold up
  cases ht:ptrace P O ps E H with
  | none=>rfl
  | some q =>
   simp only[Option.bind_some];have he:(p::l).all (looseOk P ops (q.1.map fun r=>⟨rep n r.E,r.h,r.v,r.h'⟩))=(p::l).all (plooseOk P q.1):=by
    congr 1
    funext ij
    exact rep_loose (O:=O) h (ptrace_ops ht) ij
   rw[he];split<;>rfl
def up3 (n:Nat)(r:Option (IX×Sg×Heap)):Option (IX×List IV×Heap):=r.bind fun q=>some (q.1,rep n q.2.1,q.2.2)
theorem rep_exec {k:Nat}:∀(c:Code) (pc:PC),compile P n c=some pc->∀(E:Sg) (H:Heap),iexec P O k c (rep n E) H=up3 n (pexec P O k pc E H):=by
 intro c
 induction c with
 | skip=>intro pc h E H;simp only[compile]at h;cases h;rfl
 | label l=>intro pc h E H;simp only[compile]at h;cases h;rfl
 | exit id=>intro pc h E H;simp only[compile]at h;cases h;rfl
 | ret=>intro pc h E H;simp only[compile]at h;cases h;rfl
 | region id ops draw =>
  intro pc h E H
  cases draw with
  | false =>
   simp only[compile]at h;obtain⟨l,h1,h⟩:=obs h
   cases h
   simp only[iexec,pexec,rep_ops h1,up,up3,Option.bind_assoc];rfl
  | true =>
   simp only[compile]at h;split at h
   ·rename_i hok;obtain⟨l,h1,h⟩:=obs h
    cases h
    simp only[iexec,pexec,rep_draw hok h1,up,up3,Option.bind_assoc];rfl
   ·rename_i hok;have hpc:pexec P O k pc E H=none:=by
     unfold compileA at h;generalize ordOf P 8 ops=t at h
     cases t with
     | leaf=>simp only[compT]at h;rw[if_neg hok]at h;cases h
     | node c z L l r =>
      simp only[compT]at h;split at h
      ·obtain⟨l,_,h⟩:=obs h;obtain⟨l2,_,h⟩:=obs h
       cases h;rfl
      ·cases h
    rw[hpc];simp only[iexec,idraw,if_neg hok];rfl
 | seq a b iha ihb =>
  intro pc h E H;simp only[compile]at h;obtain⟨x,h1,h⟩:=obs h;obtain⟨y,h2,h⟩:=obs h
  cases h
  simp only[iexec,pexec,iha x h1,up3,Option.bind_assoc]
  congr 1
  funext r
  obtain⟨z,σ',H'⟩:=r
  cases z with
  | normal=>simp only[Option.bind_some];exact ihb y h2 σ' H'
  | exit id=>rfl
  | ret=>rfl
 | cond c a b iha ihb =>
  intro pc h E H;simp only[compile]at h;split at h
  ·rename_i hc;obtain⟨x,h1,h⟩:=obs h;obtain⟨y,h2,h⟩:=obs h
   cases h
   simp only[iexec,pexec,rep_env hc];generalize penv E c=q;rcases q with _ | v
   ·rfl
   ·cases v with
    | bool b=>cases b;exact ihb y h2 E H;exact iha x h1 E H
    | _=>rfl
  ·cases h
 | block id a ih =>
  intro pc h E H;simp only[compile]at h;obtain⟨x,h1,h⟩:=obs h
  cases h
  simp only[iexec,pexec,ih x h1,up3,Option.bind_assoc]
  congr 1
  funext r
  obtain⟨z,σ',H'⟩:=r
  cases z with
  | normal=>rfl
  | exit id'=>simp only[Option.bind_some];split<;>rfl
  | ret=>rfl
 | loop a ih =>
  intro pc h E H;simp only[compile]at h;obtain⟨x,h1,h⟩:=obs h
  cases h
  simp only[iexec,pexec];have key:∀(j:Nat) (E:Sg) (H:Heap),iter (iexec P O k a) j (rep n E) H=up3 n (piter (pexec P O k x) j E H):=by
   intro j
   induction j with
   | zero=>intro E H;rfl
   | succ j ihj =>
    intro E H;simp only[iter,piter,ih x h1,up3,Option.bind_assoc]
    congr 1
    funext r
    obtain⟨z,σ',H'⟩:=r
    cases z with
    | normal=>simp only[Option.bind_some];exact ihj σ' H'
    | exit id=>rfl
    | ret=>rfl
  exact key k E H
 | scope a ih=>intro pc h E H;simp only[compile]at h;exact ih pc h E H
 | rangeFunc f ps as body _ _=>intro pc h;simp[compile]at h
 | goto l=>intro pc h;simp[compile]at h
 | refuse why=>intro pc h;simp[compile]at h
end Go.Shade
namespace Go.Shade
open Go.RowKit
variable {P : Program} {f : PBody} {id n : Nat} {O : Oracle}
theorem piter_mono {f g:PBody}(h:∀E H,LeF (f E H) (g E H)):∀(k j:Nat),k<=j->∀E H,LeF (piter f k E H) (piter g j E H)
 | 0,_,_,_,_=>fun r hr=>by simp[piter]at hr
 | k+1,0,hk,_,_=>by omega
 | k+1,j+1,hk,E,H=>by
  simp only[piter];refine(h E H).bind fun r=> ?_;obtain⟨x,σ',H'⟩:=r
  cases x with
  | normal=>exact piter_mono h k j (by omega) σ' H'
  | exit id=>exact LeF.refl _
  | ret=>exact LeF.refl _
theorem pexec_mono {k:Nat}(hn:n<=k):∀(c:PC) (E:Sg) (H:Heap),LeF (pexec P O n c E H) (pexec P O k c E H):=by
 intro c
 induction c with
 | seq c d ihc ihd =>
  intro E H;refine(ihc E H).bind fun r=> ?_;obtain⟨x,σ',H'⟩:=r
  cases x with
  | normal=>exact ihd σ' H'
  | exit id=>exact LeF.refl _
  | ret=>exact LeF.refl _
 | cond c a b iha ihb =>
  intro E H;simp only[pexec];split
  ·exact iha E H
  ·exact ihb E H
  ·exact LeF.refl _
 | block id c ih =>
  intro E H;exact(ih E H).bind fun r=>LeF.refl _
 | loop c ih =>
  intro E H;simp only[pexec];exact piter_mono ih n k hn E H
 | _=>intro E H;exact LeF.refl _
noncomputable def pxd (P:Program)(O:Oracle)(c:PC):PBody:=fun E H=>lim fun n=>pexec P O n c E H
theorem pxd_rising (P:Program)(O:Oracle)(c:PC)(E:Sg)(H:Heap):Rising fun n=>pexec P O n c E H:=fun n k h=>pexec_mono h c E H
theorem pxd_some {c:PC}{E:Sg}{H:Heap}{r:IX×Sg×Heap}:pxd P O c E H=some r↔∃n,pexec P O n c E H=some r:=lim_some (pxd_rising P O c E H)
def pThen (r:Option (IX×Sg×Heap))(f:PBody):Option (IX×Sg×Heap):=r.bind fun q=>match q with
 | (.normal,E,H)=>f E H
 | q=>some q
def pBlock (id:Nat)(r:Option (IX×Sg×Heap)):Option (IX×Sg×Heap):=r.bind fun q=>match q with
 | (.exit id',E,H)=>if id'=id then some (.normal,E,H)else some (.exit id',E,H)
 | q=>some q
section
variable {P : Program} {O : Oracle} {E : Sg} {H : Heap}
theorem pThen_normal :pThen (some (.normal,E,H)) f=f E H:=rfl
theorem pThen_ret :pThen (some (.ret,E,H)) f=some (.ret,E,H):=rfl
theorem pThen_exit :pThen (some (.exit id,E,H)) f=some (.exit id,E,H):=rfl
theorem pBlock_normal :pBlock id (some (.normal,E,H))=some (.normal,E,H):=rfl
theorem pBlock_ret :pBlock id (some (.ret,E,H))=some (.ret,E,H):=rfl
end
def initFrom :Nat->List IV->Sg
 | _,[]=>[]
 | i,v::vs=>(i,v)::initFrom (i+1) vs
theorem lk_initFrom :∀(vs:List IV) (i t:Nat),lk (initFrom i vs) t=if i<=t then(vs[t - i]?).getD (.tuple [])else .tuple []
 | [],i,t=>by simp[initFrom,lk]
 | v::vs,i,t=>by
  simp only[initFrom,lk];by_cases h:i=t
  ·subst h;simp
  ·rw[if_neg (by simpa using h),lk_initFrom vs (i+1) t];by_cases h2:i<=t
   ·rw[if_pos h2,if_pos (by omega),show t - i=(t - (i+1))+1 by omega];simp
   ·rw[if_neg h2,if_neg (by omega)]
theorem rep_init {args:List IV}(h:args.length<=n):args++List.replicate (n - args.length) (.tuple [])=rep n (initFrom 0 args):=by
 apply List.ext_getElem?;intro i;by_cases hi:i<n
 ·rw[rep_get _ hi,lk_initFrom];simp only[Nat.zero_le,if_true,Nat.sub_zero];by_cases h1:i<args.length
  ·rw[List.getElem?_append_left h1];simp[h1]
  ·rw[List.getElem?_append_right (by omega),List.getElem?_eq_none (l:=args) (by omega)];simp only[Option.getD_none];rw[List.getElem?_replicate_of_lt (by omega)]
 ·rw[List.getElem?_eq_none (by simp;omega),List.getElem?_eq_none (by simp[rep_length];omega)]
def presult (P:Program)(E:Sg)(H:Heap):ResultVar->Option IV
 | .tmp t=>some (lk E t)
 | .cell x t=>match lk E x with
  | .ptr b o=>iload P t H b o
  | _=>none
def presults (P:Program)(E:Sg)(H:Heap):List ResultVar->Option (List IV)
 | []=>some []
 | r::rs=>(presult P E H r).bind fun v=>(presults P E H rs).bind fun vs=>some (v::vs)
def okRes (n:Nat):ResultVar->Bool
 | .tmp t=>decide (t<n)
 | .cell x _=>decide (x<n)
theorem rep_result {E:Sg}{H:Heap}{r:ResultVar}(h:okRes n r=true):iresult P (rep n E) H r=presult P E H r:=by
 cases r with
 | tmp t =>
  simp only[okRes,decide_eq_true_eq]at h;simp only[iresult,presult,List.getD_eq_getElem?_getD,rep_get E h,Option.getD_some]
 | cell x t =>
  simp only[okRes,decide_eq_true_eq]at h;simp only[iresult,presult,List.getD_eq_getElem?_getD,rep_get E h,Option.getD_some]
  try (cases lk E x<;>rfl)
theorem rep_results {P:Program}{n:Nat}{E:Sg}{H:Heap}:∀{rs:List ResultVar},rs.all (okRes n)=true->iresults P (rep n E) H rs=presults P E H rs
 | [],_=>rfl
 | r::rs,h=>by
  simp only[List.all_cons,Bool.and_eq_true]at h;simp only[iresults,presults,rep_result h.1,rep_results h.2]
def pback (P:Program)(rs:List ResultVar)(r:Option (IX×Sg×Heap)):Option (IV×Heap):=r.bind fun q=>match q with
 | (.exit _,_,_)=>none
 | (_,E,H)=>(presults P E H rs).bind fun vs=>some (pack vs,H)
structure PFun where
 pc:PC
 rs:List ResultVar
 n:Nat
def compileF (P:Program)(fn:Func):Option PFun :=
 fn.body.bind fun c=>(compile P fn.ntmps c).bind fun pc=>if fn.results.toList.all (okRes fn.ntmps)then some ⟨pc,fn.results.toList,fn.ntmps⟩else none
theorem xd_rep {c:Code}{pc:PC}(h:compile P n c=some pc)(E:Sg)(H:Heap):xd P O c (rep n E) H=up3 n (pxd P O pc E H):=by
 refine lim_eq (xd_rising P O c (rep n E) H) fun v=> ?_;constructor
 ·intro e;obtain⟨q,h1,h2⟩:=obs e;obtain⟨k,hk⟩:=pxd_some.1 h1;exact⟨k,by rw[rep_exec c pc h];unfold up3;rw[hk];exact h2⟩
 ·rintro⟨k,hk⟩;rw[rep_exec c pc h]at hk;obtain⟨q,h1,h2⟩:=obs hk;unfold up3;rw[pxd_some.2 ⟨k,h1⟩];exact h2
theorem den_pbody {T:Table}{f:FuncId}{fn:Func}{pf:PFun}(h:T f=none)(hf:P.funcs[f]? =some fn)(hc:compileF P fn=some pf)(args:List IV)(H:Heap)(hl:args.length<=pf.n) :
  den P T f args H=pback P pf.rs (pxd P (den P T) pf.pc (initFrom 0 args) H):=by
 unfold compileF at hc;obtain⟨c,h1,hc⟩:=obs hc;obtain⟨pc,h2,hc⟩:=obs hc;split at hc
 ·rename_i hr
  cases hc
  rw[den_body h hf h1,rep_init hl,xd_rep h2];unfold back pback up3;rw[Option.bind_assoc]
  congr 1
  funext q
  obtain⟨x,E,H'⟩:=q
  cases x with
  | normal=>simp only[Option.bind_some,rep_results hr]
  | ret=>simp only[Option.bind_some,rep_results hr]
  | exit id=>rfl
 ·cases hc
end Go.Shade
namespace Go.Shade
open Go.RowKit
inductive LArg where
 | t (n:Nat)
 | k (v:IV)
 | f (g:FuncId)
 deriving Inhabited
inductive LS where
 | int | bool | str
 deriving Inhabited,DecidableEq
inductive LEq where
 | bool | ptr | slice | map | func | iface | struct (fs:List (Nat×LS))
 deriving Inhabited
inductive LSl where
 | slice (s:Nat) | str | arr (n s:Nat)
 deriving Inhabited
inductive LLen where
 | str | slice | arr (n:Nat) | map
 deriving Inhabited
inductive LOp where
 | bad
 | mv (x:LArg)
 | pick (c a b:LArg)
 | ld1 (a:LArg)
 | ldn (n:Nat) (a:LArg)
 | chk (x:LArg)
 | bin (op:BinOp) (x y:LArg)
 | eqv (neg:Bool) (e:LEq) (x y:LArg)
 | un (op:UnOp) (x:LArg)
 | cvt (k:IntKind) (x:LArg)
 | s2s (x:LArg)
 | b2s (x:LArg)
 | mkI (t:TypeId) (x:LArg)
 | mkF (fn:Fn) (first cap:List LArg)
 | slc (s:LSl) (x:LArg) (lo hi mx:Option LArg)
 | off (x:LArg) (k:Nat)
 | fld1 (x:LArg) (o:Nat)
 | fldn (x:LArg) (o n:Nat)
 | ix (s:Nat) (x i:LArg)
 | ixa (n s:Nat) (x i:LArg)
 | ixs (x i:LArg)
 | ixg1 (n:Nat) (x i:LArg)
 | lkp (k:LS) (z:IV) (ok:Bool) (x i:LArg)
 | ext (x:LArg) (i:Nat)
 | asrt (t:TypeId) (z:IV) (ok:Bool) (x:LArg)
 | bld (z:List IV) (parts:List (Nat×Nat×LArg))
 | len (l:LLen) (x:LArg)
 | fold (max:Bool) (x:LArg) (ys:List LArg)
 | box (x:LArg)
 | zbox (z:IV)
 | bldS (s n:Nat) (z:List IV) (parts:List (Nat×LArg))
 | st (n:Nat) (a x:LArg)
 | mkM
 | mkMn (x:LArg)
 | mkS (s b:Nat) (z:List IV) (l c:LArg)
 | upd (k:LS) (d i x:LArg)
 | s2b (x:LArg)
 | app (s b:Nat) (d x:LArg)
 | cpy (s:Nat) (d x:LArg)
 | clrM (d:LArg)
 | clrS (z:List IV) (d:LArg)
 | del (k:LS) (d i:LArg)
 | callF (g:FuncId) (args:List LArg)
 | callV (f:LArg) (args:List LArg)
 | rng (x:LArg)
 | nxt (x:LArg)
 | ent (x:LArg)
 | xt (k:Nat) (args:List LArg)
 | cap (x:LArg)
 | appz (s b:Nat) (z:List IV) (d x:LArg)
 | inv (tbl:List (Nat×FuncId×Nat)) (x:LArg) (args:List LArg)
 | ovl (x y:LArg)
 deriving Inhabited
def la (E:Sg):LArg->IV
 | .t n=>lk E n
 | .k v=>v
 | .f g=>.func (.func g) [] []
def las (E:Sg):List LArg->List IV
 | []=>[]
 | x::xs=>la E x::las E xs
def lop? (E:Sg):Option LArg->Option IV
 | none=>none
 | some x=>some (la E x)
def isLS :LS->IV->Bool
 | .int,.int .. =>true
 | .bool,.bool _=>true
 | .str,.str _=>true
 | _,_=>false
def lfields :List (Nat×LS)->List IV->List IV->Option Bool
 | [],_,_=>some true
 | (o,k)::fs,xs,ys=>match xs[o]?,ys[o]? with
  | some x,some y=>if isLS k x&&isLS k y then(cellEq x y).bind fun b=>(lfields fs xs ys).bind fun r=>some (b&&r)else none
  | _,_=>none
def leq :LEq->IV->IV->Option Bool
 | .bool,.bool a,.bool b=>some (a==b)
 | .ptr,.nilPtr,.nilPtr=>some true
 | .ptr,.nilPtr,.ptr _ _=>some false
 | .ptr,.ptr _ _,.nilPtr=>some false
 | .ptr,.ptr b o,.ptr b' o'=>if b=b' then some (o==o')else none
 | .slice,.nilSlice,.nilSlice=>some true
 | .slice,.nilSlice,.slice .. =>some false
 | .slice,.slice ..,.nilSlice=>some false
 | .map,.nilMap,.nilMap=>some true
 | .map,.nilMap,.map _=>some false
 | .map,.map _,.nilMap=>some false
 | .func,.nilFunc,.nilFunc=>some true
 | .func,.nilFunc,.func .. =>some false
 | .func,.func ..,.nilFunc=>some false
 | .iface,.nilIface,.iface .. =>some false
 | .iface,.iface ..,.nilIface=>some false
 | .struct fs,.agg xs,.agg ys=>lfields fs xs ys
 | _,_,_=>none
def lbin (op:BinOp)(x y:IV):Option IV :=
 match x,y with
 | .int k a,.int k' b =>
  match op with
  | .shl | .shr=>ishift op k a b
  | _=>if k=k' then iarith op k a b else none
 | .str a,.str b=>istr op a b
 | _,_=>none
def lload1 (H:Heap)(a:IV):Option IV :=
 match a with
 | .ptr b o=>match H[b]? with
  | some (.row cs _)=>cs[o]?
  | _=>none
 | _=>none
def lloadn (H:Heap)(n:Nat)(a:IV):Option IV :=
 match a with
 | .ptr b o=>match H[b]? with
  | some (.row cs _)=>if o+n<=cs.length then some (.agg ((cs.drop o).take n))else none
  | _=>none
 | _=>none
def lsl (H:Heap)(s:Nat)(x:IV)(n:Nat):Option (List IV) :=
 match x with
 | .nilSlice=>if n=0 then some []else none
 | .slice b o len _ _ _=>if n<=len then(if n=0 then some []else irow H b o (n*s))else none
 | _=>none
def lslice (H:Heap)(k:LSl)(x:IV)(lo hi mx:Option IV):Option IV :=
 match k,x with
 | .slice s,.slice b o n lb ex sz =>
  (bnd n hi).bind fun h=>(bnd 0 lo).bind fun l =>
   if sz≠0/\sz≠s then none else
   match mx with
   | none=>if l<=h/\h<=lb then some (.slice b (o+l*s) (h - l) (lb - l) ex sz)else none
   | some z=>(bnd 0 (some z)).bind fun k=>if hi.isSome=true/\l<=h/\h<=k/\k<=lb then some (.slice b (o+l*s) (h - l) (k - l) true sz)else none
 | .slice _,.nilSlice=>if nilSl lo hi mx then some .nilSlice else none
 | .str,.str s=>(bnd s.length hi).bind fun h=>(bnd 0 lo).bind fun l=>if mx.isNone=true/\l<=h/\h<=s.length then some (.str ((s.drop l).take (h - l)))else none
 | .arr n s,.ptr b o=>(bnd n hi).bind fun h=>(bnd 0 lo).bind fun l =>
   match H[b]? with
   | some (.row cs false)=>if mx.isNone=true/\l<=h/\h<=n/\o+n*s<=cs.length then some (.slice b (o+l*s) (h - l) (n - l) true s)else none
   | _=>none
 | _,_=>none
def llookup (H:Heap)(k:LS)(z:IV)(ok:Bool)(x key:IV):Option IV :=
 (iment H x).bind fun es=>if isLS k key then
  (ifind key es 0).bind fun r=>match r with
   | some (_,v)=>some (if ok then .tuple [v,.bool true]else v)
   | none=>some (if ok then .tuple [z,.bool false]else z)
  else none
def llen (H:Heap)(l:LLen)(x:IV):Option IV :=
 match l,x with
 | .str,.str s=>some (.int .i64 s.length)
 | .slice,.slice _ _ n _ _ _=>some (.int .i64 n)
 | .slice,.nilSlice=>some (.int .i64 0)
 | .arr n,_=>some (.int .i64 n)
 | .map,x=>(iment H x).bind fun es=>some (.int .i64 es.length)
 | _,_=>none
def lfill (cells:List IV):List (Nat×Nat×IV)->Option (List IV)
 | []=>some cells
 | (off,size,v)::rest=>if isTuple v=false/\v.cells.length=size/\off+size<=cells.length then lfill (putAt cells off v.cells) rest else none
def lparts (E:Sg):List (Nat×Nat×LArg)->List (Nat×Nat×IV)
 | []=>[]
 | (o,s,x)::r=>(o,s,la E x)::lparts E r
def lps (E:Sg):List (Nat×LArg)->List (Nat×IV)
 | []=>[]
 | (o,x)::r=>(o,la E x)::lps E r
def lq (H:Heap)(E:Sg):LOp->Option IV
 | .mv x=>some (la E x)
 | .pick c a b=>match la E c with
  | .bool true=>some (la E a)
  | .bool false=>some (la E b)
  | _=>none
 | .ld1 a=>lload1 H (la E a)
 | .ldn n a=>lloadn H n (la E a)
 | .chk x=>match la E x with
  | .ptr b o=>some (.ptr b o)
  | .iface t v=>some (.iface t v)
  | .func (.func f) a b=>some (.func (.func f) a b)
  | _=>none
 | .bin op x y=>lbin op (la E x) (la E y)
 | .eqv neg e x y=>(leq e (la E x) (la E y)).bind fun b=>some (.bool (if neg then !b else b))
 | .un op x=>iun op (la E x)
 | .cvt k x=>match la E x with
  | .int _ n=>some (.int k (k.wrap n))
  | _=>none
 | .s2s x=>match la E x with
  | .str s=>some (.str s)
  | _=>none
 | .b2s x=>match la E x with
  | .nilSlice=>some (.str [])
  | .slice b o n lb ex sz=>(lsl H 1 (.slice b o n lb ex sz) n).bind fun cs=>(ibytes cs).bind fun l=>some (.str l)
  | _=>none
 | .mkI t x=>some (.iface t (la E x))
 | .mkF fn first cap=>some (.func fn (las E first) (las E cap))
 | .slc k x lo hi mx=>lslice H k (la E x) (lop? E lo) (lop? E hi) (lop? E mx)
 | .off x k=>match la E x with
  | .ptr b o=>some (.ptr b (o+k))
  | _=>none
 | .fld1 x o=>match la E x with
  | .agg cs=>cs[o]?
  | _=>none
 | .fldn x o n=>match la E x with
  | .agg cs=>if o+n<=cs.length then some (.agg ((cs.drop o).take n))else none
  | _=>none
 | .ix s x i=>match la E x,la E i with
  | .slice b o n _ _ _,.int _ j=>if 0<=j/\j<n then some (.ptr b (o+j.toNat*s))else none
  | _,_=>none
 | .ixa n s x i=>match la E x,la E i with
  | .ptr b o,.int _ j=>if 0<=j/\j<n then some (.ptr b (o+j.toNat*s))else none
  | _,_=>none
 | .ixs x i=>match la E x,la E i with
  | .str s,.int _ j=>if 0<=j then(s[j.toNat]?).bind fun c=>some (.int .u8 c.toNat)else none
  | _,_=>none
 | .ixg1 n x i=>match la E x,la E i with
  | .agg cs,.int _ j=>if 0<=j/\j<n then cs[j.toNat]? else none
  | _,_=>none
 | .lkp k z ok x i=>llookup H k z ok (la E x) (la E i)
 | .ext x i=>iextract (la E x) i
 | .asrt t z ok x=>match la E x with
  | .nilIface=>if ok then some (.tuple [z,.bool false])else none
  | .iface t' v=>if t'=t then some (if ok then .tuple [v,.bool true]else v)else if ok then some (.tuple [z,.bool false])else none
  | _=>none
 | .bld z parts=>(lfill z (lparts E parts)).bind fun r=>some (.agg r)
 | .len l x=>llen H l (la E x)
 | .ent x=>ientry H (la E x)
 | .fold max x ys=>ifold (if max then imax2 else imin2) (la E x) (las E ys)
 | _=>none
def lstore (H:Heap)(n:Nat)(a x:IV):Option Heap :=
 match a with
 | .ptr b o=>match H[b]? with
  | some (.row cs false)=>if isTuple x=false/\x.cells.length=n/\o+x.cells.length<=cs.length/\x.cells.all IV.one=true then some (H.set b (.row (putAt cs o x.cells) false))else none
  | _=>none
 | _=>none
def lxcells (H:Heap)(s:Nat)(x:IV)(n:Nat):Option (List IV) :=
 match x with
 | .str s=>some ((s.take n).map fun b=>.int .u8 b.toNat)
 | x=>lsl H s x n
def lfresh (s by_:Nat)(H:Heap)(old new:List IV)(k:Nat):Option (INext×Heap) :=
 if k*by_<=140737488355328/\(old++new).length=k*s then some (.val (.slice H.length 0 k k false s),H++[.row (old++new) false])else none
def lappend (H:Heap)(sz by_:Nat)(s x:IV):Option (INext×Heap) :=
 (xlen x).bind fun n =>
  if n=0 then(match s with
   | .nilSlice=>some (.val .nilSlice,H)
   | .slice b o len lb ex sz'=>some (.val (.slice b o len lb ex sz'),H)
   | _=>none)
  else(lxcells H sz x n).bind fun new =>
   if new.length=n*sz/\new.all IV.one=true then
    match s with
    | .nilSlice=>lfresh sz by_ H [] new n
    | .slice b o len lb ex sz' =>
     if len+n<=lb then
      match H[b]? with
      | some (.row cs false)=>if o+len*sz+new.length<=cs.length then some (.val (.slice b o (len+n) lb ex sz'),H.set b (.row (putAt cs (o+len*sz) new) false))else none
      | _=>none
     else(lsl H sz (.slice b o len lb ex sz') len).bind fun old =>
      if ex=true then lfresh sz by_ H old new (len+n)
      else match H[b]? with
       | some (.row _ false)=>if sz'=sz then lfresh sz by_ (H.set b .dead) old new (len+n)else none
       | _=>none
    | _=>none
   else none
def lcap (x:IV):Option IV :=
 match x with
 | .nilSlice=>some (.int .i64 0)
 | .slice _ _ _ lb true _=>some (.int .i64 lb)
 | _=>none
def lappz (H:Heap)(sz by_:Nat)(z:List IV)(s x:IV):Option (INext×Heap) :=
 match x with
 | .int _ k=>if 0<k then
   match s with
   | .nilSlice=>if k.toNat*by_<=140737488355328 then some (.val (.slice H.length 0 k.toNat k.toNat false sz),H++[.row (zrep k.toNat z) false])else none
   | .slice b o len lb ex sz'=>if lb<len+k.toNat/\ex=true then(lsl H sz (.slice b o len lb ex sz') len).bind fun old =>
     if(len+k.toNat)*by_<=140737488355328/\old.length=len*sz then some (.val (.slice H.length 0 (len+k.toNat) (len+k.toNat) false sz),H++[.row (old++zrep k.toNat z) false])else none
    else none
   | _=>none
  else none
 | _=>none
def invFind :List (Nat×FuncId×Nat)->Nat->Option (FuncId×Nat)
 | [],_=>none
 | (t,f)::l,u=>if Nat.beq t u then some f else invFind l u
def irecv (H:Heap)(k:Nat)(v:IV):Option IV :=
 match k with
 | 0=>some v
 | 1=>lload1 H v
 | n+2=>lloadn H n v
def lcopy (H:Heap)(sz:Nat)(d x:IV):Option (INext×Heap) :=
 (xlen x).bind fun nx=>(xlen d).bind fun nd =>
  match d with
  | .str _=>none
  | .nilSlice=>some (.val (.int .i64 0),H)
  | .slice b o _ lb _ sz' =>
   if min nx nd=0 then some (.val (.int .i64 0),H)else
   (lxcells H sz x (min nx nd)).bind fun new =>
   match H[b]? with
   | some (.row cs false)=>if new.all IV.one=true/\0<lb then(cpyRow cs o lb sz sz' new).bind fun cs'=>some (.val (.int .i64 (min nx nd:Nat)),H.set b (.row cs' false))else none
   | _=>none
  | _=>none
def lupdate (H:Heap)(k:LS)(d key x:IV):Option Heap :=
 match d with
 | .map r=>match H[r]? with
  | some (.map es clock)=>if isLS k key then(ifind key es 0).bind fun f=>match f with
    | some (i,_)=>some (H.set r (.map (es.set i (key,x,((es[i]?).map (·.2.2)).getD 0)) clock))
    | none=>some (H.set r (.map (es++[(key,x,clock)]) (clock+1)))
   else none
  | _=>none
 | _=>none
def ldelete (H:Heap)(k:LS)(d key:IV):Option Heap :=
 match d with
 | .nilMap=>if isLS k key then some H else none
 | .map r=>match H[r]? with
  | some (.map es clock)=>if isLS k key then(ifind key es 0).bind fun f=>match f with
    | some (i,_)=>some (H.set r (.map (es.eraseIdx i) clock))
    | none=>some (H.set r (.map es clock))
   else none
  | _=>none
 | _=>none
def le (cal:FuncId->Bool)(H:Heap)(E:Sg):LOp->Option (INext×Heap)
 | .box x=>ibox (la E x) H
 | .zbox z=>some (.val (.ptr H.length 0),H++[.row z.cells false])
 | .bldS s n z parts=>(ifill (fun i=>some (i*s,s)) (zrep n z) (lps E parts)).bind fun cells =>
  if cells.all IV.one=true/\cells.length=n*s then some (.val (.slice H.length 0 n n true s),H++[.row cells false])else none
 | .st n a x=>(lstore H n (la E a) (la E x)).bind fun H'=>some (.skip,H')
 | .mkM=>some (.val (.map H.length),H++[.map [] 0])
 | .mkMn x=>match la E x with
  | .int .. =>some (.val (.map H.length),H++[.map [] 0])
  | _=>none
 | .mkS s b z l c=>match la E l,la E c with
  | .int _ l,.int _ c=>if 0<=l/\l<=c/\b*c<=281474976710656/\c<=9223372036854775807 then some (.val (.slice H.length 0 l.toNat c.toNat true s),H++[.row (zrep c.toNat z) false])else none
  | _,_=>none
 | .upd k d i x=>(lupdate H k (la E d) (la E i) (la E x)).bind fun H'=>some (.skip,H')
 | .s2b x=>match la E x with
  | .str l=>some (.val (.slice H.length 0 l.length l.length false 1),H++[.row (l.map fun b=>.int .u8 b.toNat) false])
  | _=>none
 | .app s b d x=>lappend H s b (la E d) (la E x)
 | .cpy s d x=>lcopy H s (la E d) (la E x)
 | .clrM d=>match la E d with
  | .nilMap=>some (.val (.tuple []),H)
  | .map r=>match H[r]? with
   | some (.map _ clock)=>some (.val (.tuple []),H.set r (.map [] clock))
   | _=>none
  | _=>none
 | .clrS z d=>match la E d with
  | .nilSlice=>some (.val (.tuple []),H)
  | .slice b o n lb _ _ =>
   if n=0 then some (.val (.tuple []),H)else
   match H[b]? with
   | some (.row cs false)=>if o+(zrep n z).length<=cs.length then some (.val (.tuple []),H.set b (.row (putAt cs o (zrep n z)) false))else none
   | _=>none
  | _=>none
 | .del k d i=>(ldelete H k (la E d) (la E i)).bind fun H'=>some (.val (.tuple []),H')
 | .callF g args=>some (.enter g (las E args),H)
 | .callV f args=>match la E f with
  | .func (.func g) first cap=>if cal g then some (.enter g (first++las E args++cap),H)else none
  | _=>none
 | .xt k args=>(ixt k (las E args)).bind fun r=>some (.val r,H)
 | .cap x=>(lcap (la E x)).bind fun r=>some (.val r,H)
 | .appz s b z d x=>lappz H s b z (la E d) (la E x)
 | .inv tbl x args=>match la E x with
  | .iface t v=>(invFind tbl t).bind fun f=>(irecv H f.2 v).bind fun w=>some (.enter f.1 (w::las E args),H)
  | _=>none
 | _=>none
def isLE :LOp->Bool
 | .box _ | .zbox _ | .bldS .. | .st .. | .mkM | .mkMn _ | .mkS .. | .upd .. | .s2b _ | .app .. | .cpy .. | .clrM _ | .clrS .. | .del .. | .callF .. | .callV .. | .xt .. | .cap _ | .appz .. | .inv .. =>true
 | _=>false
def lstep (cal:FuncId->Bool)(H:Heap)(E:Sg)(o:LOp):Option (INext×Heap) :=
 if isLE o then le cal H E o else(lq H E o).bind fun v=>some (.val v,H)
def lowA :Operand->Option LArg
 | .tmp t=>some (.t t)
 | .const v=>(ofV v).map .k
 | .func f=>some (.f f)
 | .global _=>none
theorem lowA_env {x:Operand}{y:LArg}(h:lowA x=some y)(E:Sg):penv E x=some (la E y):=by
 cases x with
 | tmp t=>simp only[lowA]at h;cases h;rfl
 | const v=>simp only[lowA,Option.map_eq_some_iff]at h;obtain⟨z,h1,rfl⟩:=h;exact h1
 | func f=>simp only[lowA]at h;cases h;rfl
 | global g=>simp[lowA]at h
def lowAs :List Operand->Option (List LArg)
 | []=>some []
 | x::xs=>(lowA x).bind fun y=>(lowAs xs).bind fun ys=>some (y::ys)
theorem lowAs_env :∀{xs:List Operand} {ys:List LArg},lowAs xs=some ys->∀E:Sg,evs (penv E) xs=some (las E ys)
 | [],ys,h,E=>by simp only[lowAs]at h;cases h;rfl
 | x::xs,ys,h,E=>by
  simp only[lowAs]at h;obtain⟨y,h1,h⟩:=obs h;obtain⟨ys',h2,h⟩:=obs h
  cases h
  simp only[evs,lowA_env h1,lowAs_env h2,Option.bind_some,las]
def lowO :Option Operand->Option (Option LArg)
 | none=>some none
 | some x=>(lowA x).map some
theorem lowO_env {x:Option Operand}{y:Option LArg}(h:lowO x=some y)(E:Sg):oneOpt (penv E) x=some (lop? E y):=by
 cases x with
 | none=>simp only[lowO]at h;cases h;rfl
 | some x =>
  simp only[lowO,Option.map_eq_some_iff]at h;obtain⟨z,h1,rfl⟩:=h;simp only[oneOpt,lowA_env h1,Option.bind_some,lop?]
def lowPs :List (Nat×Operand)->Option (List (Nat×LArg))
 | []=>some []
 | (i,x)::xs=>(lowA x).bind fun y=>(lowPs xs).bind fun ys=>some ((i,y)::ys)
theorem lowPs_env :∀{xs:List (Nat×Operand)} {ys:List (Nat×LArg)},lowPs xs=some ys->∀E:Sg,evps (penv E) xs=some (lps E ys)
 | [],ys,h,E=>by simp only[lowPs]at h;cases h;rfl
 | (i,x)::xs,ys,h,E=>by
  simp only[lowPs]at h;obtain⟨y,h1,h⟩:=obs h;obtain⟨ys',h2,h⟩:=obs h
  cases h
  simp only[evps,lowA_env h1,lowPs_env h2,Option.bind_some,lps]
def lowPl (place:Nat->Option (Nat×Nat)):List (Nat×Operand)->Option (List (Nat×Nat×LArg))
 | []=>some []
 | (i,x)::xs=>(place i).bind fun p=>(lowA x).bind fun y=>(lowPl place xs).bind fun ys=>some ((p.1,p.2,y)::ys)
theorem lowPl_env {place:Nat->Option (Nat×Nat)}:∀{xs:List (Nat×Operand)} {ys:List (Nat×Nat×LArg)},lowPl place xs=some ys->∀E:Sg,∃ps,evps (penv E) xs=some ps/\∀cells,ifill place cells ps=lfill cells (lparts E ys)
 | [],ys,h,E=>by simp only[lowPl]at h;cases h;exact⟨[],rfl,fun _=>rfl⟩
 | (i,x)::xs,ys,h,E=>by
  simp only[lowPl]at h;obtain⟨⟨off,size⟩,h0,h⟩:=obs h;obtain⟨y,h1,h⟩:=obs h;obtain⟨ys',h2,h⟩:=obs h
  cases h
  obtain⟨ps,g1,g2⟩:=lowPl_env h2 E;refine⟨(i,la E y)::ps,by simp only[evps,lowA_env h1,g1,Option.bind_some],fun cells=> ?_⟩;simp only[ifill,h0,lparts,lfill,g2]
def lsOf (P:Program)(t:TypeId):Option LS :=
 match P.underlying t with
 | some (.int _)=>some .int
 | some .bool=>some .bool
 | some .string=>some .str
 | _=>none
theorem lsOf_scalar {P:Program}{t:TypeId}{k:LS}(h:lsOf P t=some k)(x:IV):scalarT P t x=isLS k x:=by
 unfold lsOf at h;unfold scalarT
 cases hu:P.underlying t with
 | none=>simp[hu]at h
 | some d=>cases d<;>simp[hu]at h<;>(subst h;cases x<;>rfl)
def lowFields (P:Program):List Field->Option (List (Nat×LS))
 | []=>some []
 | f::fs=>if f.name= "_" then none else(lsOf P f.type).bind fun k=>(lowFields P fs).bind fun r=>some ((f.offset,k)::r)
theorem lowFields_eq {P:Program}:∀{fs:List Field} {l:List (Nat×LS)},lowFields P fs=some l->∀xs ys,eqFields P fs xs ys=lfields l xs ys
 | [],l,h,xs,ys=>by simp only[lowFields]at h;cases h;rfl
 | f::fs,l,h,xs,ys=>by
  simp only[lowFields]at h;by_cases hn:f.name= "_"
  ·rw[if_pos hn]at h;cases h
  ·rw[if_neg hn]at h;obtain⟨k,h1,h⟩:=obs h;obtain⟨r,h2,h⟩:=obs h
   cases h
   simp only[eqFields,if_neg hn,lfields,lsOf_scalar h1,lowFields_eq h2]
   cases xs[f.offset]? <;>cases ys[f.offset]? <;>rfl
def lowEq (P:Program)(t:TypeId):Option LEq :=
 match P.underlying t with
 | some .bool=>some .bool
 | some (.pointer e)=>match szOf P e with
  | some (_+1)=>some .ptr
  | _=>none
 | some (.slice _)=>some .slice
 | some (.map ..)=>some .map
 | some (.func ..)=>some .func
 | some (.interface _)=>some .iface
 | some (.struct fs)=>if P.stoodInHeld t||P.eqGuardType P.depth t then none else(lowFields P fs.toList).map .struct
 | _=>none
theorem lowEq_eq {P:Program}{t:TypeId}{e:LEq}(h:lowEq P t=some e){x y:IV}{b:Bool}(hb:leq e x y=some b)(cst:Bool)(op:BinOp)(ho:op=.eql∨op=.neq) :
  ibin P op cst t x y=some (.bool (if op=.neq then !b else b)):=by
 have key:geq P cst t x y=true/\ieq P t x y=some b/\(∀k a k' b,¬(x=.int k a/\y=.int k' b))/\(∀a b,¬(x=.str a/\y=.str b)):=by
  unfold lowEq at h;split at h
  ·rename_i hu
   cases h
   cases x<;>simp only[leq]at hb<;>first | (cases hb;done) | skip
   cases y<;>simp only[leq]at hb<;>first | (cases hb;done) | skip
   refine⟨rfl,by simp only[ieq,hu];exact hb,by simp,by simp⟩
  ·rename_i e' hu;split at h
   ·rename_i n hs
    cases h
    cases x<;>simp only[leq]at hb<;>first | (cases hb;done) | skip
    all_goals cases y<;>simp only[leq]at hb<;>first | (cases hb;done) | skip
    all_goals refine⟨rfl,by simp only[ieq,hu,hs];exact hb,by simp,by simp⟩
   ·cases h
  ·rename_i hu
   cases h
   cases x<;>simp only[leq]at hb<;>first | (cases hb;done) | skip
   all_goals cases y<;>simp only[leq]at hb<;>first | (cases hb;done) | skip
   all_goals refine⟨rfl,by simp only[ieq,hu];exact hb,by simp,by simp⟩
  ·rename_i hu
   cases h
   cases x<;>simp only[leq]at hb<;>first | (cases hb;done) | skip
   all_goals cases y<;>simp only[leq]at hb<;>first | (cases hb;done) | skip
   all_goals refine⟨rfl,by simp only[ieq,hu];exact hb,by simp,by simp⟩
  ·rename_i hu
   cases h
   cases x<;>simp only[leq]at hb<;>first | (cases hb;done) | skip
   all_goals cases y<;>simp only[leq]at hb<;>first | (cases hb;done) | skip
   all_goals refine⟨rfl,by simp only[ieq,hu];exact hb,by simp,by simp⟩
  ·rename_i hu
   cases h
   cases x<;>simp only[leq]at hb<;>first | (cases hb;done) | skip
   all_goals cases y<;>simp only[leq]at hb<;>first | (cases hb;done) | skip
   all_goals refine⟨rfl,by simp only[ieq,hu];exact hb,by simp,by simp⟩
  ·rename_i fs hu;split at h
   ·cases h
   ·rename_i hg;simp only[Bool.or_eq_true,not_or,Bool.not_eq_true]at hg;simp only[Option.map_eq_some_iff]at h;obtain⟨l,hl,rfl⟩:=h
    cases x<;>simp only[leq]at hb<;>first | (cases hb;done) | skip
    cases y<;>simp only[leq]at hb<;>first | (cases hb;done) | skip
    refine⟨by simp[geq,hg.2],by simp only[ieq,hu,hg.1,lowFields_eq hl];simpa using hb,by simp,by simp⟩
  ·cases h
 obtain⟨k1,k2,k3,k4⟩:=key;unfold ibin;split
 ·rename_i k a k' b;exact absurd ⟨rfl,rfl⟩ (k3 k a k' b)
 ·rename_i a b;exact absurd ⟨rfl,rfl⟩ (k4 a b)
 ·rcases ho with rfl | rfl
  ·simp[k1,k2]
  ·simp[k1,k2]
end Go.Shade
namespace Go.Shade
open Go.RowKit
variable {H : Heap} {P : Program} {i x : Operand} {i' x' : LArg} {lo : LOp} {t : TypeId} {v w : IV}
def cellsOK (z:IV)(s:Nat):Bool:= !(isTuple z)&&decide (z.cells.length=s)&&z.cells.all IV.one
def lowConv (P:Program)(s d:TypeId)(x:LArg):Option LOp :=
 match P.underlying s,P.underlying d with
 | some (.int _),some (.int k)=>some (.cvt k x)
 | some .string,some .string=>some (.s2s x)
 | some (.slice e),some .string=>match P.underlying e,szOf P e with
  | some (.int .u8),some 1=>some (.b2s x)
  | _,_=>none
 | some .string,some (.slice e)=>match P.underlying e,szOf P e with
  | some (.int .u8),some 1=>some (.s2b x)
  | _,_=>none
 | _,_=>none
def lowSl (P:Program)(t:TypeId):Option LSl :=
 match P.underlying t with
 | some (.slice e)=>(szOf P e).map .slice
 | some .string=>some .str
 | some (.array n e)=>(szOf P e).map (.arr n)
 | _=>none
def lowLen (P:Program)(t:TypeId):Option LLen :=
 match P.underlying t with
 | some .string=>some .str
 | some (.slice _)=>some .slice
 | some (.array n _)=>some (.arr n)
 | some (.map ..)=>some .map
 | _=>none
def lowBin (P:Program)(op:BinOp)(t:TypeId)(x y:LArg):Option LOp :=
 match P.underlying t with
 | some (.int _)=>some (.bin op x y)
 | some .string=>some (.bin op x y)
 | _=>match op with
  | .eql=>(lowEq P t).map fun e=>.eqv false e x y
  | .neq=>(lowEq P t).map fun e=>.eqv true e x y
  | _=>none
def lowField (P:Program)(t:TypeId)(f:Nat)(x:LArg):Option LOp :=
 match P.underlying t with
 | some (.struct fs)=>(fs[f]?).bind fun fd=>match isAggT P fd.type with
  | some true=>(szOf P fd.type).map fun n=>.fldn x fd.offset n
  | some false=>some (.fld1 x fd.offset)
  | none=>none
 | _=>none
def lowFieldAddr (P:Program)(t:TypeId)(f:Nat)(x:LArg):Option LOp :=
 match P.underlying t with
 | some (.struct fs)=>(fs[f]?).bind fun fd=>match szOf P fd.type with
  | some (_+1)=>some (.off x fd.offset)
  | _=>none
 | _=>none
def lowIndexAddr (P:Program)(t:TypeId)(x i:LArg):Option LOp :=
 match P.underlying t with
 | some (.slice e)=>(szOf P e).map fun s=>.ix s x i
 | some (.array n e)=>(szOf P e).map fun s=>.ixa n s x i
 | _=>none
def lowIndex (P:Program)(t:TypeId)(x i:LArg):Option LOp :=
 match P.underlying t with
 | some .string=>some (.ixs x i)
 | some (.array n e)=>match isAggT P e,szOf P e with
  | some false,some 1=>some (.ixg1 n x i)
  | _,_=>none
 | _=>none
def lowLookup (P:Program)(t:TypeId)(ok:Bool)(x i:LArg):Option LOp :=
 match P.underlying t with
 | some (.map kt et)=>(lsOf P kt).bind fun k=>(zeroOf P et).map fun z=>.lkp k z ok x i
 | _=>none
def lowAssert (P:Program)(T:TypeId)(ok:Bool)(x:LArg):Option LOp :=
 match P.underlying T with
 | some (.interface _)=>none
 | some _=>(zeroOf P T).map fun z=>.asrt T z ok x
 | none=>none
def lowBuild (P:Program)(t:TypeId)(parts:List (Nat×Operand)):Option LOp :=
 (zeroOf P t).bind fun z=>if isTuple z then none else
 match P.underlying t with
 | some (.array _ e)=>(szOf P e).bind fun s=>(lowPl (fun i=>some (i*s,s)) parts).map fun l=>.bld z.cells l
 | some (.struct fields)=>(fields.toList.mapM (fun f=>(P.info? f.type).map fun i=>(f.offset,i.size))).bind fun places =>
   (lowPl (places.toArray[·]?) parts).map fun l=>.bld z.cells l
 | _=>none
def lowBuildSlice (P:Program)(t:TypeId)(len:Nat)(parts:List (Nat×Operand)):Option LOp :=
 match P.underlying t with
 | some (.slice e)=>(szOf P e).bind fun s =>
  if 16777216<len*s∨s=0 then none else(zeroOf P e).bind fun z=>if cellsOK z s then(lowPs parts).map fun l=>.bldS s len z.cells l else none
 | _=>none
def lowMakeSlice (P:Program)(t:TypeId)(l c:LArg):Option LOp :=
 match P.underlying t with
 | some (.slice e)=>(szOf P e).bind fun s=>(byOf P e).bind fun b=>(zeroOf P e).bind fun z=>if cellsOK z s&&decide (0<s)then some (.mkS s b z.cells l c)else none
 | _=>none
def lowApp (P:Program)(t xT:TypeId)(s x:LArg):Option LOp :=
 match P.underlying t,P.underlying xT with
 | some (.slice e),some (.int _)=>(szOf P e).bind fun sz=>(byOf P e).bind fun by_=>(zeroOf P e).bind fun z =>
  if !(isTuple z)&&decide (z.cells.length=sz)&&z.cells.all IV.one&&decide (0<sz)&&decide (0<by_)then some (.appz sz by_ z.cells s x)else none
 | some (.slice e),some _=>(szOf P e).bind fun sz=>(byOf P e).bind fun by_=>(zeroOf P e).bind fun z =>
  if !(isTuple z)&&decide (z.cells.length=sz)&&decide (0<sz)&&decide (0<by_)then some (.app sz by_ s x)else none
 | _,_=>none
def lowCopy (P:Program)(t:TypeId)(d x:LArg):Option LOp :=
 match P.underlying t with
 | some (.slice e)=>(szOf P e).map fun sz=>.cpy sz d x
 | _=>none
def lowClear (P:Program)(t:TypeId)(d:LArg):Option LOp :=
 match P.underlying t with
 | some (.map ..)=>some (.clrM d)
 | some (.slice e)=>(zeroOf P e).bind fun z=>if !(isTuple z)&&z.cells.all IV.one then some (.clrS z.cells d)else none
 | _=>none
def lowUpd (P:Program)(t:TypeId)(d k x:LArg):Option LOp :=
 match P.underlying t with
 | some (.map kt _)=>(lsOf P kt).map fun s=>.upd s d k x
 | _=>none
def lowDel (P:Program)(t:TypeId)(d k:LArg):Option LOp :=
 match P.underlying t with
 | some (.map kt _)=>(lsOf P kt).map fun s=>.del s d k
 | _=>none
def lowBox (P:Program)(x:LArg):Option LOp:=some (.box x)
def lowAlloc (P:Program)(t:TypeId):Option LOp :=
 (zeroOf P t).bind fun z=>if !(isTuple z)&&z.cells.all IV.one then some (.zbox z)else none
def invOne (P:Program)(name:String)(t:Nat):Option (Nat×FuncId×Nat) :=
 match mlook P t name,P.underlying t with
 | some (f,true),some (.pointer _)=>if callable P f then some (t,f,0)else none
 | some (f,false),some (.pointer e)=>if callable P f then
   match isAggT P e,szOf P e with
   | some false,_=>some (t,f,1)
   | some true,some n=>some (t,f,n+2)
   | _,_=>none
  else none
 | some (f,false),some _=>if callable P f then some (t,f,0)else none
 | _,_=>none
def invTab (P:Program)(name:String):List (Nat×FuncId×Nat):=(List.range P.types.size).filterMap (invOne P name)
theorem invFind_mem {f:FuncId×Nat}:∀{l:List (Nat×FuncId×Nat)} {t:Nat},invFind l t=some f->(t,f)∈l
 | [],t,h=>by cases h
 | (u,g)::l,t,h=>by
  simp only[invFind]at h;split at h
  ·rename_i e
   cases h
   rw[Nat.eq_of_beq_eq_true e];exact List.mem_cons_self
  ·exact List.mem_cons_of_mem _ (invFind_mem h)
theorem lload1_iload (h:isAggT P t=some false)(e:lload1 H v=some w):∃b o,v=.ptr b o/\iload P t H b o=some w:=by
 unfold lload1 at e;split at e
 ·rename_i b o;refine⟨b,o,rfl,?_⟩;simp only[iload,h];exact e
 ·cases e
theorem lloadn_iload {n:Nat}(h:isAggT P t=some true)(hn:szOf P t=some n)(e:lloadn H n v=some w):∃b o,v=.ptr b o/\iload P t H b o=some w:=by
 unfold lloadn at e;split at e
 ·rename_i b o;refine⟨b,o,rfl,?_⟩;simp only[iload,h,hn,Option.bind_some];exact e
 ·cases e
theorem invTab_ok {name:String}{f:FuncId×Nat}(h:invFind (invTab P name) t=some f)(hw:irecv H f.2 v=some w):imethod P H t v name=some (f.1,w)/\callable P f.1=true:=by
 obtain⟨u,_,hu⟩:=List.mem_filterMap.1 (invFind_mem h);unfold invOne at hu;split at hu
 ·rename_i f' e h1 h2;split at hu
  ·rename_i hc
   cases hu
   cases hw
   exact⟨by simp only[imethod,h1,h2,Option.bind_some],hc⟩
  ·cases hu
 ·rename_i f' e h1 h2;split at hu
  ·rename_i hc;split at hu
   ·rename_i ha
    cases hu
    obtain⟨b,o,rfl,hl⟩:=lload1_iload (P:=P) ha hw;exact⟨by simp only[imethod,h1,h2,Option.bind_some,hl],hc⟩
   ·rename_i n ha hn
    cases hu
    obtain⟨b,o,rfl,hl⟩:=lloadn_iload (P:=P) ha hn hw;exact⟨by simp only[imethod,h1,h2,Option.bind_some,hl],hc⟩
   ·cases hu
  ·cases hu
 ·rename_i f' d hnp h1 h2;split at hu
  ·rename_i hc
   cases hu
   cases hw
   refine⟨?_,hc⟩;simp only[imethod,h1,h2,Option.bind_some]
   cases d<;>first | rfl | exact absurd rfl (hnp _)
  ·cases hu
 ·cases hu
def lowOp (P:Program):Op->Option LOp
 | .move x=>(lowA x).map .mv
 | .assign x=>(lowA x).map .mv
 | .pick c a b=>(lowA c).bind fun c=>(lowA a).bind fun a=>(lowA b).map fun b=>.pick c a b
 | .load t a=>(lowA a).bind fun a=>match isAggT P t with
  | some true=>(szOf P t).map fun n=>.ldn n a
  | some false=>some (.ld1 a)
  | none=>none
 | .nilCheck x=>(lowA x).map .chk
 | .binOp op t x y _=>(lowA x).bind fun x=>(lowA y).bind fun y=>lowBin P op t x y
 | .unOp op _ x=>(lowA x).map (.un op)
 | .convert s d x=>(lowA x).bind fun x=>lowConv P s d x
 | .makeInterface t x=>(lowA x).bind fun x=>if isIface P t=some false then some (.mkI t x)else none
 | .makeFunc fn first cap=>(lowAs first.toList).bind fun a=>(lowAs cap.toList).map fun b=>.mkF fn a b
 | .slice t x lo hi mx=>(lowA x).bind fun x=>(lowO lo).bind fun lo=>(lowO hi).bind fun hi=>(lowO mx).bind fun mx=>(lowSl P t).map fun k=>.slc k x lo hi mx
 | .fieldAddr t x f=>(lowA x).bind fun x=>lowFieldAddr P t f x
 | .field t x f=>(lowA x).bind fun x=>lowField P t f x
 | .indexAddr t x i=>(lowA x).bind fun x=>(lowA i).bind fun i=>lowIndexAddr P t x i
 | .index t x i=>(lowA x).bind fun x=>(lowA i).bind fun i=>lowIndex P t x i
 | .lookup t x i ok=>(lowA x).bind fun x=>(lowA i).bind fun i=>lowLookup P t ok x i
 | .typeAssert x _ T ok=>(lowA x).bind fun x=>lowAssert P T ok x
 | .extract t i=>(lowA t).map fun x=>.ext x i
 | .build t parts=>lowBuild P t parts.toList
 | .alloc t=>lowAlloc P t
 | .box _ x=>(lowA x).bind fun x=>lowBox P x
 | .buildSlice t len parts=>lowBuildSlice P t len parts.toList
 | .store t a x=>(lowA a).bind fun a=>(lowA x).bind fun x=>(szOf P t).map fun n=>.st n a x
 | .makeMap _ none=>some .mkM
 | .makeMap t (some x)=>(lowA x).bind fun x=>match P.underlying t with
  | some (.map ..)=>some (.mkMn x)
  | _=>none
 | .makeSlice t l c=>(lowA l).bind fun l=>(lowA c).bind fun c=>lowMakeSlice P t l c
 | .mapUpdate t d k x=>(lowA d).bind fun d=>(lowA k).bind fun k=>(lowA x).bind fun x=>lowUpd P t d k x
 | .insert t d k x=>(lowA d).bind fun d=>(lowA k).bind fun k=>(lowA x).bind fun x=>lowUpd P t d k x
 | .call { callee:=.builtin .len,args:=⟨[x]⟩,argTypes:=⟨t::_⟩ }=>(lowA x).bind fun x=>(lowLen P t).map fun l=>.len l x
 | .call { callee:=.builtin .min,args:=⟨x::ys⟩,.. }=>(lowA x).bind fun x=>(lowAs ys).map fun ys=>.fold false x ys
 | .call { callee:=.builtin .max,args:=⟨x::ys⟩,.. }=>(lowA x).bind fun x=>(lowAs ys).map fun ys=>.fold true x ys
 | .call { callee:=.builtin .append,args:=⟨[s,x]⟩,argTypes:=⟨[t,xT]⟩ }=>(lowA s).bind fun s=>(lowA x).bind fun x=>lowApp P t xT s x
 | .call { callee:=.builtin .copy,args:=⟨[d,x]⟩,argTypes:=⟨[t,_]⟩ }=>(lowA d).bind fun d=>(lowA x).bind fun x=>lowCopy P t d x
 | .call { callee:=.builtin .clear,args:=⟨[d]⟩,argTypes:=⟨t::_⟩ }=>(lowA d).bind fun d=>lowClear P t d
 | .call { callee:=.builtin .delete,args:=⟨[d,k]⟩,argTypes:=⟨t::_⟩ }=>(lowA d).bind fun d=>(lowA k).bind fun k=>lowDel P t d k
 | .call { callee:=.value f,args,.. }=>(lowAs args.toList).bind fun as=>(lowA f).bind fun y=>match y with
  | .f g=>if callable P g then some (.callF g as)else match xkind P g with
   | some k=>some (.xt k as)
   | none=>match as with
    | [x,y]=>if ovlFn P g then some (.ovl x y)else none
    | _=>none
  | y=>some (.callV y as)
 | .call { callee:=.builtin .cap,args:=⟨[x]⟩,argTypes:=⟨t::_⟩ }=>(lowA x).bind fun x=>match P.underlying t with
  | some (.slice _)=>some (.cap x)
  | _=>none
 | .call { callee:=.invoke r name,args,.. }=>(lowAs args.toList).bind fun as=>(lowA r).map fun y=>.inv (invTab P name) y as
 | .range t x=>(lowA x).bind fun x=>match P.underlying t with
  | some (.map ..)=>some (.rng x)
  | _=>none
 | .next x false=>(lowA x).map .nxt
 | .entry x=>(lowA x).map .ent
 | _=>none
def LowOk (P:Program)(cal:FuncId->Bool)(H:Heap)(E:Sg)(op:Op)(lo:LOp):Prop :=
 (isLE lo=false->∀v,lq H E lo=some v->iq P H (penv E) op=some v) /\
 (isLE lo=true->∀r,le cal H E lo=some r->iq P H (penv E) op=none/\ie P H (penv E) op=some r)
theorem LowOk.quiet {cal:FuncId->Bool}{E:Sg}{op:Op}(h:isLE lo=false)(k:∀v,lq H E lo=some v->iq P H (penv E) op=some v):LowOk P cal H E op lo :=
 ⟨fun _=>k,fun e=>absurd e (by rw[h];decide)⟩
theorem LowOk.eff {cal:FuncId->Bool}{E:Sg}{op:Op}(h:isLE lo=true)(k:∀r,le cal H E lo=some r->iq P H (penv E) op=none/\ie P H (penv E) op=some r):LowOk P cal H E op lo :=
 ⟨fun e=>absurd e (by rw[h];decide),fun _=>k⟩
theorem lsl_isl {e:TypeId}{s:Nat}(hs:szOf P e=some s)(x:IV)(n:Nat):isl P H e x n=lsl H s x n:=by
 cases x<;>simp[isl,lsl,hs]
theorem lxcells_eq {e:TypeId}{s:Nat}(hs:szOf P e=some s)(x:IV)(n:Nat):xcells P H e x n=lxcells H s x n:=by
 cases x<;>simp[xcells,lxcells,lsl_isl hs]
theorem lload1_eq (h:isAggT P t=some false)(b o:Nat):iload P t H b o=lload1 H (.ptr b o):=by
 simp only[iload,lload1,h];rfl
theorem lloadn_eq {n:Nat}(h:isAggT P t=some true)(hn:szOf P t=some n)(b o:Nat):iload P t H b o=lloadn H n (.ptr b o):=by
 simp only[iload,lloadn,h,hn,Option.bind_some];rfl
section
variable {P : Program} {cal : FuncId -> Bool} {H : Heap} {E : Sg}
theorem ok_bin {op:BinOp}{t':TypeId}{y:Operand}{y':LArg}(hx:penv E x=some (la E x'))(hy:penv E y=some (la E y'))(h:lowBin P op t x' y'=some lo):LowOk P cal H E (.binOp op t x y t') lo:=by
 have hi:iq P H (penv E) (.binOp op t x y t')=ibin P op (isConst x||isConst y) t (la E x') (la E y'):=by simp only[iq,hx,hy,Option.bind_some]
 have hb:lo=.bin op x' y'->LowOk P cal H E (.binOp op t x y t') lo:=by
  rintro rfl;refine LowOk.quiet rfl fun v hv=> ?_;rw[hi];simp only[lq]at hv
  revert hv
  generalize la E x'=a;generalize la E y'=b;intro hv;unfold lbin at hv;split at hv
  ·exact hv
  ·exact hv
  ·cases hv
 unfold lowBin at h;split at h
 ·exact hb (by cases h;rfl)
 ·exact hb (by cases h;rfl)
 ·split at h
  ·simp only[Option.map_eq_some_iff]at h;obtain⟨e,he,rfl⟩:=h;refine LowOk.quiet rfl fun v hv=> ?_;rw[hi];simp only[lq]at hv;obtain⟨b,hb,hv⟩:=obs hv;rw[lowEq_eq he hb _ _ (.inl rfl)]
   simpa using hv
  ·simp only[Option.map_eq_some_iff]at h;obtain⟨e,he,rfl⟩:=h;refine LowOk.quiet rfl fun v hv=> ?_;rw[hi];simp only[lq]at hv;obtain⟨b,hb,hv⟩:=obs hv;rw[lowEq_eq he hb _ _ (.inr rfl)]
   simpa using hv
  ·cases h
theorem ok_conv {s d:TypeId}(hx:penv E x=some (la E x'))(h:lowConv P s d x'=some lo):LowOk P cal H E (.convert s d x) lo:=by
 have hi:iq P H (penv E) (.convert s d x)=iconv P H s d (la E x'):=by simp only[iq,hx,Option.bind_some]
 have he:ie P H (penv E) (.convert s d x)=ibytesOf P H s d (la E x'):=by simp only[ie,hx,Option.bind_some]
 unfold lowConv at h;split at h
 ·rename_i hs hd
  cases h
  refine LowOk.quiet rfl fun v hv=> ?_;rw[hi];simp only[lq]at hv;unfold iconv;split at hv
  ·rename_i e;rw[hs,hd,e];exact hv
  ·cases hv
 ·rename_i hs hd
  cases h
  refine LowOk.quiet rfl fun v hv=> ?_;rw[hi];simp only[lq]at hv;unfold iconv;split at hv
  ·rename_i e;rw[hs,hd,e];exact hv
  ·cases hv
 ·rename_i e hs hd;split at h
  ·rename_i he1 he2
   cases h
   refine LowOk.quiet rfl fun v hv=> ?_;rw[hi];simp only[lq]at hv;unfold iconv;split at hv
   ·rename_i e';rw[hs,hd,e'];simp only[he1];exact hv
   ·rename_i e';rw[hs,hd,e'];simp only[he1,he2,Option.bind_some,if_true];rw[lsl_isl he2];exact hv
   ·cases hv
  ·cases h
 ·rename_i e hs hd;split at h
  ·rename_i he1 he2
   cases h
   refine LowOk.eff rfl fun r hr=> ?_;rw[hi,he];simp only[le]at hr;split at hr
   ·rename_i l e';rw[e'];refine⟨by unfold iconv;rw[hs,hd],?_⟩;unfold ibytesOf;rw[hs,hd];simp only[he1,he2];exact hr
   ·cases hr
  ·cases h
 ·cases h
theorem oB {α β:Type}{a:Option α}{f:α->Option β}{r:β}(h:a.bind f=some r):∃x,a=some x/\f x=some r:=obs h
theorem oM {α β:Type}{a:Option α}{f:α->β}{r:β}(h:a.map f=some r):∃x,a=some x/\f x=r:=by simpa using h
theorem ok_field {f:Nat}(hx:penv E x=some (la E x'))(h:lowField P t f x'=some lo):LowOk P cal H E (.field t x f) lo:=by
 have hi:iq P H (penv E) (.field t x f)=ifield P t (la E x') f:=by simp only[iq,hx,Option.bind_some]
 unfold lowField at h;split at h
 ·rename_i fs hu;obtain⟨fd,hf,h⟩:=oB h;split at h
  ·rename_i ha;obtain⟨n,hn,rfl⟩:=oM h;refine LowOk.quiet rfl fun v hv=> ?_;rw[hi];simp only[lq]at hv;split at hv
   ·rename_i cs e;rw[e];simp only[ifield,hu,hf,ipart,ha,hn,Option.bind_some];exact hv
   ·cases hv
  ·rename_i ha
   cases h
   refine LowOk.quiet rfl fun v hv=> ?_;rw[hi];simp only[lq]at hv;split at hv
   ·rename_i cs e;rw[e];simp only[ifield,hu,hf,ipart,ha];exact hv
   ·cases hv
  ·cases h
 ·cases h
theorem ok_fieldAddr {f:Nat}(hx:penv E x=some (la E x'))(h:lowFieldAddr P t f x'=some lo):LowOk P cal H E (.fieldAddr t x f) lo:=by
 have hi:iq P H (penv E) (.fieldAddr t x f)=ifieldAddr P t (la E x') f:=by simp only[iq,hx,Option.bind_some]
 unfold lowFieldAddr at h;split at h
 ·rename_i fs hu;obtain⟨fd,hf,h⟩:=oB h;split at h
  ·rename_i n hn
   cases h
   refine LowOk.quiet rfl fun v hv=> ?_;rw[hi];simp only[lq]at hv;split at hv
   ·rename_i b o e;rw[e];simp only[ifieldAddr,hu,hf,hn];exact hv
   ·cases hv
  ·cases h
 ·cases h
theorem ok_indexAddr (hx:penv E x=some (la E x'))(hj:penv E i=some (la E i'))(h:lowIndexAddr P t x' i'=some lo):LowOk P cal H E (.indexAddr t x i) lo:=by
 have hi:iq P H (penv E) (.indexAddr t x i)=iindexAddr P t (la E x') (la E i'):=by simp only[iq,hx,hj,Option.bind_some]
 unfold lowIndexAddr at h;split at h
 ·rename_i e hu;obtain⟨s,hs,rfl⟩:=oM h;refine LowOk.quiet rfl fun v hv=> ?_;rw[hi];simp only[lq]at hv;split at hv
  ·rename_i e1 e2;rw[e1,e2];simp only[iindexAddr,hu,hs,Option.bind_some];exact hv
  ·cases hv
 ·rename_i n e hu;obtain⟨s,hs,rfl⟩:=oM h;refine LowOk.quiet rfl fun v hv=> ?_;rw[hi];simp only[lq]at hv;split at hv
  ·rename_i e1 e2;rw[e1,e2];simp only[iindexAddr,hu,hs,Option.bind_some];exact hv
  ·cases hv
 ·cases h
theorem ok_index (hx:penv E x=some (la E x'))(hj:penv E i=some (la E i'))(h:lowIndex P t x' i'=some lo):LowOk P cal H E (.index t x i) lo:=by
 have hi:iq P H (penv E) (.index t x i)=iindex P t (la E x') (la E i'):=by simp only[iq,hx,hj,Option.bind_some]
 unfold lowIndex at h;split at h
 ·rename_i hu
  cases h
  refine LowOk.quiet rfl fun v hv=> ?_;rw[hi];simp only[lq]at hv;split at hv
  ·rename_i e1 e2;rw[e1,e2];simp only[iindex,hu];exact hv
  ·cases hv
 ·rename_i n e hu;split at h
  ·rename_i ha hs
   cases h
   refine LowOk.quiet rfl fun v hv=> ?_;rw[hi];simp only[lq]at hv;split at hv
   ·rename_i e1 e2;rw[e1,e2];simp only[iindex,hu,hs,Option.bind_some,ipart,ha,Nat.mul_one];exact hv
   ·cases hv
  ·cases h
 ·cases h
theorem ok_lookup {ok:Bool}(hx:penv E x=some (la E x'))(hj:penv E i=some (la E i'))(h:lowLookup P t ok x' i'=some lo):LowOk P cal H E (.lookup t x i ok) lo:=by
 have hi:iq P H (penv E) (.lookup t x i ok)=ilookup P H t (la E x') (la E i') ok:=by simp only[iq,hx,hj,Option.bind_some]
 unfold lowLookup at h;split at h
 ·rename_i kt et hu;obtain⟨k,hk,h⟩:=oB h;obtain⟨z,hz,rfl⟩:=oM h;refine LowOk.quiet rfl fun v hv=> ?_;rw[hi];simp only[lq,llookup]at hv;simp only[ilookup,hu,lsOf_scalar hk,hz,Option.bind_some];exact hv
 ·cases h
theorem ok_assert {T:TypeId}{ok:Bool}(hx:penv E x=some (la E x'))(h:lowAssert P T ok x'=some lo):LowOk P cal H E (.typeAssert x t T ok) lo:=by
 have hi:iq P H (penv E) (.typeAssert x t T ok)=iassert P (la E x') T ok:=by simp only[iq,hx,Option.bind_some]
 unfold lowAssert at h;split at h
 ·cases h
 ·rename_i d hni hu;obtain⟨z,hz,rfl⟩:=oM h;refine LowOk.quiet rfl fun v hv=> ?_;rw[hi];simp only[lq]at hv;split at hv
  ·rename_i e;rw[e]
   cases d<;>first | exact absurd rfl (hni _) | (simp only[iassert,hu,hz,Option.bind_some];exact hv)
  ·rename_i e;rw[e]
   cases d<;>first | exact absurd rfl (hni _) | (simp only[iassert,hu,hz,Option.bind_some];exact hv)
  ·cases hv
 ·cases h
theorem ok_slice {lo hi mx:Option Operand}{lo' hi' mx':Option LArg}{k:LSl}(hx:penv E x=some (la E x'))(h1:oneOpt (penv E) lo=some (lop? E lo'))(h2:oneOpt (penv E) hi=some (lop? E hi'))(h3:oneOpt (penv E) mx=some (lop? E mx'))(h:lowSl P t=some k) :
  LowOk P cal H E (.slice t x lo hi mx) (.slc k x' lo' hi' mx'):=by
 have hi:iq P H (penv E) (.slice t x lo hi mx)=islice P H t (la E x') (lop? E lo') (lop? E hi') (lop? E mx'):=by simp only[iq,hx,h1,h2,h3,Option.bind_some]
 refine LowOk.quiet rfl fun v hv=> ?_;rw[hi];simp only[lq]at hv
 revert hv
 generalize la E x'=a;generalize lop? E lo'=l;generalize lop? E hi'=hh;generalize lop? E mx'=m;intro hv;unfold lowSl at h;split at h
 ·rename_i e hu;obtain⟨s,hs,rfl⟩:=oM h;unfold lslice at hv;split at hv
  ·rename_i e1;cases e1;simp only[islice,hu,hs,Option.bind_some];exact hv
  ·rename_i e1;cases e1;simp only[islice,hu,hs,Option.bind_some];exact hv
  ·rename_i e1;cases e1
  ·rename_i e1;cases e1
  ·cases hv
 ·rename_i hu
  cases h
  unfold lslice at hv;split at hv
  ·rename_i e1;cases e1
  ·rename_i e1;cases e1
  ·simp only[islice,hu];exact hv
  ·rename_i e1;cases e1
  ·cases hv
 ·rename_i n e hu;obtain⟨s,hs,rfl⟩:=oM h;unfold lslice at hv;split at hv
  ·rename_i e1;cases e1
  ·rename_i e1;cases e1
  ·rename_i e1;cases e1
  ·rename_i e1;cases e1;simp only[islice,hu,hs,Option.bind_some];exact hv
  ·cases hv
 ·cases h
theorem ok_len {ts:List TypeId}{l:LLen}(hx:penv E x=some (la E x'))(h:lowLen P t=some l):LowOk P cal H E (.call { callee:=.builtin .len,args:=⟨[x]⟩,argTypes:=⟨t::ts⟩ }) (.len l x'):=by
 have hi:iq P H (penv E) (.call { callee:=.builtin .len,args:=⟨[x]⟩,argTypes:=⟨t::ts⟩ })=ilen P H t (la E x'):=by simp only[iq,hx,Option.bind_some]
 refine LowOk.quiet rfl fun v hv=> ?_;rw[hi];simp only[lq]at hv
 revert hv
 generalize la E x'=a;intro hv;unfold lowLen at h;split at h
 all_goals first | (cases h;done) | skip
 all_goals
  rename_i hu
  cases h
  cases a<;>simp only[llen]at hv<;>first | (cases hv;done) | (simp only[ilen,hu];exact hv)
theorem ok_build {parts:Array (Nat×Operand)}(h:lowBuild P t parts.toList=some lo):LowOk P cal H E (.build t parts) lo:=by
 have hi:iq P H (penv E) (.build t parts)=(evps (penv E) parts.toList).bind fun ps=>ibuild P t ps:=by simp only[iq]
 unfold lowBuild at h;obtain⟨z,hz,h⟩:=oB h;split at h
 ·cases h
 ·rename_i htup;split at h
  ·rename_i n e hu;obtain⟨s,hs,h⟩:=oB h;obtain⟨l,hl,rfl⟩:=oM h;refine LowOk.quiet rfl fun v hv=> ?_;obtain⟨ps,g1,g2⟩:=lowPl_env hl E;rw[hi,g1];simp only[lq]at hv;simp only[Option.bind_some,ibuild,hz,if_neg htup,hu,hs,g2];exact hv
  ·rename_i fields hu;obtain⟨pl,hp,h⟩:=oB h;obtain⟨l,hl,rfl⟩:=oM h;refine LowOk.quiet rfl fun v hv=> ?_;obtain⟨ps,g1,g2⟩:=lowPl_env hl E;rw[hi,g1];simp only[lq]at hv;simp only[Option.bind_some,ibuild,hz,if_neg htup,hu,hp,g2];exact hv
  ·cases h
theorem ok_buildSlice {len:Nat}{parts:Array (Nat×Operand)}(h:lowBuildSlice P t len parts.toList=some lo):LowOk P cal H E (.buildSlice t len parts) lo:=by
 have hi:ie P H (penv E) (.buildSlice t len parts)=(evps (penv E) parts.toList).bind fun ps=>ibuildSlice P H t len ps:=by simp only[ie]
 unfold lowBuildSlice at h;split at h
 ·rename_i e hu;obtain⟨s,hs,h⟩:=oB h;split at h
  ·cases h
  ·rename_i hne;obtain⟨z,hz,h⟩:=oB h;split at h
   ·rename_i hc;obtain⟨l,hl,rfl⟩:=oM h;refine LowOk.eff rfl fun r hr=>⟨rfl,?_⟩;rw[hi,lowPs_env hl E];simp only[le]at hr;obtain⟨cells,h1,hr⟩:=oB hr;simp only[cellsOK,Bool.and_eq_true,Bool.not_eq_true',decide_eq_true_eq]at hc;have hzr:(if len=0 then some []else(zeroOf P e).bind fun z=>if isTuple z=false/\z.cells.length=s/\z.cells.all IV.one=true then some (zrep len z.cells)else none)=some (zrep len z.cells):=by
     split
     ·rename_i e0;subst e0;rfl
     ·rw[hz,Option.bind_some,if_pos ⟨hc.1.1,hc.1.2,hc.2⟩]
    simp only[Option.bind_some,ibuildSlice,hu,hs,if_neg hne,hzr,h1];exact hr
   ·cases h
 ·cases h
theorem ok_makeSlice {l c:Operand}{l' c':LArg}(hl:penv E l=some (la E l'))(hc:penv E c=some (la E c'))(h:lowMakeSlice P t l' c'=some lo):LowOk P cal H E (.makeSlice t l c) lo:=by
 have hi:ie P H (penv E) (.makeSlice t l c)=imakeSlice P H t (la E l') (la E c'):=by simp only[ie,hl,hc,Option.bind_some]
 unfold lowMakeSlice at h;split at h
 ·rename_i e hu;obtain⟨s,hs,h⟩:=oB h;obtain⟨b,hb,h⟩:=oB h;obtain⟨z,hz,h⟩:=oB h;split at h
  ·rename_i hok
   cases h
   simp only[cellsOK,Bool.and_eq_true,Bool.not_eq_true',decide_eq_true_eq]at hok;refine LowOk.eff rfl fun r hr=>⟨rfl,?_⟩;rw[hi];simp only[le]at hr;split at hr
   ·rename_i e1 e2;split at hr
    ·rename_i hcond;rw[e1,e2];simp only[imakeSlice,hu,hs,hb,hz,Option.bind_some];rw[if_pos ⟨hok.1.1.1,hok.1.1.2,hok.1.2,hok.2,hcond⟩];exact hr
    ·cases hr
   ·cases hr
  ·cases h
 ·cases h
theorem ok_app {xT:TypeId}{s:Operand}{s':LArg}(hs:penv E s=some (la E s'))(hx:penv E x=some (la E x'))(h:lowApp P t xT s' x'=some lo):LowOk P cal H E (.call { callee:=.builtin .append,args:=⟨[s,x]⟩,argTypes:=⟨[t,xT]⟩ }) lo:=by
 have hi:ie P H (penv E) (.call { callee:=.builtin .append,args:=⟨[s,x]⟩,argTypes:=⟨[t,xT]⟩ })=iappA P H t xT (la E s') (la E x'):=by simp only[ie,hs,hx,Option.bind_some]
 unfold lowApp at h;split at h
 ·rename_i e kn hu hux;obtain⟨sz,hsz,h⟩:=oB h;obtain⟨by_,hby,h⟩:=oB h;obtain⟨z,hz,h⟩:=oB h;split at h
  ·rename_i hok
   cases h
   simp only[Bool.and_eq_true,Bool.not_eq_true',decide_eq_true_eq]at hok;obtain⟨⟨⟨⟨k1,k2⟩,k3⟩,k4⟩,k5⟩:=hok;refine LowOk.eff rfl fun r hr=>⟨rfl,?_⟩;rw[hi];simp only[le]at hr;unfold lappz at hr;split at hr
   ·rename_i kq k hx';split at hr
    ·rename_i hk;simp only[iappA,hux,iappz,hu,hx',hsz,hby,hz,Option.bind_some,k1,k2,k3,k4,k5,hk,and_self,if_true,lsl_isl hsz];exact hr
    ·cases hr
   ·cases hr
  ·cases h
 ·rename_i e d hni hu hux;obtain⟨sz,hsz,h⟩:=oB h;obtain⟨by_,hby,h⟩:=oB h;obtain⟨z,hz,h⟩:=oB h;split at h
  ·rename_i hok
   cases h
   simp only[Bool.and_eq_true,Bool.not_eq_true',decide_eq_true_eq]at hok;refine LowOk.eff rfl fun r hr=>⟨rfl,?_⟩;rw[hi];simp only[le]at hr;have hfr:∀(H:Heap) (old new:List IV) (k:Nat),ifresh P e sz by_ H old new k=lfresh sz by_ H old new k:=by
    intro H old new k;simp only[ifresh,lfresh,hz,Option.bind_some,hok.1.1.1,hok.1.1.2,true_and]
   have heq:iappA P H t xT (la E s') (la E x')=lappend H sz by_ (la E s') (la E x'):=by
    unfold iappA iappend lappend;have hni':∀k,d≠ .int k:=fun k hk=>hni k hk;rw[hu,hux]
    cases d<;>first
     | exact absurd rfl (hni' _)
     | (simp only[hsz,hby,Option.bind_some,hok.1.2,hok.2,and_true,hfr,lsl_isl hsz,lxcells_eq hsz];rfl)
   rw[heq];exact hr
  ·cases h
 ·cases h
theorem ok_copy {xT:TypeId}{s:Operand}{s':LArg}(hs:penv E s=some (la E s'))(hx:penv E x=some (la E x'))(h:lowCopy P t s' x'=some lo):LowOk P cal H E (.call { callee:=.builtin .copy,args:=⟨[s,x]⟩,argTypes:=⟨[t,xT]⟩ }) lo:=by
 have hi:ie P H (penv E) (.call { callee:=.builtin .copy,args:=⟨[s,x]⟩,argTypes:=⟨[t,xT]⟩ })=icopy P H t (la E s') (la E x'):=by simp only[ie,hs,hx,Option.bind_some]
 unfold lowCopy at h;split at h
 ·rename_i e hu;obtain⟨sz,hsz,rfl⟩:=oM h;refine LowOk.eff rfl fun r hr=>⟨rfl,?_⟩;rw[hi];simp only[le]at hr;have heq:icopy P H t (la E s') (la E x')=lcopy H sz (la E s') (la E x'):=by
   unfold icopy lcopy;rw[hu];simp only[hsz,Option.bind_some,lxcells_eq hsz];rfl
  rw[heq];exact hr
 ·cases h
theorem ok_clear {ts:List TypeId}{d:Operand}{d':LArg}(hd:penv E d=some (la E d'))(h:lowClear P t d'=some lo):LowOk P cal H E (.call { callee:=.builtin .clear,args:=⟨[d]⟩,argTypes:=⟨t::ts⟩ }) lo:=by
 have hi:ie P H (penv E) (.call { callee:=.builtin .clear,args:=⟨[d]⟩,argTypes:=⟨t::ts⟩ })=iclear P H t (la E d'):=by simp only[ie,hd,Option.bind_some]
 unfold lowClear at h;split at h
 ·rename_i kt et hu
  cases h
  refine LowOk.eff rfl fun r hr=>⟨rfl,?_⟩;rw[hi];simp only[le]at hr;split at hr
  ·rename_i e;rw[e];simp only[iclear,hu];exact hr
  ·rename_i e;rw[e];simp only[iclear,hu];exact hr
  ·cases hr
 ·rename_i e hu;obtain⟨z,hz,h⟩:=oB h;split at h
  ·rename_i hok
   cases h
   simp only[Bool.and_eq_true,Bool.not_eq_true']at hok;refine LowOk.eff rfl fun r hr=>⟨rfl,?_⟩;rw[hi];simp only[le]at hr;split at hr
   ·rename_i e';rw[e'];simp only[iclear,hu];exact hr
   ·rename_i b o n lb ex sz e';rw[e'];simp only[iclear,hu,hz,Option.bind_some,hok.1,hok.2,true_and];exact hr
   ·cases hr
  ·cases h
 ·cases h
theorem ok_upd {d k x:LArg}(h:lowUpd P t d k x=some lo):∃s,lo=.upd s d k x/\∀a b c,iupdate P H t a b c=lupdate H s a b c:=by
 unfold lowUpd at h;split at h
 ·rename_i kt et hu;obtain⟨s,hs,rfl⟩:=oM h;refine⟨s,rfl,fun a b c=> ?_⟩;unfold iupdate lupdate;rw[hu]
  cases a<;>first | rfl | (simp only[lsOf_scalar hs];done) | (simp only[lsOf_scalar hs];rfl)
 ·cases h
theorem ok_del {d k:LArg}(h:lowDel P t d k=some lo):∃s,lo=.del s d k/\∀a b,idelete P H t a b=ldelete H s a b:=by
 unfold lowDel at h;split at h
 ·rename_i kt et hu;obtain⟨s,hs,rfl⟩:=oM h;refine⟨s,rfl,fun a b=> ?_⟩;unfold idelete ldelete;rw[hu]
  cases a<;>first | rfl | (simp only[lsOf_scalar hs];done) | (simp only[lsOf_scalar hs];rfl)
 ·cases h
end
end Go.Shade
namespace Go.Shade
open Go.RowKit
theorem low_ok {P:Program}{cal:FuncId->Bool}(hcal:∀g,cal g=true->callable P g=true){H:Heap}{E:Sg}{op:Op}{lo:LOp}(h:lowOp P op=some lo):LowOk P cal H E op lo:=by
 unfold lowOp at h;split at h
 ·obtain⟨y,hy,rfl⟩:=oM h;exact LowOk.quiet rfl fun v hv=>by simp only[lq]at hv;simp only[iq,lowA_env hy,hv]
 ·obtain⟨y,hy,rfl⟩:=oM h;exact LowOk.quiet rfl fun v hv=>by simp only[lq]at hv;simp only[iq,lowA_env hy,hv]
 ·obtain⟨c,hc,h⟩:=oB h;obtain⟨a,ha,h⟩:=oB h;obtain⟨b,hb,rfl⟩:=oM h;refine LowOk.quiet rfl fun v hv=> ?_;simp only[lq]at hv;simp only[iq,lowA_env hc,lowA_env ha,lowA_env hb];split at hv
  ·rename_i e;rw[e];exact hv
  ·rename_i e;rw[e];exact hv
  ·cases hv
 ·obtain⟨a,ha,h⟩:=oB h;split at h
  ·rename_i hg;obtain⟨n,hn,rfl⟩:=oM h;refine LowOk.quiet rfl fun v hv=> ?_;simp only[lq]at hv;simp only[iq,lowA_env ha]
   cases hx:la E a<;>rw[hx]at hv<;>first | (simp[lloadn]at hv;done) | skip
   simp only[lloadn_eq hg hn];exact hv
  ·rename_i hg
   cases h
   refine LowOk.quiet rfl fun v hv=> ?_;simp only[lq]at hv;simp only[iq,lowA_env ha]
   cases hx:la E a<;>rw[hx]at hv<;>first | (simp[lload1]at hv;done) | skip
   simp only[lload1_eq hg];exact hv
  ·cases h
 ·obtain⟨y,hy,rfl⟩:=oM h;refine LowOk.quiet rfl fun v hv=> ?_;simp only[lq]at hv;simp only[iq,lowA_env hy];split at hv
  ·rename_i e;rw[e];exact hv
  ·rename_i e;rw[e];exact hv
  ·rename_i e;rw[e];exact hv
  ·cases hv
 ·obtain⟨x,hx,h⟩:=oB h;obtain⟨y,hy,h⟩:=oB h;exact ok_bin (lowA_env hx E) (lowA_env hy E) h
 ·obtain⟨y,hy,rfl⟩:=oM h;exact LowOk.quiet rfl fun v hv=>by simp only[lq]at hv;simp only[iq,lowA_env hy,Option.bind_some,hv]
 ·obtain⟨x,hx,h⟩:=oB h;exact ok_conv (lowA_env hx E) h
 ·obtain⟨x,hx,h⟩:=oB h;split at h
  ·rename_i hi
   cases h
   exact LowOk.quiet rfl fun v hv=>by simp only[lq]at hv;simp only[iq,lowA_env hx,Option.bind_some,imakeIface,if_pos hi,hv]
  ·cases h
 ·obtain⟨a,ha,h⟩:=oB h;obtain⟨b,hb,rfl⟩:=oM h;exact LowOk.quiet rfl fun v hv=>by simp only[lq]at hv;simp only[iq,lowAs_env ha,lowAs_env hb,Option.bind_some,hv]
 ·obtain⟨x,hx,h⟩:=oB h;obtain⟨l,hl,h⟩:=oB h;obtain⟨hh,hhh,h⟩:=oB h;obtain⟨m,hm,h⟩:=oB h;obtain⟨k,hk,rfl⟩:=oM h;exact ok_slice (lowA_env hx E) (lowO_env hl E) (lowO_env hhh E) (lowO_env hm E) hk
 ·obtain⟨x,hx,h⟩:=oB h;exact ok_fieldAddr (lowA_env hx E) h
 ·obtain⟨x,hx,h⟩:=oB h;exact ok_field (lowA_env hx E) h
 ·obtain⟨x,hx,h⟩:=oB h;obtain⟨i,hi,h⟩:=oB h;exact ok_indexAddr (lowA_env hx E) (lowA_env hi E) h
 ·obtain⟨x,hx,h⟩:=oB h;obtain⟨i,hi,h⟩:=oB h;exact ok_index (lowA_env hx E) (lowA_env hi E) h
 ·obtain⟨x,hx,h⟩:=oB h;obtain⟨i,hi,h⟩:=oB h;exact ok_lookup (lowA_env hx E) (lowA_env hi E) h
 ·obtain⟨x,hx,h⟩:=oB h;exact ok_assert (lowA_env hx E) h
 ·obtain⟨y,hy,rfl⟩:=oM h;exact LowOk.quiet rfl fun v hv=>by simp only[lq]at hv;simp only[iq,lowA_env hy,Option.bind_some,hv]
 ·exact ok_build h
 ·unfold lowAlloc at h;obtain⟨z,hz,h⟩:=oB h;split at h
  ·rename_i hok
   cases h
   simp only[Bool.and_eq_true,Bool.not_eq_true']at hok;refine LowOk.eff rfl fun r hr=>⟨rfl,?_⟩;simp only[le]at hr;simp only[ie,hz,Option.bind_some,ibox];rw[if_pos hok];exact hr
  ·cases h
 ·obtain⟨x,hx,h⟩:=oB h
  cases h
  exact LowOk.eff rfl fun r hr=>⟨rfl,by simp only[le]at hr;simp only[ie,lowA_env hx,Option.bind_some,hr]⟩
 ·exact ok_buildSlice h
 ·obtain⟨a,ha,h⟩:=oB h;obtain⟨x,hx,h⟩:=oB h;obtain⟨n,hn,rfl⟩:=oM h;refine LowOk.eff rfl fun r hr=>⟨rfl,?_⟩;simp only[le]at hr;simp only[ie,lowA_env ha,lowA_env hx,Option.bind_some];have:∀t' p v,szOf P t'=some n->istore P H t' p v=lstore H n p v:=by
   intro t' p v hn;unfold istore lstore;simp only[hn,Option.bind_some];rfl
  rw[this _ _ _ hn];exact hr
 ·cases h
  exact LowOk.eff rfl fun r hr=>⟨rfl,hr⟩
 ·obtain⟨x,hx,h⟩:=oB h;split at h
  ·rename_i hu
   cases h
   refine LowOk.eff rfl fun r hr=>⟨rfl,?_⟩;simp only[le]at hr;simp only[ie,hu,lowA_env hx];split at hr
   ·rename_i e;rw[e];exact hr
   ·cases hr
  ·cases h
 ·obtain⟨l,hl,h⟩:=oB h;obtain⟨c,hc,h⟩:=oB h;exact ok_makeSlice (lowA_env hl E) (lowA_env hc E) h
 ·obtain⟨d,hd,h⟩:=oB h;obtain⟨k,hk,h⟩:=oB h;obtain⟨x,hx,h⟩:=oB h;obtain⟨s,rfl,hs⟩:=ok_upd (H:=H) h;refine LowOk.eff rfl fun r hr=>⟨rfl,?_⟩;simp only[le]at hr;simp only[ie,lowA_env hd,lowA_env hk,lowA_env hx,Option.bind_some,hs];exact hr
 ·obtain⟨d,hd,h⟩:=oB h;obtain⟨k,hk,h⟩:=oB h;obtain⟨x,hx,h⟩:=oB h;obtain⟨s,rfl,hs⟩:=ok_upd (H:=H) h;refine LowOk.eff rfl fun r hr=>⟨rfl,?_⟩;simp only[le]at hr;simp only[ie,lowA_env hd,lowA_env hk,lowA_env hx,Option.bind_some,hs];exact hr
 ·obtain⟨x,hx,h⟩:=oB h;obtain⟨l,hl,rfl⟩:=oM h;exact ok_len (lowA_env hx E) hl
 ·obtain⟨x,hx,h⟩:=oB h;obtain⟨ys,hys,rfl⟩:=oM h;exact LowOk.quiet rfl fun v hv=>by simp only[lq]at hv;simp only[iq,lowA_env hx,lowAs_env hys,Option.bind_some];simpa using hv
 ·obtain⟨x,hx,h⟩:=oB h;obtain⟨ys,hys,rfl⟩:=oM h;exact LowOk.quiet rfl fun v hv=>by simp only[lq]at hv;simp only[iq,lowA_env hx,lowAs_env hys,Option.bind_some];simpa using hv
 ·obtain⟨s,hs,h⟩:=oB h;obtain⟨x,hx,h⟩:=oB h;exact ok_app (lowA_env hs E) (lowA_env hx E) h
 ·obtain⟨s,hs,h⟩:=oB h;obtain⟨x,hx,h⟩:=oB h;exact ok_copy (lowA_env hs E) (lowA_env hx E) h
 ·obtain⟨s,hs,h⟩:=oB h;exact ok_clear (lowA_env hs E) h
 ·obtain⟨d,hd,h⟩:=oB h;obtain⟨k,hk,h⟩:=oB h;obtain⟨s,rfl,hs⟩:=ok_del (H:=H) h;refine LowOk.eff rfl fun r hr=>⟨rfl,?_⟩;simp only[le]at hr;simp only[ie,lowA_env hd,lowA_env hk,Option.bind_some,hs];exact hr
 ·rename_i f args ts;obtain⟨as,has,h⟩:=oB h;obtain⟨y,hy,h⟩:=oB h;have hV:lo=.callV y as->LowOk P cal H E (.call { callee:=.value f,args:=args,argTypes:=ts }) lo:=by
   rintro rfl;refine LowOk.eff rfl fun r hr=>⟨by simp[iq],?_⟩;simp only[le]at hr;simp only[ie,lowA_env hy,lowAs_env has,Option.bind_some];split at hr
   ·rename_i e
    try rw[e]
    split at hr
    ·rename_i hc;simp only[hcal _ hc,if_true];exact hr
    ·cases hr
   ·cases hr
  split at h
  ·rename_i g;split at h
   ·rename_i hc
    cases h
    refine LowOk.eff rfl fun r hr=>⟨by simp[iq],?_⟩;simp only[le]at hr;simp only[ie,lowA_env hy,lowAs_env has,Option.bind_some,la,hc,if_true,List.nil_append,List.append_nil];exact hr
   ·rename_i hc;split at h
    ·rename_i k hk
     cases h
     refine LowOk.eff rfl fun r hr=>⟨by simp[iq],?_⟩;simp only[le]at hr;simp only[ie,lowA_env hy,lowAs_env has,Option.bind_some,la,if_neg hc,hk,List.nil_append,List.append_nil];exact hr
    ·split at h
     ·split at h
      ·cases h;exact LowOk.quiet rfl fun v hv=>by simp[lq]at hv
      ·cases h
     ·cases h
  ·exact hV (by cases h;rfl)
 ·rename_i x t ts;obtain⟨x',hx,h⟩:=oB h;split at h
  ·rename_i e hu
   cases h
   refine LowOk.eff rfl fun r hr=>⟨rfl,?_⟩;simp only[le]at hr;have:icap P t (la E x')=lcap (la E x'):=by unfold icap lcap;rw[hu];cases la E x'<;>first | rfl | (rename_i ex _;cases ex<;>rfl)
   simp only[ie,lowA_env hx,Option.bind_some,this];exact hr
  ·cases h
 ·rename_i rr name args ts;obtain⟨as,has,h⟩:=oB h;obtain⟨y,hy,rfl⟩:=oM h;refine LowOk.eff rfl fun r hr=>⟨by simp[iq],?_⟩;simp only[le]at hr;simp only[ie,lowA_env hy,lowAs_env has,Option.bind_some];split at hr
  ·rename_i t v e
   try rw[e]
   obtain⟨f,hf,hr⟩:=oB hr;obtain⟨w,hw,hr⟩:=oB hr;obtain⟨q1,q2⟩:=invTab_ok (H:=H) hf hw;simp only[q1,Option.bind_some,q2,if_true];exact hr
  ·cases hr
 ·obtain⟨y,hy,h⟩:=oB h;split at h
  ·cases h;exact LowOk.quiet rfl fun v hv=>by simp[lq]at hv
  ·cases h
 ·obtain⟨y,hy,rfl⟩:=oM h;exact LowOk.quiet rfl fun v hv=>by simp[lq]at hv
 ·obtain⟨y,hy,rfl⟩:=oM h;exact LowOk.quiet rfl fun v hv=>by simp only[lq]at hv;simp only[iq,lowA_env hy,Option.bind_some,hv]
 ·cases h
theorem low_step {P:Program}{cal:FuncId->Bool}(hcal:∀g,cal g=true->callable P g=true){H:Heap}{E:Sg}{op:Op}{lo:LOp}(h:lowOp P op=some lo){r:INext×Heap}(hr:lstep cal H E lo=some r):istep P H (penv E) op=some r:=by
 obtain⟨h1,h2⟩:=low_ok (H:=H) (E:=E) hcal h;unfold lstep at hr;unfold istep;split at hr
 ·rename_i hE;obtain⟨g1,g2⟩:=h2 hE r hr;rw[g1];exact g2
 ·rename_i hE;obtain⟨v,hv,hr⟩:=oB hr
  cases hr
  rw[h1 (by simpa using hE) v hv]
theorem low_quiet {P:Program}{cal:FuncId->Bool}(hcal:∀g,cal g=true->callable P g=true){H:Heap}{E:Sg}{op:Op}{lo:LOp}(h:lowOp P op=some lo)(hE:isLE lo=false){v:IV}(hv:lq H E lo=some v):iq P H (penv E) op=some v :=
 (low_ok (H:=H) (E:=E) hcal h).1 hE v hv
structure LO where
 d:Option Nat
 op:LOp
 g:Option (Nat×Bool)
inductive LC where
 | skip
 | reg (l:List LO)
 | drw (l:List LO) (ps:List (Nat×Nat))
 | seq (a b:LC)
 | cond (c:LArg) (a b:LC)
 | block (id:Nat) (a:LC)
 | loop (a:LC)
 | exit (id:Nat)
 | ret
 | bad
 | alt (a b:LC)
 deriving Inhabited
def lstepV (O:Oracle)(H:Heap)(r:Option (INext×Heap)):Option (IV×Heap):=stepV default O H r
def lopV (cal:FuncId->Bool)(O:Oracle)(p:LO)(E:Sg)(H:Heap):Option (IV×Heap) :=
 match p.g with
 | none=>lstepV O H (lstep cal H E p.op)
 | some (t,want)=>if isB (lk E t) want then lstepV O H (lstep cal H E p.op)else some (.tuple [],H)
def lops (cal:FuncId->Bool)(O:Oracle):List LO->Sg->Heap->Option (Sg×Heap)
 | [],E,H=>some (E,H)
 | p::ps,E,H=>(lopV cal O p E H).bind fun r=>lops cal O ps (pput E p.d r.1) r.2
structure LRec where
 p:LO
 E:Sg
 h:Heap
 v:IV
 h':Heap
def ltrace (cal:FuncId->Bool)(O:Oracle):List LO->Sg->Heap->Option (List LRec×Sg×Heap)
 | [],E,H=>some ([],E,H)
 | p::ps,E,H=>(lopV cal O p E H).bind fun r=>(ltrace cal O ps (pput E p.d r.1) r.2).bind fun q=>some (⟨p,E,H,r.1,r.2⟩::q.1,q.2)
def lwanted (p:LO)(E:Sg):Bool:=match p.g with
 | none=>true
 | some (t,want)=>isB (lk E t) want
def llooseOk (recs:List LRec)(ij:Nat×Nat):Bool :=
 match recs[ij.1]?,recs[ij.2]? with
 | some r,some s=> !(lwanted r.p r.E)||(!(isLE r.p.op)&&ivo (lq s.h r.E r.p.op) r.v&&ivo (lq s.h' r.E r.p.op) r.v)
 | _,_=>false
def ldraw (cal:FuncId->Bool)(O:Oracle)(l:List LO)(ps:List (Nat×Nat))(E:Sg)(H:Heap):Option (Sg×Heap) :=
 match ps with
 | []=>lops cal O l E H
 | p::ps=>(ltrace cal O l E H).bind fun q=>if(p::ps).all (llooseOk q.1)then some q.2 else none
def lexec (cal:FuncId->Bool)(O:Oracle)(n:Nat):LC->PBody
 | .skip,E,H=>some (.normal,E,H)
 | .reg l,E,H=>(lops cal O l E H).bind fun r=>some (.normal,r.1,r.2)
 | .drw l ps,E,H=>(ldraw cal O l ps E H).bind fun r=>some (.normal,r.1,r.2)
 | .seq a b,E,H=>(lexec cal O n a E H).bind fun r=>match r with
  | (.normal,σ',H')=>lexec cal O n b σ' H'
  | r=>some r
 | .cond c a b,E,H=>match la E c with
  | .bool true=>lexec cal O n a E H
  | .bool false=>lexec cal O n b E H
  | _=>none
 | .block id a,E,H=>(lexec cal O n a E H).bind fun r=>match r with
  | (.exit id',σ',H')=>if id'=id then some (.normal,σ',H')else some (.exit id',σ',H')
  | r=>some r
 | .loop a,E,H=>piter (lexec cal O n a) n E H
 | .exit id,E,H=>some (.exit id,E,H)
 | .ret,E,H=>some (.ret,E,H)
 | .bad,_,_=>none
 | .alt _ _,_,_=>none
def lowP (P:Program)(p:POp):LO:=⟨p.d,(lowOp P p.op).getD .bad,p.g⟩
def lowC (P:Program):PC->LC
 | .skip=>.skip
 | .reg l=>.reg (l.map (lowP P))
 | .drw l ps=>.drw (l.map (lowP P)) ps
 | .seq a b=>.seq (lowC P a) (lowC P b)
 | .cond c a b=>match lowA c with
  | some y=>.cond y (lowC P a) (lowC P b)
  | none=>.bad
 | .block id a=>.block id (lowC P a)
 | .loop a=>.loop (lowC P a)
 | .exit id=>.exit id
 | .ret=>.ret
 | .alt a b=>.alt (lowC P a) (lowC P b)
section
variable {P : Program} {cal : FuncId -> Bool} {O : Oracle} (hcal : ∀ g, cal g = true -> callable P g = true)
include hcal
theorem lowP_opV (p:POp)(E:Sg)(H:Heap):LeF (lopV cal O (lowP P p) E H) (popV P O p E H):=by
 have key:LeF (lstepV O H (lstep cal H E (lowP P p).op)) (stepV P O H (istep P H (penv E) p.op)):=by
  intro r hr
  cases hl:lowOp P p.op with
  | none =>
   simp only[lowP,hl,Option.getD_none,lstep,isLE,lq,lstepV,stepV]at hr
   cases hr
  | some lo =>
   simp only[lowP,hl,Option.getD_some]at hr
   cases hs:lstep cal H E lo with
   | none=>simp only[hs,lstepV,stepV]at hr;cases hr
   | some q =>
    rw[low_step hcal hl hs];rw[hs]at hr;exact hr
 unfold lopV popV;simp only[show(lowP P p).g=p.g from rfl]
 cases p.g with
 | none=>exact key
 | some q =>
  obtain⟨t,want⟩:=q;simp only;split
  ·exact key
  ·exact LeF.refl _
theorem lowP_ops :∀(l:List POp) (E:Sg) (H:Heap),LeF (lops cal O (l.map (lowP P)) E H) (pops P O l E H)
 | [],E,H=>LeF.refl _
 | p::ps,E,H=>(lowP_opV hcal p E H).bind fun r=>lowP_ops ps _ _
def upRec (P:Program)(p:POp)(r:LRec):PRec:=⟨p,r.E,r.h,r.v,r.h'⟩
omit hcal in
theorem zipWith_get {α β γ:Type}(f:α->β->γ){l:List α}{k:List β}{i:Nat}{x:α}{y:β}(h1:l[i]? =some x)(h2:k[i]? =some y):(List.zipWith f l k)[i]? =some (f x y):=by
 simp[List.getElem?_zipWith,h1,h2]
theorem lowP_trace :∀(l:List POp) (E:Sg) (H:Heap) {q:List LRec×Sg×Heap},ltrace cal O (l.map (lowP P)) E H=some q->ptrace P O l E H=some (List.zipWith (upRec P) l q.1,q.2)/\q.1.length=l.length/\q.1.map (·.p)=l.map (lowP P)
 | [],E,H,q,h=>by simp only[List.map_nil,ltrace]at h;cases h;exact⟨rfl,rfl,rfl⟩
 | p::ps,E,H,q,h=>by
  simp only[List.map_cons,ltrace]at h;obtain⟨r,h1,h⟩:=oB h;obtain⟨q',h2,h⟩:=oB h
  cases h
  obtain⟨g1,g2,g3⟩:=lowP_trace ps _ _ h2;have h1':=lowP_opV hcal p E H r h1;refine⟨?_,by simp[g2],by simp[g3]⟩;simp only[ptrace,h1',Option.bind_some];rw[show pput E p.d r.1=pput E (lowP P p).d r.1 from rfl,g1];rfl
theorem lowP_draw (l:List POp)(ps:List (Nat×Nat))(E:Sg)(H:Heap):LeF (ldraw cal O (l.map (lowP P)) ps E H) (pdraw P O l ps E H):=by
 unfold ldraw pdraw
 cases ps with
 | nil=>exact lowP_ops hcal l E H
 | cons p ps =>
  intro r hr;obtain⟨q,h1,h2⟩:=oB hr;obtain⟨g1,g2,g3⟩:=lowP_trace hcal l E H h1;rw[g1];split at h2
  ·rename_i hall
   cases h2
   simp only[Option.bind_some];rw[if_pos];rw[List.all_eq_true]at hall ⊢;intro ij hij;have:=hall ij hij;unfold llooseOk at this;split at this
   ·rename_i r s hr1 hs1;have hi:ij.1<l.length:=by rw[←g2];exact(ges hr1).1
    have hj:ij.2<l.length:=by rw[←g2];exact(ges hs1).1
    have hpi:r.p=lowP P l[ij.1]:=by
     have:(q.1.map (·.p))[ij.1]? =some r.p:=by simp[hr1]
     rw[g3]at this;simp[hi]at this;exact this.symm
    unfold plooseOk;rw[zipWith_get _ (List.getElem?_eq_getElem hi) hr1,zipWith_get _ (List.getElem?_eq_getElem hj) hs1];simp only[upRec];simp only[Bool.or_eq_true,Bool.and_eq_true,Bool.not_eq_true']at this ⊢;rcases this with hw | ⟨⟨hE,ha⟩,hb⟩
    ·left;rw[hpi]at hw;exact hw
    ·right
     cases hl:lowOp P l[ij.1].op with
     | none =>
      have hbad:r.p.op=.bad:=by rw[hpi];simp[lowP,hl]
      rw[hbad]at ha;simp[lq,ivo]at ha
     | some lo =>
      have hlo:r.p.op=lo:=by rw[hpi];simp[lowP,hl]
      rw[hlo]at hE ha hb;exact⟨by rw[low_quiet hcal hl hE (ivo_eq ha)];exact ivo_refl _,by rw[low_quiet hcal hl hE (ivo_eq hb)];exact ivo_refl _⟩
   ·cases this
  ·cases h2
omit hcal in
theorem piter_le {f g:PBody}(h:∀E H,LeF (f E H) (g E H))(k:Nat):∀E H,LeF (piter f k E H) (piter g k E H):=piter_mono h k k (Nat.le_refl k)
theorem low_exec {n:Nat}:∀(c:PC) (E:Sg) (H:Heap),LeF (lexec cal O n (lowC P c) E H) (pexec P O n c E H):=by
 intro c
 induction c with
 | skip=>intro E H;exact LeF.refl _
 | reg l=>intro E H;exact(lowP_ops hcal l E H).bind fun _=>LeF.refl _
 | drw l ps=>intro E H;exact(lowP_draw hcal l ps E H).bind fun _=>LeF.refl _
 | alt a b _ _=>intro E H;exact LeF.refl _
 | seq a b iha ihb =>
  intro E H;refine(iha E H).bind fun r=> ?_;obtain⟨x,σ',H'⟩:=r
  cases x with
  | normal=>exact ihb σ' H'
  | exit id=>exact LeF.refl _
  | ret=>exact LeF.refl _
 | cond c a b iha ihb =>
  intro E H;simp only[lowC]
  cases hc:lowA c with
  | none=>intro r hr;cases hr
  | some y =>
   simp only[lexec,pexec,lowA_env hc]
   cases la E y with
   | bool t=>cases t;exact ihb E H;exact iha E H
   | _=>exact fun r hr=>by cases hr
 | block id a ih=>intro E H;exact(ih E H).bind fun r=>LeF.refl _
 | loop a ih=>intro E H;exact piter_le ih n E H
 | exit id=>intro E H;exact LeF.refl _
 | ret=>intro E H;exact LeF.refl _
end
abbrev qO (n:Nat)(o:LOp):LO:=⟨some n,o,none⟩
abbrev qM (n m:Nat):LO:=⟨some n,.mv (.t m),none⟩
abbrev k6 (n:Int):LArg:=.k (.int .i64 n)
abbrev CB :=FuncId->Bool
abbrev OH :=Option (IV×Heap)
end Go.Shade
namespace Go.Shade
open Go.RowKit
variable {cal : FuncId -> Bool} {O : Oracle}
theorem lexec_mono {n k:Nat}(hn:n<=k):∀(c:LC) (E:Sg) (H:Heap),LeF (lexec cal O n c E H) (lexec cal O k c E H):=by
 intro c
 induction c with
 | seq c d ihc ihd =>
  intro E H;refine(ihc E H).bind fun r=> ?_;obtain⟨x,σ',H'⟩:=r
  cases x with
  | normal=>exact ihd σ' H'
  | exit id=>exact LeF.refl _
  | ret=>exact LeF.refl _
 | cond c a b iha ihb =>
  intro E H;simp only[lexec];split
  ·exact iha E H
  ·exact ihb E H
  ·exact LeF.refl _
 | block id c ih =>
  intro E H;exact(ih E H).bind fun r=>LeF.refl _
 | loop c ih =>
  intro E H;simp only[lexec];exact piter_mono ih n k hn E H
 | _=>intro E H;exact LeF.refl _
noncomputable def lxd (cal:FuncId->Bool)(O:Oracle)(c:LC):PBody:=fun E H=>lim fun n=>lexec cal O n c E H
theorem lxd_rising (cal:FuncId->Bool)(O:Oracle)(c:LC)(E:Sg)(H:Heap):Rising fun n=>lexec cal O n c E H:=fun n k h=>lexec_mono h c E H
theorem lxd_some {c:LC}{E:Sg}{H:Heap}{r:IX×Sg×Heap}:lxd cal O c E H=some r↔∃n,lexec cal O n c E H=some r:=lim_some (lxd_rising cal O c E H)
section
variable {cal : FuncId -> Bool} {O : Oracle} {E : Sg} {H : Heap}
theorem lxd_const {c:LC}{r:Option (IX×Sg×Heap)}(h:∀n,lexec cal O n c E H=r):lxd cal O c E H=r :=
 lim_eq (lxd_rising cal O c E H) fun v=>⟨fun e=>⟨0,by rw[h,e]⟩,fun⟨n,hn⟩=>by rw[←hn,h]⟩
theorem lxd_skip :lxd cal O .skip E H=some (.normal,E,H):=lxd_const fun _=>rfl
theorem lxd_exit {id:Nat}:lxd cal O (.exit id) E H=some (.exit id,E,H):=lxd_const fun _=>rfl
theorem lxd_ret :lxd cal O .ret E H=some (.ret,E,H):=lxd_const fun _=>rfl
end
inductive LRes where
 | tmp (t:Nat)
 | cell1 (x:Nat)
 | celln (x n:Nat)
 deriving Inhabited
structure LFun where
 pc:LC
 rs:List LRes
 n:Nat
 deriving Inhabited
def lresult (E:Sg)(H:Heap):LRes->Option IV
 | .tmp t=>some (lk E t)
 | .cell1 x=>lload1 H (lk E x)
 | .celln x n=>lloadn H n (lk E x)
def lresults (E:Sg)(H:Heap):List LRes->Option (List IV)
 | []=>some []
 | r::rs=>(lresult E H r).bind fun v=>(lresults E H rs).bind fun vs=>some (v::vs)
def lback (rs:List LRes)(r:Option (IX×Sg×Heap)):Option (IV×Heap):=r.bind fun q=>match q with
 | (.exit _,_,_)=>none
 | (_,E,H)=>(lresults E H rs).bind fun vs=>some (pack vs,H)
noncomputable def lrun (cal:FuncId->Bool)(O:Oracle)(lf:LFun)(args:List IV)(H:Heap):Option (IV×Heap):=lback lf.rs (lxd cal O lf.pc (initFrom 0 args) H)
def lowRes (P:Program):ResultVar->Option LRes
 | .tmp t=>some (.tmp t)
 | .cell x t=>match isAggT P t with
  | some true=>(szOf P t).map fun n=>.celln x n
  | some false=>some (.cell1 x)
  | none=>none
def lowRess (P:Program):List ResultVar->Option (List LRes)
 | []=>some []
 | r::rs=>(lowRes P r).bind fun x=>(lowRess P rs).bind fun xs=>some (x::xs)
theorem lowRes_le {P:Program}{r:ResultVar}{x:LRes}(h:lowRes P r=some x)(E:Sg)(H:Heap):presult P E H r=lresult E H x:=by
 cases r with
 | tmp t=>simp only[lowRes]at h;cases h;rfl
 | cell y t =>
  simp only[lowRes]at h;split at h
  ·rename_i ha;obtain⟨n,hn,rfl⟩:=oM h;simp only[presult,lresult]
   cases lk E y<;>first | rfl | (simp only[lloadn_eq ha hn])
  ·rename_i ha
   cases h
   simp only[presult,lresult]
   cases lk E y<;>first | rfl | (simp only[lload1_eq ha])
  ·cases h
theorem lowRess_le {P:Program}:∀{rs:List ResultVar} {xs:List LRes},lowRess P rs=some xs->∀(E:Sg) (H:Heap),presults P E H rs=lresults E H xs
 | [],xs,h,E,H=>by simp only[lowRess]at h;cases h;rfl
 | r::rs,xs,h,E,H=>by
  simp only[lowRess]at h;obtain⟨x,h1,h⟩:=oB h;obtain⟨xs',h2,h⟩:=oB h
  cases h
  simp only[presults,lresults,lowRes_le h1,lowRess_le h2]
def lowF (P:Program)(fn:Func):Option LFun:=(compileF P fn).bind fun pf=>(lowRess P pf.rs).bind fun rs=>some ⟨lowC P pf.pc,rs,pf.n⟩
theorem low_xd {P:Program}(hcal:∀g,cal g=true->callable P g=true)(c:PC)(E:Sg)(H:Heap):LeF (lxd cal O (lowC P c) E H) (pxd P O c E H):=by
 intro r hr;obtain⟨n,hn⟩:=lxd_some.1 hr;exact pxd_some.2 ⟨n,low_exec hcal c E H r hn⟩
theorem low_den {P:Program}{T:Table}{cal:FuncId->Bool}(hcal:∀g,cal g=true->callable P g=true){f:FuncId}{fn:Func}{lf:LFun}(h:T f=none)(hf:P.funcs[f]? =some fn)(hc:lowF P fn=some lf){args:List IV}{H:Heap}(hl:args.length<=lf.n){r:IV×Heap}(hr:lrun cal (den P T) lf args H=some r) :
  den P T f args H=some r:=by
 unfold lowF at hc;obtain⟨pf,h1,hc⟩:=oB hc;obtain⟨rs,h2,hc⟩:=oB hc
 cases hc
 rw[den_pbody h hf h1 args H hl];unfold lrun lback at hr;unfold pback;obtain⟨q,g1,g2⟩:=oB hr;rw[low_xd hcal pf.pc _ _ _ g1];obtain⟨x,E,H'⟩:=q
 cases x with
 | normal=>simp only[Option.bind_some,lowRess_le h2];exact g2
 | ret=>simp only[Option.bind_some,lowRess_le h2];exact g2
 | exit id=>cases g2
end Go.Shade
namespace Go.Shade
open Go.RowKit
variable {X : Heap} {a : Int} {b i lb n o s sz : Nat} {cs : List IV} {ex : Bool} {k : IntKind} {v x : IV}
def ob {α β:Type}(o:Option α)(f:α->Option β):Option β:=o.bind f
@[congr] theorem ob_congr {α β : Type} {o o' : Option α} {f : α -> Option β} (h : o = o') : ob o f = ob o' f := by rw [h]
@[go_sem ↓] theorem ob_some {α β : Type} {v : α} {f : α -> Option β} : ob (some v) f = f v := id rfl
def gd {α:Type}(b:Bool)(x y:Option α):Option α:=if b=true then x else y
section
variable {cal : FuncId -> Bool} {O : Oracle} {E : Sg} {H : Heap} {ps : List LO} {d : Nat} {d' : Option Nat} {op : LOp}
@[go_sem] theorem isB_tt : isB (.bool true) true = true := id rfl
@[go_sem] theorem isB_tf : isB (.bool true) false = false := id rfl
@[go_sem] theorem isB_ft : isB (.bool false) true = false := id rfl
@[go_sem] theorem isB_ff : isB (.bool false) false = true := id rfl
def lpick (c a b:IV):Option IV:=match c with
 | .bool true=>some a
 | .bool false=>some b
 | _=>none
@[go_sem] theorem lpick_true {a b : IV} : lpick (.bool true) a b = some a := id rfl
@[go_sem] theorem lpick_false {a b : IV} : lpick (.bool false) a b = some b := id rfl
def lchk (v:IV):Option IV:=match v with
 | .ptr b o=>some (.ptr b o)
 | .iface t v=>some (.iface t v)
 | .func (.func f) a b=>some (.func (.func f) a b)
 | _=>none
@[go_sem] theorem lchk_ptr : lchk (.ptr b o) = some (.ptr b o) := id rfl
def leqv (neg:Bool)(r:Option Bool):Option IV:=r.bind fun b=>some (.bool (if neg then !b else b))
@[go_sem] theorem leqv_t {b : Bool} : leqv true (some b) = some (.bool (!b)) := id rfl
@[go_sem] theorem iun_not {b : Bool} : iun .not (.bool b) = some (.bool (!b)) := id rfl
def lcvt (k:IntKind)(v:IV):Option IV:=match v with
 | .int _ n=>some (.int k (k.wrap n))
 | _=>none
@[go_sem] theorem lcvt_int {k' : IntKind} {n : Int} : lcvt k (.int k' n) = some (.int k (k.wrap n)) := id rfl
def lb2s (H:Heap)(v:IV):Option IV:=match v with
 | .nilSlice=>some (.str [])
 | .slice b o n lb ex sz=>(lsl H 1 (.slice b o n lb ex sz) n).bind fun cs=>(ibytes cs).bind fun l=>some (.str l)
 | _=>none
def loff (v:IV)(k:Nat):Option IV:=match v with
 | .ptr b o=>some (.ptr b (o+k))
 | _=>none
@[go_sem] theorem loff_ptr {k : Nat} : loff (.ptr b o) k = some (.ptr b (o + k)) := id rfl
def lix (s:Nat)(x i:IV):Option IV:=match x,i with
 | .slice b o n _ _ _,.int _ j=>if 0<=j/\j<n then some (.ptr b (o+j.toNat*s))else none
 | _,_=>none
@[go_sem] theorem lix_slice {j : Int} : lix s (.slice b o n lb ex sz) (.int k j) = if 0 <= j /\ j < n then some (.ptr b (o + j.toNat * s)) else none := id rfl
def lixa (n s:Nat)(x i:IV):Option IV:=match x,i with
 | .ptr b o,.int _ j=>if 0<=j/\j<n then some (.ptr b (o+j.toNat*s))else none
 | _,_=>none
theorem lixa_ptr {j:Int}:lixa n s (.ptr b o) (.int k j)=if 0<=j/\j<n then some (.ptr b (o+j.toNat*s))else none:=id rfl
@[go_sem] theorem iextract_tuple {vs : List IV} : iextract (.tuple vs) i = vs[i]? := id rfl
@[go_sem] theorem llen_str {s : List UInt8} : llen H .str (.str s) = some (.int .i64 s.length) := id rfl
@[go_sem] theorem llen_slice : llen H .slice (.slice b o n lb ex sz) = some (.int .i64 n) := id rfl
@[go_sem] theorem llen_nil : llen H .slice .nilSlice = some (.int .i64 0) := id rfl
def lbox (H:Heap)(v:IV):Option (IV×Heap):=if isTuple v=false/\v.cells.all IV.one=true then some (.ptr H.length 0,H++[.row v.cells false])else none
theorem lbox_one (h:v.one=true):lbox H v=some (.ptr H.length 0,H++[.row [v] false]):=by
 cases v<;>first | rfl | (simp[IV.one]at h)
theorem lbox_agg (h:cs.all IV.one=true):lbox H (.agg cs)=some (.ptr H.length 0,H++[.row cs false]):=by
 simp only[lbox,isTuple,IV.cells,h,and_self,if_true]
theorem one_int {n:Int}:IV.one (.int k n)=true:=id rfl
theorem one_bool {b:Bool}:IV.one (.bool b)=true:=id rfl
theorem one_str {s:List UInt8}:IV.one (.str s)=true:=id rfl
theorem one_ptr :IV.one (.ptr b o)=true:=id rfl
theorem one_nilPtr :IV.one .nilPtr=true:=id rfl
theorem one_slice :IV.one (.slice b o n lb ex sz)=true:=id rfl
theorem one_nilSlice :IV.one .nilSlice=true:=id rfl
theorem one_map {r:Nat}:IV.one (.map r)=true:=id rfl
theorem one_nilMap :IV.one .nilMap=true:=id rfl
theorem one_func {f:Fn}{a b:List IV}:IV.one (.func f a b)=true:=id rfl
theorem one_nilFunc :IV.one .nilFunc=true:=id rfl
theorem one_iface {t:TypeId}:IV.one (.iface t v)=true:=id rfl
theorem one_nilIface :IV.one .nilIface=true:=id rfl
def og1 (o:Option IObj)(i:Nat):Option IV:=match o with
 | some (.row cs _)=>cs[i]?
 | _=>none
def ogn (o:Option IObj)(i n:Nat):Option IV:=match o with
 | some (.row cs _)=>if i+n<=cs.length then some (.agg ((cs.drop i).take n))else none
 | _=>none
theorem og1_row {ro:Bool}:og1 (some (.row cs ro)) i=cs[i]? :=id rfl
theorem ogn_row {ro:Bool}:ogn (some (.row cs ro)) i n=if i+n<=cs.length then some (.agg ((cs.drop i).take n))else none:=id rfl
theorem lload1_ptr :lload1 H (.ptr b o)=og1 (H[b]?) o:=id rfl
theorem lloadn_ptr :lloadn H n (.ptr b o)=ogn (H[b]?) o n:=id rfl
def putO (o:Option IObj)(b i n:Nat)(x:IV)(H:Heap):Option Heap:=match o with
 | some (.row cs false)=>if isTuple x=false/\x.cells.length=n/\i+x.cells.length<=cs.length/\x.cells.all IV.one=true then some (H.set b (.row (putAt cs i x.cells) false))else none
 | _=>none
theorem lstore_ptr :lstore H n (.ptr b o) x=putO (H[b]?) b o n x H:=id rfl
theorem putO_one (h:x.one=true)(hi:i<cs.length):putO (some (.row cs false)) b i 1 x H=some (H.set b (.row (cs.set i x) false)):=by
 have hc:x.cells=[x]:=by cases x<;>first | rfl | (simp[IV.one]at h)
 have ht:isTuple x=false:=by cases x<;>first | rfl | (simp[IV.one]at h)
 unfold putO;simp only[hc,ht];rw[if_pos (by simp[h];omega)];rfl
theorem putO_all {xs:List IV}(h:xs.all IV.one=true)(hn:xs.length=n)(hc:cs.length=n):putO (some (.row cs false)) b 0 n (.agg xs) H=some (H.set b (.row xs false)):=by
 unfold putO;simp only[IV.cells,isTuple];rw[if_pos ⟨trivial,hn,by omega,h⟩];refine congrArg (fun l=>some (H.set b (.row l false))) ?_;apply List.ext_getElem?;intro j;rw[putAt_get (by omega)];by_cases e:j<xs.length
 ·rw[if_pos (by omega)];simp
 ·rw[if_neg (by omega),List.getElem?_eq_none (by omega),List.getElem?_eq_none (by omega)]
theorem at_new :(H++X)[H.length]? =X[0]? :=by rw[List.getElem?_append_right (Nat.le_refl _),Nat.sub_self]
theorem at_newk {k:Nat}:(H++X)[H.length+k]? =X[k]? :=by rw[List.getElem?_append_right (by omega),Nat.add_sub_cancel_left]
theorem set_new {o:IObj}:(H++X).set H.length o=H++X.set 0 o:=by rw[List.set_append_right _ _ (Nat.le_refl _),Nat.sub_self]
theorem set_newk {k:Nat}{o:IObj}:(H++X).set (H.length+k) o=H++X.set k o:=by rw[List.set_append_right _ _ (by omega),Nat.add_sub_cancel_left]
theorem len_new :(H++X).length=H.length+X.length:=List.length_append
attribute [go_sem] lbox_one lbox_agg one_int one_bool one_str one_ptr one_nilPtr one_slice one_nilSlice one_map one_nilMap one_func one_nilFunc one_iface one_nilIface og1_row ogn_row lload1_ptr lloadn_ptr lstore_ptr putO_one putO_all at_new at_newk set_new set_newk len_new List.append_assoc List.cons_append List.nil_append List.length_cons List.length_nil List.set_cons_zero List.set_cons_succ List.all_cons List.all_nil List.drop_zero List.drop_succ_cons List.take_succ_cons List.take_zero
def lbldS (H:Heap)(s n:Nat)(z:List IV)(l:List (Nat×IV)):Option (IV×Heap):=(ifill (fun i=>some (i*s,s)) (zrep n z) l).bind fun cells =>
  if cells.all IV.one=true/\cells.length=n*s then some (.slice H.length 0 n n true s,H++[.row cells false])else none
def lapp (H:Heap)(s b:Nat)(d x:IV):Option (IV×Heap):=match lappend H s b d x with
 | some (.val v,H')=>some (v,H')
 | _=>none
theorem lappend_val {d:IV}{r:INext×Heap}(h:lappend H s b d x=some r):∃v H',r=(.val v,H'):=by
 unfold lappend at h;obtain⟨n,_,h⟩:=oB h;have fr:∀{H:Heap} {old new:List IV} {k:Nat},lfresh s b H old new k=some r->∃v H',r=(.val v,H'):=by
  intro H old new k h;unfold lfresh at h;split at h
  ·cases h;exact⟨_,_,rfl⟩
  ·cases h
 split at h
 ·split at h
  ·cases h;exact⟨_,_,rfl⟩
  ·cases h;exact⟨_,_,rfl⟩
  ·cases h
 ·obtain⟨new,_,h⟩:=oB h;split at h
  ·split at h
   ·exact fr h
   ·split at h
    ·split at h
     ·split at h
      ·cases h;exact⟨_,_,rfl⟩
      ·cases h
     ·cases h
    ·obtain⟨old,_,h⟩:=oB h;split at h
     ·exact fr h
     ·split at h
      ·split at h
       ·exact fr h
       ·cases h
      ·cases h
   ·cases h
  ·cases h
def lcallV (cal:FuncId->Bool)(O:Oracle)(H:Heap)(f:IV)(as:List IV):Option (IV×Heap):=match f with
 | .func (.func g) first cap=>if cal g=true then O g (first++as++cap) H else none
 | _=>none
theorem lcallV_func {g:FuncId}{first cap as:List IV}(h:cal g=true):lcallV cal O H (.func (.func g) first cap) as=O g (first++as++cap) H:=by simp only[lcallV,h,if_true]
@[go_sem] theorem lbin_add {b : Int} : lbin .add (.int k a) (.int k b) = some (.int k (k.wrap (a + b))) := by simp [lbin, iarith]
@[go_sem] theorem lbin_sub {b : Int} : lbin .sub (.int k a) (.int k b) = some (.int k (k.wrap (a - b))) := by simp [lbin, iarith]
@[go_sem] theorem lbin_mul {b : Int} : lbin .mul (.int k a) (.int k b) = some (.int k (k.wrap (a * b))) := by simp [lbin, iarith]
@[go_sem] theorem lbin_quo {b : Int} (h : b ≠ 0) : lbin .quo (.int k a) (.int k b) = some (.int k (k.wrap (a.tdiv b))) := by simp [lbin, iarith, h]
@[go_sem] theorem lbin_rem {b : Int} (h : b ≠ 0) : lbin .rem (.int k a) (.int k b) = some (.int k (a.tmod b)) := by simp [lbin, iarith, h]
@[go_sem] theorem lbin_eql {b : Int} : lbin .eql (.int k a) (.int k b) = some (.bool (decide (a = b))) := by simp [lbin, iarith];rfl
@[go_sem] theorem lbin_neq {b : Int} : lbin .neq (.int k a) (.int k b) = some (.bool (!decide (a = b))) := by simp [lbin, iarith];rfl
@[go_sem] theorem lbin_lss {b : Int} : lbin .lss (.int k a) (.int k b) = some (.bool (decide (a < b))) := by simp [lbin, iarith]
@[go_sem] theorem lbin_leq {b : Int} : lbin .leq (.int k a) (.int k b) = some (.bool (decide (a <= b))) := by simp [lbin, iarith]
@[go_sem] theorem lbin_gtr {b : Int} : lbin .gtr (.int k a) (.int k b) = some (.bool (decide (b < a))) := by simp [lbin, iarith]
@[go_sem] theorem lbin_geq {b : Int} : lbin .geq (.int k a) (.int k b) = some (.bool (decide (b <= a))) := by simp [lbin, iarith]
theorem beqDec {a b:List UInt8}:(a==b)=decide (a=b):=by
 by_cases h:a=b
 ·subst h;simp
 ·rw[decide_eq_false h];simpa using h
@[go_sem] theorem lbin_seq {a b : List UInt8} : lbin .eql (.str a) (.str b) = some (.bool (decide (a = b))) := by simp only [lbin, istr, beqDec]
@[go_sem] theorem lbin_sneq {a b : List UInt8} : lbin .neq (.str a) (.str b) = some (.bool (!decide (a = b))) := by simp only [lbin, istr, beqDec]
end
theorem ini_nil :initFrom i []=[]:=id rfl
theorem ini_cons {vs:List IV}:initFrom i (v::vs)=(i,v)::initFrom (i+1) vs:=id rfl
attribute [go_sem] Bool.not_true Bool.not_false Bool.true_and Bool.false_and Bool.and_true Bool.and_false List.getElem?_cons_succ List.getElem?_cons_zero ini_nil ini_cons lxd_skip lxd_exit lxd_ret pThen_normal pThen_ret pThen_exit pBlock_normal pBlock_ret
end Go.Shade
namespace Go.Shade
open Go.RowKit
variable {H : Heap} {args : List IV} {f : Nat -> Nat} {m : Mp} {n : Nat} {o : IObj}
mutual
def ren (f:Nat->Nat):IV->IV
 | .ptr b o=>.ptr (f b) o
 | .slice b o n lb ex sz=>.slice (f b) o n lb ex sz
 | .map r=>.map (f r)
 | .func g a b=>.func g (rens f a) (rens f b)
 | .iface t v=>.iface t (ren f v)
 | .agg cs=>.agg (rens f cs)
 | .tuple vs=>.tuple (rens f vs)
 | .bool b=>.bool b
 | .int k n=>.int k n
 | .str s=>.str s
 | .nilPtr=>.nilPtr
 | .nilSlice=>.nilSlice
 | .nilMap=>.nilMap
 | .nilFunc=>.nilFunc
 | .nilIface=>.nilIface
def rens (f:Nat->Nat):List IV->List IV
 | []=>[]
 | v::vs=>ren f v::rens f vs
end
mutual
def inB (n:Nat):IV->Bool
 | .ptr b _=>decide (b<n)
 | .slice b .. =>decide (b<n)
 | .map r=>decide (r<n)
 | .func _ a b=>inBs n a&&inBs n b
 | .iface _ v=>inB n v
 | .agg cs=>inBs n cs
 | .tuple vs=>inBs n vs
 | _=>true
def inBs (n:Nat):List IV->Bool
 | []=>true
 | v::vs=>inB n v&&inBs n vs
end
def sub (n:Nat)(f:Nat->Nat)(m:Mp):Mp:=fun i=>if i<n then m (f i)else none
mutual
theorem VR_ren {n:Nat}{f:Nat->Nat}{m:Mp}:∀(v:IV) (u:Value),inB n v=true->VR m (ren f v) u->VR (sub n f m) v u
 | .ptr b o,u,hb,h=>by
  simp only[inB,decide_eq_true_eq]at hb;simp only[ren,VR]at h ⊢;obtain⟨l,h1,h2⟩:=h;exact⟨l,by simp only[sub,if_pos hb];exact h1,h2⟩
 | .slice b o k lb ex sz,u,hb,h=>by
  simp only[inB,decide_eq_true_eq]at hb;simp only[ren,VR]at h ⊢;obtain⟨l,o',c,sp,h1,h2⟩:=h;exact⟨l,o',c,sp,by simp only[sub,if_pos hb];exact h1,h2⟩
 | .map r,u,hb,h=>by
  simp only[inB,decide_eq_true_eq]at hb;simp only[ren,VR]at h ⊢;obtain⟨l,h1,h2⟩:=h;exact⟨l,by simp only[sub,if_pos hb];exact h1,h2⟩
 | .func g a b,u,hb,h=>by
  simp only[inB,Bool.and_eq_true]at hb;simp only[ren,VR]at h ⊢;obtain⟨a',b',h1,h2,h3⟩:=h;exact⟨a',b',h1,VRs_ren a _ hb.1 h2,VRs_ren b _ hb.2 h3⟩
 | .iface t v,u,hb,h=>by
  simp only[inB]at hb;simp only[ren,VR]at h ⊢;obtain⟨y,h1,h2⟩:=h;exact⟨y,h1,VR_ren v y hb h2⟩
 | .agg cs,u,hb,h=>by
  simp only[inB]at hb;simp only[ren,VR]at h ⊢;obtain⟨a,h1,h2⟩:=h;exact⟨a,h1,VRs_ren cs _ hb h2⟩
 | .tuple cs,u,hb,h=>by
  simp only[inB]at hb;simp only[ren,VR]at h ⊢;obtain⟨a,h1,h2⟩:=h;exact⟨a,h1,VRs_ren cs _ hb h2⟩
 | .bool b,u,_,h=>by simpa[ren,VR]using h
 | .int k i,u,_,h=>by simpa[ren,VR]using h
 | .str s,u,_,h=>by simpa[ren,VR]using h
 | .nilPtr,u,_,h=>by simpa[ren,VR]using h
 | .nilSlice,u,_,h=>by simpa[ren,VR]using h
 | .nilMap,u,_,h=>by simpa[ren,VR]using h
 | .nilFunc,u,_,h=>by simpa[ren,VR]using h
 | .nilIface,u,_,h=>by simpa[ren,VR]using h
theorem VRs_ren {n:Nat}{f:Nat->Nat}{m:Mp}:∀(vs:List IV) (us:List Value),inBs n vs=true->VRs m (rens f vs) us->VRs (sub n f m) vs us
 | [],us,_,h=>by simpa[rens,VRs]using h
 | v::vs,us,hb,h=>by
  simp only[inBs,Bool.and_eq_true]at hb;simp only[rens,VRs]at h ⊢;obtain⟨u,us',h1,h2,h3⟩:=h;exact⟨u,us',h1,VR_ren v u hb.1 h2,VRs_ren vs us' hb.2 h3⟩
end
theorem rens_get {f:Nat->Nat}:∀{vs:List IV} {i:Nat} {v:IV},vs[i]? =some v->(rens f vs)[i]? =some (ren f v)
 | [],i,v,h=>by simp at h
 | x::vs,0,v,h=>by simp at h;subst h;rfl
 | x::vs,i+1,v,h=>by simp only[List.getElem?_cons_succ]at h;simp only[rens,List.getElem?_cons_succ];exact rens_get h
theorem rens_length {f:Nat->Nat}:∀{vs:List IV},(rens f vs).length=vs.length
 | []=>rfl
 | _::vs=>by simp[rens,rens_length (vs:=vs)]
theorem inBs_get {n:Nat}:∀{vs:List IV} {i:Nat} {v:IV},inBs n vs=true->vs[i]? =some v->inB n v=true
 | [],i,v,_,h=>by simp at h
 | x::vs,0,v,hb,h=>by simp only[inBs,Bool.and_eq_true]at hb;simp at h;subst h;exact hb.1
 | x::vs,i+1,v,hb,h=>by simp only[inBs,Bool.and_eq_true]at hb;simp only[List.getElem?_cons_succ]at h;exact inBs_get hb.2 h
theorem ren_one (v:IV):(ren f v).one=v.one:=by cases v<;>rfl
def renO (f:Nat->Nat):IObj->IObj
 | .row cs ro=>.row (rens f cs) ro
 | .map es c=>.map (es.map fun e=>(ren f e.1,ren f e.2.1,e.2.2)) c
 | .iter r s e a=>.iter (r.map f) s e a
 | .dead=>.dead
def inBO (n:Nat):IObj->Bool
 | .row cs _=>inBs n cs
 | .map es _=>es.all fun e=>inB n e.1&&inB n e.2.1
 | .iter r _ _ _=>match r with
  | some k=>decide (k<n)
  | none=>true
 | .dead=>true
theorem Good_ren {B0:Nat}{w:World}{i:Nat}(hi:i<n)(hb:inBO n o=true)(h:Good B0 m w (f i) (renO f o)):Good B0 (sub n f m) w i o:=by
 have hm:∀l,m (f i)=some l->sub n f m i=some l:=fun l hl=>by simp only[sub,if_pos hi];exact hl
 cases o with
 | row cs ro =>
  simp only[inBO]at hb
  cases ro with
  | false =>
   obtain⟨l,C,e,fr,h1,h2,h3,h4,h5,h6,h7⟩:=h;refine⟨l,C,e,fr,hm _ h1,h2,h3,by rw[rens_length]at h4;exact h4,h5,h6,fun j v hj=> ?_⟩;obtain⟨g1,u,g2,g3⟩:=h7 j _ (rens_get hj);exact⟨by rw[ren_one]at g1;exact g1,u,g2,VR_ren v u (inBs_get hb hj) g3⟩
  | true =>
   obtain⟨l,h1,h2⟩:=h;refine⟨l,hm _ h1,fun hne=> ?_⟩;obtain⟨C,e,fr,h3,h4,h7⟩:=h2 (by intro e;apply hne;have:=congrArg List.length e;rw[rens_length]at this;exact List.length_eq_zero_iff.1 this);refine⟨C,e,fr,h3,h4,fun j v hj=> ?_⟩;obtain⟨g1,u,g2,g3⟩:=h7 j _ (rens_get hj);exact⟨by rw[ren_one]at g1;exact g1,u,g2,VR_ren v u (inBs_get hb hj) g3⟩
 | map es c =>
  obtain⟨l,es',h1,h2,h3,h4,h5⟩:=h;refine⟨l,es',hm _ h1,h2,h3,by simpa using h4,fun j x hj=> ?_⟩;obtain⟨e,g1,g2,g3,g4⟩:=h5 j (ren f x.1,ren f x.2.1,x.2.2) (by simp[hj]);have hx:inB n x.1=true/\inB n x.2.1=true:=by
   simp only[inBO,List.all_eq_true]at hb;have:=hb x (List.mem_of_getElem? hj)
   simpa using this
  exact⟨e,g1,VR_ren _ _ hx.1 g2,VR_ren _ _ hx.2 g3,g4⟩
 | iter r s e a =>
  obtain⟨l,r',h1,h0,h2,h3,h4⟩:=h;refine⟨l,r',hm _ h1,h0,h2,h3,?_⟩;rcases h4 with⟨h5,h6⟩ | ⟨k,lk,h5,h6,h7⟩
  ·cases r with
   | none=>exact .inl ⟨rfl,h6⟩
   | some k=>cases h5
  ·cases r with
   | none=>cases h5
   | some k' =>
    simp only[Option.map_some,Option.some.injEq]at h5;subst h5;simp only[inBO,decide_eq_true_eq]at hb;exact .inr ⟨k',lk,rfl,by simp only[sub,if_pos hb];exact h6,h7⟩
 | dead=>trivial
theorem Rel.gc {B0:Nat}{w0 w:World}{K:Heap}(h:Rel B0 w0 m H w)(f:Nat->Nat)(hk:∀(i:Nat) o,K[i]? =some o->inBO K.length o=true/\H[f i]? =some (renO f o))(hinj:∀i j,i<K.length->j<K.length->i≠j->f i≠f j):Rel B0 w0 (sub K.length f m) K w:=by
 refine⟨h.below,h.base,fun i l hi=> ?_,fun i o hi=> ?_,fun i j o p li lj hi hj ho hp hne hmi hmj=> ?_⟩
 ·simp only[sub]at hi;split at hi
  ·assumption
  ·cases hi
 ·obtain⟨h1,h2⟩:=hk i o hi;exact Good_ren (ges hi).1 h1 (h.good _ _ h2)
 ·obtain⟨h1,h2⟩:=hk i o hi;obtain⟨h3,h4⟩:=hk j p hj;have hil:=(ges hi).1;have hjl:=(ges hj).1;simp only[sub,if_pos hil]at hmi;simp only[sub,if_pos hjl]at hmj;have hh:∀{q:IObj},q.held=true->(renO f q).held=true:=by
   intro q hq;cases q with
   | row cs ro=>cases ro<;>first | rfl | (simp[IObj.held]at hq)
   | map es c=>rfl
   | iter r s e a=>rfl
   | dead=>simp[IObj.held]at hq
  exact h.inj _ _ _ _ li lj h2 h4 (hh ho) (hh hp) (hinj i j hil hjl hne) hmi hmj
theorem SimCall.gc {P:Program}{g:FuncId}{args:List IV}{H H' K:Heap}{r r':IV}(h:SimCall P g args H r H')(f:Nat->Nat)(hf:∀i,i<H.length->f i=i)(hle:H.length<=K.length)
  (hk:∀(i:Nat) o,K[i]? =some o->inBO K.length o=true/\H'[f i]? =some (renO f o)) (hinj:∀i j,i<K.length->j<K.length->i≠j->f i≠f j) (hr:r=ren f r') (hb:inB K.length r'=true):SimCall P g args H r' K:=by
 intro B0 w0 w m us hR hA;refine(h B0 w0 w m us hR hA).mono ?_;rintro e w' ⟨m',u,he,hext,hR',hu⟩;refine⟨sub K.length f m',u,he,fun i l hi=> ?_,hR'.gc f hk hinj,VR_ren r' u hb (hr▸hu)⟩;have hlt:=hR.dom i l hi;simp only[sub,if_pos (Nat.lt_of_lt_of_le hlt hle),hf i hlt];exact hext i l hi
mutual
theorem VR_inB {n:Nat}{m:Mp}(hd:∀i l,m i=some l->i<n):∀(v:IV) (u:Value),VR m v u->inB n v=true
 | .ptr b o,u,h=>by
  simp only[VR]at h;obtain⟨l,h1,_⟩:=h;simp only[inB,decide_eq_true_eq];exact hd _ _ h1
 | .slice b o k lb ex sz,u,h=>by
  simp only[VR]at h;obtain⟨l,o',c,sp,h1,_⟩:=h;simp only[inB,decide_eq_true_eq];exact hd _ _ h1
 | .map r,u,h=>by
  simp only[VR]at h;obtain⟨l,h1,_⟩:=h;simp only[inB,decide_eq_true_eq];exact hd _ _ h1
 | .func g a b,u,h=>by
  simp only[VR]at h;obtain⟨a',b',_,h2,h3⟩:=h;simp only[inB,VRs_inB hd a _ h2,VRs_inB hd b _ h3,Bool.and_self]
 | .iface t v,u,h=>by
  simp only[VR]at h;obtain⟨y,_,h2⟩:=h;simp only[inB];exact VR_inB hd v y h2
 | .agg cs,u,h=>by
  simp only[VR]at h;obtain⟨a,_,h2⟩:=h;simp only[inB];exact VRs_inB hd cs _ h2
 | .tuple cs,u,h=>by
  simp only[VR]at h;obtain⟨a,_,h2⟩:=h;simp only[inB];exact VRs_inB hd cs _ h2
 | .bool b,u,_=>rfl
 | .int k i,u,_=>rfl
 | .str s,u,_=>rfl
 | .nilPtr,u,_=>rfl
 | .nilSlice,u,_=>rfl
 | .nilMap,u,_=>rfl
 | .nilFunc,u,_=>rfl
 | .nilIface,u,_=>rfl
theorem VRs_inB {n:Nat}{m:Mp}(hd:∀i l,m i=some l->i<n):∀(vs:List IV) (us:List Value),VRs m vs us->inBs n vs=true
 | [],us,_=>rfl
 | v::vs,us,h=>by
  simp only[VRs]at h;obtain⟨u,us',_,h2,h3⟩:=h;simp only[inBs,VR_inB hd v u h2,VRs_inB hd vs us' h3,Bool.and_self]
end
mutual
theorem ren_id {n:Nat}{f:Nat->Nat}(hf:∀i,i<n->f i=i):∀(v:IV),inB n v=true->ren f v=v
 | .ptr b o,h=>by simp only[inB,decide_eq_true_eq]at h;simp only[ren,hf b h]
 | .slice b o k lb ex sz,h=>by simp only[inB,decide_eq_true_eq]at h;simp only[ren,hf b h]
 | .map r,h=>by simp only[inB,decide_eq_true_eq]at h;simp only[ren,hf r h]
 | .func g a b,h=>by
  simp only[inB,Bool.and_eq_true]at h;simp only[ren,rens_id hf a h.1,rens_id hf b h.2]
 | .iface t v,h=>by simp only[inB]at h;simp only[ren,ren_id hf v h]
 | .agg cs,h=>by simp only[inB]at h;simp only[ren,rens_id hf cs h]
 | .tuple cs,h=>by simp only[inB]at h;simp only[ren,rens_id hf cs h]
 | .bool b,_=>rfl
 | .int k i,_=>rfl
 | .str s,_=>rfl
 | .nilPtr,_=>rfl
 | .nilSlice,_=>rfl
 | .nilMap,_=>rfl
 | .nilFunc,_=>rfl
 | .nilIface,_=>rfl
theorem rens_id {n:Nat}{f:Nat->Nat}(hf:∀i,i<n->f i=i):∀(vs:List IV),inBs n vs=true->rens f vs=vs
 | [],_=>rfl
 | v::vs,h=>by
  simp only[inBs,Bool.and_eq_true]at h;simp only[rens,ren_id hf v h.1,rens_id hf vs h.2]
end
mutual
theorem inB_le {n k:Nat}(h:n<=k):∀(v:IV),inB n v=true->inB k v=true
 | .ptr b o,hv=>by simp only[inB,decide_eq_true_eq]at hv ⊢;omega
 | .slice b o _ lb ex sz,hv=>by simp only[inB,decide_eq_true_eq]at hv ⊢;omega
 | .map r,hv=>by simp only[inB,decide_eq_true_eq]at hv ⊢;omega
 | .func g a b,hv=>by
  simp only[inB,Bool.and_eq_true]at hv ⊢;exact⟨inBs_le h a hv.1,inBs_le h b hv.2⟩
 | .iface t v,hv=>by simp only[inB]at hv ⊢;exact inB_le h v hv
 | .agg cs,hv=>by simp only[inB]at hv ⊢;exact inBs_le h cs hv
 | .tuple cs,hv=>by simp only[inB]at hv ⊢;exact inBs_le h cs hv
 | .bool b,_=>rfl
 | .int k i,_=>rfl
 | .str s,_=>rfl
 | .nilPtr,_=>rfl
 | .nilSlice,_=>rfl
 | .nilMap,_=>rfl
 | .nilFunc,_=>rfl
 | .nilIface,_=>rfl
theorem inBs_le {n k:Nat}(h:n<=k):∀(vs:List IV),inBs n vs=true->inBs k vs=true
 | [],_=>rfl
 | v::vs,hv=>by
  simp only[inBs,Bool.and_eq_true]at hv ⊢;exact⟨inB_le h v hv.1,inBs_le h vs hv.2⟩
end
theorem inBs_of {n:Nat}:∀{vs:List IV},(∀(i:Nat) v,vs[i]? =some v->inB n v=true)->inBs n vs=true
 | [],_=>rfl
 | v::vs,h=>by
  simp only[inBs,Bool.and_eq_true];exact⟨h 0 v rfl,inBs_of fun i x hx=>h (i+1) x (by simpa using hx)⟩
theorem Good.inBO {B0 n:Nat}{m:Mp}{w:World}{i:Nat}{o:IObj}(hd:∀i l,m i=some l->i<n)(h:Good B0 m w i o):Shade.inBO n o=true:=by
 cases o with
 | row cs ro =>
  cases ro with
  | false =>
   obtain⟨l,C,e,fr,h1,h2,h3,h4,h5,h6,h7⟩:=h;exact inBs_of fun j v hj=>by obtain⟨_,u,_,h9⟩:=h7 j v hj;exact VR_inB hd v u h9
  | true =>
   obtain⟨l,h1,h2⟩:=h;refine inBs_of fun j v hj=> ?_;obtain⟨C,e,fr,_,_,h7⟩:=h2 (by intro e;subst e;simp at hj);obtain⟨_,u,_,h9⟩:=h7 j v hj;exact VR_inB hd v u h9
 | map es c =>
  obtain⟨l,es',h1,h2,h3,h4,h5⟩:=h;simp only[Shade.inBO,List.all_eq_true,Bool.and_eq_true];intro x hx;obtain⟨j,hj⟩:=List.mem_iff_getElem?.1 hx;obtain⟨e,_,g2,g3,_⟩:=h5 j x hj;exact⟨VR_inB hd _ _ g2,VR_inB hd _ _ g3⟩
 | iter r s e a =>
  obtain⟨l,r',h1,h0,h2,h3,h4⟩:=h;rcases h4 with⟨rfl,h6⟩ | ⟨k,lk,rfl,h6,h7⟩
  ·rfl
  ·exact decide_eq_true (hd _ _ h6)
 | dead=>rfl
theorem renO_id (hf:∀i,i<n->f i=i)(h:inBO n o=true):renO f o=o:=by
 cases o with
 | row cs ro=>simp only[inBO]at h;simp only[renO,rens_id hf cs h]
 | map es c =>
  simp only[inBO,List.all_eq_true,Bool.and_eq_true]at h;simp only[renO]
  congr 1
  have:es.map (fun e=>(ren f e.1,ren f e.2.1,e.2.2))=es.map id:=by
   apply List.map_congr_left;intro x hx;obtain⟨h1,h2⟩:=h x hx;simp only[ren_id hf _ h1,ren_id hf _ h2];rfl
  rw[this,List.map_id]
 | iter r s e a =>
  cases r with
  | none=>rfl
  | some k =>
   simp only[inBO,decide_eq_true_eq]at h;simp only[renO,Option.map_some,hf k h]
 | dead=>rfl
theorem inBO_le {k:Nat}(h:n<=k)(ho:inBO n o=true):inBO k o=true:=by
 cases o with
 | row cs ro=>exact inBs_le h cs ho
 | map es c =>
  simp only[inBO,List.all_eq_true,Bool.and_eq_true]at ho ⊢;intro x hx;exact⟨inB_le h _ (ho x hx).1,inB_le h _ (ho x hx).2⟩
 | iter r s e a =>
  cases r with
  | none=>rfl
  | some k=>simp only[inBO,decide_eq_true_eq]at ho ⊢;omega
 | dead=>rfl
theorem SimCall.clean {P:Program}{g:FuncId}{args:List IV}{H H1 K:Heap}{r r':IV}(h:SimCall P g args H r H1)(f:Nat->Nat)(hf:∀i,i<H.length->f i=i)(hle:H.length<=K.length)
  (hk:∀(i:Nat) o,K[i]? =some o->(i<H.length/\H[i]? =some o/\H1[i]? =some o)∨(inBO K.length o=true/\H1[f i]? =some (renO f o))) (hinj:∀i j,i<K.length->j<K.length->i≠j->f i≠f j) (hr:r=ren f r') (hb:inB K.length r'=true):SimCall P g args H r' K:=by
 intro B0 w0 w m us hR hA;refine(h B0 w0 w m us hR hA).mono ?_;rintro e w' ⟨m',u,he,hext,hR',hu⟩;have hk':∀(i:Nat) o,K[i]? =some o->inBO K.length o=true/\H1[f i]? =some (renO f o):=by
  intro i o hi;rcases hk i o hi with⟨h1,h2,h3⟩ | h4
  ·have hb:=(hR.good i o h2).inBO hR.dom;exact⟨inBO_le hle hb,by rw[hf i h1,renO_id hf hb];exact h3⟩
  ·exact h4
 refine⟨Shade.sub K.length f m',u,he,fun i l hi=> ?_,hR'.gc f hk' hinj,VR_ren r' u hb (hr▸hu)⟩;have hlt:=hR.dom i l hi;simp only[Shade.sub,if_pos (Nat.lt_of_lt_of_le hlt hle),hf i hlt];exact hext i l hi
theorem SimCall.drop {P:Program}{g:FuncId}{args:List IV}{H H1:Heap}{r:IV}(h:SimCall P g args H r H1)(hk:∀(i:Nat) o,H[i]? =some o->H1[i]? =some o)(hb:inB 0 r=true):SimCall P g args H r H :=
 h.clean id (fun _ _=>rfl) (Nat.le_refl _) (fun i o hi=>.inl ⟨(ges hi).1,hi,hk i o hi⟩) (fun _ _ _ _ h=>h) (ren_id (n:=0) (fun _ h=>absurd h (by omega)) r hb).symm (inB_le (Nat.zero_le _) r hb)
theorem SimCall.one {P:Program}{g:FuncId}{args:List IV}{H H1:Heap}{r r':IV}{q:Nat}{cs:List IV}(h:SimCall P g args H r H1)(hk:∀(i:Nat) o,H[i]? =some o->H1[i]? =some o)(hq:H1[q]? =some (.row cs false))(hge:H.length<=q)(hc:inBs 0 cs=true)
  (hr:r=ren (fun i=>if i=H.length then q else i) r') (hb:inB (H.length+1) r'=true):SimCall P g args H r' (H++[.row cs false]):=by
 refine h.clean (fun i=>if i=H.length then q else i) (fun i hi=>if_neg (by omega)) (by simp) (fun i o hi=> ?_) (fun i j hi hj hne=> ?_) hr (by simpa using hb)
 ·rw[List.getElem?_append]at hi;split at hi
  ·rename_i hlt;exact .inl ⟨hlt,hi,hk i o hi⟩
  ·right;have hz:i - H.length=0:=by
    rcases Nat.eq_zero_or_pos (i - H.length)with e | e
    ·exact e
    ·rw[List.getElem?_eq_none (by simp;omega)]at hi;exact absurd hi (by simp)
   rw[hz]at hi;simp at hi;subst hi;have hi':i=H.length:=by omega
   subst hi';refine⟨inBs_le (Nat.zero_le _) cs hc,?_⟩;simp only[if_true,renO];rw[rens_id (n:=0) (fun _ h=>absurd h (by omega)) cs hc];exact hq
 ·simp at hi hj;by_cases e1:i=H.length
  ·rw[if_pos e1,if_neg (by omega)];omega
  ·rw[if_neg e1];by_cases e2:j=H.length
   ·rw[if_pos e2];omega
   ·rw[if_neg e2];exact hne
theorem ren_idf :∀(v:IV),inB 0 v=true->ren (fun i=>i) v=v:=fun v h=>ren_id (n:=0) (fun _ h=>absurd h (by omega)) v h
theorem SimCall.upd {P:Program}{g:FuncId}{args:List IV}{H H1:Heap}{r:IV}{p:Nat}{o:IObj}(h:SimCall P g args H r H1)(hk:∀(i:Nat) x,(H.set p o)[i]? =some x->H1[i]? =some x)(ho:inBO H.length o=true)(hb:inB H.length r=true):SimCall P g args H r (H.set p o):=by
 refine h.clean (fun i=>i) (fun _ _=>rfl) (by simp) (fun i x hi=> ?_) (fun _ _ _ _ h=>h) (ren_id (n:=H.length) (fun _ _=>rfl) r hb).symm (by simpa using hb);by_cases e:p=i
 ·subst e;right;have hi':=hi;rw[List.getElem?_set,if_pos rfl]at hi';split at hi'
  ·cases hi'
   refine⟨by simpa using ho,?_⟩;rw[renO_id (n:=H.length) (fun _ _=>rfl) ho];exact hk _ _ hi
  ·cases hi'
 ·left;have hi':=hi;rw[List.getElem?_set_ne e]at hi';exact⟨(ges hi').1,hi',hk i x hi⟩
def ext (T:Table)(f:FuncId)(g:List IV->Heap->Option (IV×Heap)):Table:=fun x=>if x=f then some g else T x
theorem soundExt {P:Program}{T:Table}{f:FuncId}{g:List IV->Heap->Option (IV×Heap)}(hT:SoundT P T)(h:∀args H r H',g args H=some (r,H')->SimCall P f args H r H'):SoundT P (ext T f g):=by
 intro x g' hx args H r H' e;unfold ext at hx;split at hx
 ·rename_i e1;subst e1;cases hx;exact h args H r H' e
 ·exact hT x g' hx args H r H' e
open Classical in
noncomputable def tab (S:List IV->Heap->IV×Heap->Prop):List IV->Heap->Option (IV×Heap):=fun args H=>if h:∃x,S args H x then some (Classical.choose h)else none
theorem tab_eq {S:List IV->Heap->IV×Heap->Prop}{x:IV×Heap}(hf:∀x y,S args H x->S args H y->x=y)(h:S args H x):tab S args H=some x:=by
 unfold tab;have hex:∃x,S args H x:=⟨x,h⟩;rw[dif_pos hex,hf _ _ (Classical.choose_spec hex) h]
theorem tab_some {S:List IV->Heap->IV×Heap->Prop}{x:IV×Heap}(h:tab S args H=some x):S args H x:=by
 unfold tab at h;split at h
 ·rename_i hex;cases h;exact Classical.choose_spec hex
 ·cases h
theorem SimCall.weak {P:Program}{g:FuncId}{H':Heap}{r r':IV}(h:SimCall P g args H r H')(hr:∀m u,VR m r u->VR m r' u):SimCall P g args H r' H':=by
 intro B0 w0 w m us hR hA;refine(h B0 w0 w m us hR hA).mono ?_;rintro e w' ⟨m',u,he,hext,hR',hu⟩;exact⟨m',u,he,hext,hR',hr m' u hu⟩
theorem VR_exact {b o lb sz:Nat}{ex:Bool}{u:Value}(h:VR m (.slice b o n lb ex sz) u):VR m (.slice b o n lb false sz) u:=by
 simp only[VR]at h ⊢;obtain⟨l,o',c,sp,h1,h2,h3,h4,h5,h6,h7⟩:=h;exact⟨l,o',c,sp,h1,h2,h3,h4,(fun h=>by cases h),h6,h7⟩
theorem sim_low {P:Program}{T:Table}{cal:FuncId->Bool}(hT:SoundT P T)(hm:P.follows .mixedOrders=true)(hcal:∀g,cal g=true->callable P g=true){f:FuncId}{fn:Func}{lf:LFun}(h:T f=none)(hf:P.funcs[f]? =some fn)(hc:lowF P fn=some lf){args:List IV}{H H':Heap}{r:IV}(hl:args.length<=lf.n)(hr:lrun cal (den P T) lf args H=some (r,H')):SimCall P f args H r H' :=
 sound_den hT hm f args H r H' (low_den hcal h hf hc hl hr)
end Go.Shade
