/- The law MergeNames, part 3. -/
import Derived.Test.YtmkjmfegaalcoaaGreatM1
import Derived.Test.YtmkjmfegaalcoaaGreatM2
import Derived.Test.YtmkjmfegaalcoaaGreatM0
import Derived.ProofKit
import Derived.Deep.Slices
import Derived.WalkKit
import Derived.OpenShut
import Derived.ShutString
import Derived.ChangeOld
import Derived.KernelRfl
set_option linter.all false
namespace Go.Shade
open Go.RowKit
variable {B0 n : Nat} {H : Heap} {P : Program} {c i l x : LArg} {m : Mp} {t : TypeId} {w w0 : World}
abbrev Ent :=IV×IV×Nat
def nxtC (es:List Ent)(since:Nat)(seen:List Nat)(last:Nat):Option (List (Option Ent)) :=
 if(!seen.isEmpty&&(!es.isEmpty&&es.all fun e=>Nat.ble last e.2.2))=true then none else
 some ((if(es.filter fun e=> !seen.contains e.2.2&& !Nat.ble since e.2.2).isEmpty then [none]else []) ++
  ((es.filter fun e=> !seen.contains e.2.2&& !Nat.ble since e.2.2)++(es.filter fun e=> !seen.contains e.2.2&&Nat.ble since e.2.2)).map some)
def nxtO (H:Heap)(i r since:Nat)(seen:List Nat)(clock:Nat):Option Ent->IV×Heap
 | none=>(.tuple [.bool false],H)
 | some e=>(.tuple [.bool true,e.1,e.2.1],H.set i (.iter (some r) since (seen++[e.2.2]) clock))
def stNxt (H:Heap)(x:IV):Option (List (IV×Heap)) :=
 match x with
 | .ptr i 0=>match H[i]? with
  | some (.iter none _ _ _)=>some [(.tuple [.bool false],H)]
  | some (.iter (some r) since seen last)=>match H[r]? with
   | some (.map es clock)=>(nxtC es since seen last).bind fun cs=>some (cs.map (nxtO H i r since seen clock))
   | _=>none
  | _=>none
 | _=>none
def stRng (H:Heap)(x:IV):Option (IV×Heap) :=
 match x with
 | .nilMap=>some (.ptr H.length 0,H++[.iter none 0 [] 0])
 | .map r=>match H[r]? with
  | some (.map _ clock)=>some (.ptr H.length 0,H++[.iter (some r) clock [] clock])
  | _=>none
 | _=>none
theorem run_choose {α:Type}(n:Nat)(hn:0<n)(k:Nat->Sem α):∃c w',c<n/\w'.heap=w.heap/\w'.os=w.os/\w'.tape=w.tape/\w'.output=w.output/\((choose (.mapNext n)).bind k).run P w=(k c).run P w':=by
 have e:((choose (.mapNext n)).bind k)=Sem.choose (.mapNext n) fun c=>k c:=rfl;rw[e];simp only[Sem.run];split
 ·exact⟨0,w,hn,rfl,rfl,rfl,rfl,rfl⟩
 ·refine⟨_,{ w with drawn:=w.drawn+1 },?_,rfl,rfl,rfl,rfl,rfl⟩;exact Nat.mod_lt _ hn
inductive L2 {α β:Type}(R:α->β->Prop):List α->List β->Prop
 | nil:L2 R [] []
 | cons {a b as' bs}:R a b->L2 R as' bs->L2 R (a::as') (b::bs)
section
variable {α β : Type} {R : α -> β -> Prop}
theorem L2.of :∀{l:List α} {k:List β},l.length=k.length->(∀(j:Nat) x,l[j]? =some x->∃y,k[j]? =some y/\R x y)->L2 R l k
 | [],[],_,_=>.nil
 | a::l,b::k,h,g=>by
  obtain⟨y,h1,h2⟩:=g 0 a rfl;simp at h1;subst h1;exact .cons h2 (L2.of (by simpa using h) fun j x hj=>by simpa using g (j+1) x (by simpa using hj))
 | [],_::_,h,_=>by simp at h
 | _::_,[],h,_=>by simp at h
theorem L2.append {l l':List α}{k k':List β}(h:L2 R l k)(g:L2 R l' k'):L2 R (l++l') (k++k'):=by
 induction h with
 | nil=>exact g
 | cons a _ ih=>exact .cons a ih
theorem L2.filter {p:α->Bool}{q:β->Bool}(hpq:∀a b,R a b->p a=q b){l:List α}{k:List β}(h:L2 R l k):L2 R (l.filter p) (k.filter q):=by
 induction h with
 | nil=>exact .nil
 | @cons a b _ _ r _ ih =>
  rw[List.filter_cons,List.filter_cons,hpq a b r];split
  ·exact .cons r ih
  ·exact ih
theorem L2.empty {l:List α}{k:List β}(h:L2 R l k):l.isEmpty=k.isEmpty:=by cases h<;>rfl
theorem L2.all {p:α->Bool}{q:β->Bool}(hpq:∀a b,R a b->p a=q b){l:List α}{k:List β}(h:L2 R l k):l.all p=k.all q:=by
 induction h with
 | nil=>rfl
 | @cons a b _ _ r _ ih=>rw[List.all_cons,List.all_cons,hpq a b r,ih]
theorem L2.length {l:List α}{k:List β}(h:L2 R l k):l.length=k.length:=by
 induction h with
 | nil=>rfl
 | cons _ _ ih=>simp[ih]
theorem L2.get {l:List α}{k:List β}(h:L2 R l k):∀{i:Nat} {y:β},k[i]? =some y->∃x,l[i]? =some x/\R x y:=by
 induction h with
 | nil=>intro i y hy;simp at hy
 | @cons a b _ _ r _ ih =>
  intro i y hy
  cases i with
  | zero=>simp at hy;subst hy;exact⟨a,rfl,r⟩
  | succ i=>simpa using ih (by simpa using hy)
theorem L2.map {γ δ:Type}{S:γ->δ->Prop}{f:α->γ}{g:β->δ}(hfg:∀a b,R a b->S (f a) (g b)){l:List α}{k:List β}(h:L2 R l k):L2 S (l.map f) (k.map g):=by
 induction h with
 | nil=>exact .nil
 | cons r _ ih=>exact .cons (hfg _ _ r) ih
end
def ORel (m:Mp):Option Ent->Option MapEntry->Prop
 | none,y=>y=none
 | some x,y=>∃e,y=some e/\ERel m x e
theorem ble_ge {a b:Nat}:Nat.ble a b=decide (b ≥ a):=by rw[Bool.eq_iff_iff,Nat.ble_eq];simp
theorem ble_lt {a b:Nat}:(!Nat.ble a b)=decide (b<a):=by rw[ble_ge,←decide_not];congr 1;simp
theorem Rel.putIter {B0:Nat}{w0 w:World}{m:Mp}{H:Heap}(h:Rel B0 w0 m H w){i r since last since2 last2:Nat}{seen seen2:List Nat}(hr:H[i]? =some (.iter (some r) since seen last)){l lk:Loc}(hl:m i=some l)(hlk:m r=some lk) :
  Rel B0 w0 m (H.set i (.iter (some r) since2 seen2 last2)) { w with heap:=w.heap.setIfInBounds l.cb (.mapIter (some lk.cb) since2 seen2.toArray last2) }:=by
 obtain⟨l',r',g1,g0,g2,g3,g4⟩:=h.good i _ hr;rw[hl]at g1;cases g1
 have hlt:l.cb<w.heap.size:=(Array.getElem?_eq_some_iff.1 g2).1;have far:∀k,k≠l.cb->({ w with heap:=w.heap.setIfInBounds l.cb (.mapIter (some lk.cb) since2 seen2.toArray last2) }:World).heap[k]? =w.heap[k]? :=by
  intro k hk;simp[Array.getElem?_setIfInBounds,Ne.symm hk]
 have held_of:∀{a:Nat} {p:IObj},(H.set i (IObj.iter (some r) since2 seen2 last2))[a]? =some p->∃p',H[a]? =some p'/\(p.held=true->p'.held=true):=by
  intro a p ha;rw[List.getElem?_set]at ha;by_cases e:i=a
  ·subst e;exact⟨_,hr,fun _=>rfl⟩
  ·rw[if_neg e]at ha;exact⟨p,ha,id⟩
 refine⟨⟨h.below.os,h.below.tape,h.below.output,by simpa using h.below.size,fun k hk=> ?_⟩,by simpa using h.base,fun k q hq=>by simpa using h.dom k q hq,fun k q hk=> ?_,fun a b p q la lb ha hb hp hq hne hma hmb=> ?_⟩
 ·rw[far k (by omega)];exact h.below.block k hk
 ·rw[List.getElem?_set]at hk;by_cases e:i=k
  ·subst e;have hrl:i<H.length:=(ges hr).1;simp[hrl]at hk;subst hk;exact⟨l,some lk.cb,hl,g0,by simp[hlt],g3,.inr ⟨r,lk,rfl,hlk,rfl⟩⟩
  ·rw[if_neg e]at hk;have hgk:=h.good k q hk;by_cases hd:q.held=true
   ·exact hgk.move (Ext.refl _) (fun lk hlk _=>far _ (h.inj k i q _ lk l hk hr hd rfl (Ne.symm e) hlk hl))
   ·cases q with
    | dead=>trivial
    | map es c=>simp[IObj.held]at hd
    | iter r s e a=>simp[IObj.held]at hd
    | row cs' ro =>
     cases ro with
     | false=>simp[IObj.held]at hd
     | true =>
      exact hgk.ro_move (Ext.refl _) (fun lk hlk hlt' _=>far _ (by omega))
 ·obtain⟨p',ha',hp'⟩:=held_of ha;obtain⟨q',hb',hq'⟩:=held_of hb;exact h.inj a b p' q' la lb ha' hb' (hp' hp) (hq' hq) hne hma hmb
theorem run_next (h:Rel B0 w0 m H w){x:IV}{v:Value}(hx:VR m x v){outs:List (IV×Heap)}(e:stNxt H x=some outs)(t:TypeId) :
  ∃r w' u,r∈outs/\(Instr.next v false t).run P w=.ok u w'/\Rel B0 w0 m r.2 w'/\VR m r.1 u:=by
 unfold stNxt at e;split at e
 ·rename_i i;simp only[VR]at hx;obtain⟨l,hl,rfl⟩:=hx;split at e
  ·rename_i since seen last hi
   cases e
   obtain⟨l',r',g1,g0,g2,g3,g4⟩:=h.good i _ hi;rw[hl]at g1;cases g1
   have:r'=none:=by
    rcases g4 with⟨_,g⟩ | ⟨k,lk,g,_⟩
    ·exact g
    ·cases g
   subst this;have hg:(getObj l.cb).run P w=.ok (.mapIter none since seen.toArray last) w:=by simp[getObj,Sem.run,g2]
   refine⟨_,w,.tuple #[.bool false],List.mem_singleton.2 rfl,?_,h,by simp only[VR];exact⟨_,rfl,VRs.cons (VR_bool m _) (VRs.nil m)⟩⟩;simp only[Instr.next,g0,Nat.zero_add,Nat.add_zero,Sem.run_bind,hg,Result.andThen_ok];rfl
  ·rename_i r since seen last hi;split at e
   ·rename_i es clock hr;obtain⟨l',r',g1,g0,g2,g3,g4⟩:=h.good i _ hi;rw[hl]at g1;cases g1
    obtain⟨lk,hlk,rfl⟩:∃lk,m r=some lk/\r'=some lk.cb:=by
     rcases g4 with⟨g,_⟩ | ⟨k,lk,g,h1,h2⟩
     ·cases g
     ·cases g;exact⟨lk,h1,h2⟩
    obtain⟨lr,es',k1,k2,k3,k4,k5⟩:=h.good r _ hr;rw[hlk]at k1;cases k1
    have hrel:L2 (ERel m) es es'.toList:=L2.of (by simpa using k4) (fun j x hj=>by simpa using k5 j x hj);have hg1:(getObj l.cb).run P w=.ok (.mapIter (some lk.cb) since seen.toArray last) w:=by simp[getObj,Sem.run,g2]
    have hg2:(getObj lk.cb).run P w=.ok (.map es' clock) w:=by simp[getObj,Sem.run,k2]
    obtain⟨cs,hcs,e⟩:=obs e
    cases e
    unfold nxtC at hcs;split at hcs
    ·cases hcs
    ·rename_i hno
     cases hcs
     generalize hA:(if((es'.filter fun e=> !seen.toArray.contains e.born).filter fun e=>decide (e.born<since)).isEmpty=true then #[none]else #[]) ++
      (((es'.filter fun e=> !seen.toArray.contains e.born).filter fun e=>decide (e.born<since))++((es'.filter fun e=> !seen.toArray.contains e.born).filter fun e=>decide (e.born ≥ since))).map some=A
     have e1:∀(a:Ent) (b:MapEntry),ERel m a b->(!seen.contains a.2.2&& !Nat.ble since a.2.2)=(decide (b.born<since)&& !seen.toArray.contains b.born):=by
      rintro a b ⟨_,_,hb⟩;rw[hb,Bool.and_comm]
      congr 1
      ·rw[ble_lt]
      ·simp
     have e2:∀(a:Ent) (b:MapEntry),ERel m a b->(!seen.contains a.2.2&&Nat.ble since a.2.2)=(decide (b.born ≥ since)&& !seen.toArray.contains b.born):=by
      rintro a b ⟨_,_,hb⟩;rw[hb,Bool.and_comm]
      congr 1
      ·rw[ble_ge]
      ·simp
     have hold:=L2.filter e1 hrel;have hnew:=L2.filter e2 hrel;have hAl:L2 (ORel m) ((if(es.filter fun e=> !seen.contains e.2.2&& !Nat.ble since e.2.2).isEmpty then [none]else []) ++
       ((es.filter fun e=> !seen.contains e.2.2&& !Nat.ble since e.2.2)++(es.filter fun e=> !seen.contains e.2.2&&Nat.ble since e.2.2)).map some) A.toList:=by
      rw[←hA];simp only[Array.toList_append,Array.toList_map,Array.toList_filter,List.filter_filter];refine L2.append ?_ (L2.map (fun a b hab=>⟨b,rfl,hab⟩) (L2.append hold hnew));have he:((es'.filter fun e=> !seen.toArray.contains e.born).filter fun e=>decide (e.born<since)).isEmpty=(es.filter fun e=> !seen.contains e.2.2&& !Nat.ble since e.2.2).isEmpty:=by
       rw[hold.empty,←Array.isEmpty_toList];simp only[Array.toList_filter,List.filter_filter]
      rw[he];split
      ·exact .cons rfl .nil
      ·exact .nil
     have hpos:0<A.size:=by
      rw[←Array.length_toList,←hAl.length]
      cases hz:(es.filter fun e=> !seen.contains e.2.2&& !Nat.ble since e.2.2)with
      | nil=>simp
      | cons a l=>simp
     have hno':¬((!seen.toArray.isEmpty&& !es'.isEmpty&&es'.all fun x=>decide (x.born ≥ last))=true):=by
      intro hh;apply hno;rw[←Bool.and_assoc,hrel.empty,L2.all (q:=fun b:MapEntry=>decide (b.born ≥ last)) (fun a b ⟨_,_,hb⟩=>by rw[hb,Bool.eq_iff_iff];simp) hrel]
      simpa using hh
     obtain⟨c,w1,hc,o1,o2,o3,o4,hrun⟩:=run_choose (P:=P) (w:=w) A.size hpos (fun n=>match A[n]? with
      | some (some e)=>(setObj l.cb (.mapIter (some lk.cb) since (seen.toArray.push e.born) clock)).bind fun _=>Sem.pure (Value.tuple #[.bool true,e.key,e.val])
      | some none=>Sem.pure (Value.tuple #[.bool false])
      | none=>stuck "Next: no such candidate")
     have hR1:Rel B0 w0 m H w1:=h.same o1 o2 o3 o4;have hAc:A.toList[c]? =some A[c]:=by simp[hc]
     obtain⟨o,ho,hrel2⟩:=hAl.get hAc;have start:(Instr.next (.pointer (some ⟨l.cb,l.co+0,none⟩)) false t).run P w=((choose (.mapNext A.size)).bind (fun n=>match A[n]? with
      | some (some e)=>(setObj l.cb (.mapIter (some lk.cb) since (seen.toArray.push e.born) clock)).bind fun _=>Sem.pure (Value.tuple #[.bool true,e.key,e.val])
      | some none=>Sem.pure (Value.tuple #[.bool false])
      | none=>stuck "Next: no such candidate")).run P w:=by
      simp only[Instr.next,g0,Nat.zero_add,Nat.add_zero,Sem.run_bind,hg1,hg2,Result.andThen_ok];rw[if_neg hno',hA];rfl
     cases o with
     | none =>
      simp only[ORel]at hrel2;refine⟨_,w1,.tuple #[.bool false],List.mem_map.2 ⟨none,List.mem_of_getElem? ho,rfl⟩,?_,hR1,by simp only[nxtO,VR];exact⟨_,rfl,VRs.cons (VR_bool m _) (VRs.nil m)⟩⟩;rw[start,hrun];simp only[Array.getElem?_eq_getElem hc,hrel2];rfl
     | some en =>
      obtain⟨me,hme,r1,r2,r3⟩:=hrel2;have hset:(setObj l.cb (.mapIter (some lk.cb) since (seen.toArray.push me.born) clock)).run P w1=.ok () { w1 with heap:=w1.heap.setIfInBounds l.cb (.mapIter (some lk.cb) since (seen.toArray.push me.born) clock) }:=by
       simp[setObj,Sem.run,o1,g2]
      refine⟨_,{ w1 with heap:=w1.heap.setIfInBounds l.cb (.mapIter (some lk.cb) since (seen++[en.2.2]).toArray clock) },.tuple #[.bool true,me.key,me.val],List.mem_map.2 ⟨some en,List.mem_of_getElem? ho,rfl⟩,?_,?_,by simp only[nxtO,VR];exact⟨_,rfl,VRs.cons (VR_bool m _) (VRs.cons r1 (VRs.cons r2 (VRs.nil m)))⟩⟩
      ·rw[start,hrun];simp only[Array.getElem?_eq_getElem hc,hme];have hpush:(seen++[en.2.2]).toArray=seen.toArray.push me.born:=by rw[r3];simp
       rw[hpush];have hb:∀(f:Unit->Sem Value),((setObj l.cb (.mapIter (some lk.cb) since (seen.toArray.push me.born) clock)).bind f)=((setObj l.cb (.mapIter (some lk.cb) since (seen.toArray.push me.born) clock)) >>= f):=fun f=>rfl;rw[hb,Sem.run_bind,hset,Result.andThen_ok];rfl
      ·exact hR1.putIter hi hl hlk
   ·cases e
  ·cases e
 ·cases e
theorem run_range (h:Rel B0 w0 m H w){x:IV}{v:Value}(hx:VR m x v){k el:TypeId}(ht:P.underlying t=some (.map k el)){r:IV×Heap}(e:stRng H x=some r) :
  ∃m' w' u,(Instr.range t v).run P w=.ok u w'/\Ext m m'/\Rel B0 w0 m' r.2 w'/\VR m' r.1 u:=by
 have new:∀(o:Obj),(newObj o).run P w=.ok w.heap.size (w.alloc o):=fun o=>rfl;unfold stRng at e;split at e
 ·cases e
  simp only[VR]at hx;subst hx;have hR:=h.push (.iter none 0 [] 0) (.mapIter none 0 #[] 0) 0 ⟨⟨w.heap.size,0,0⟩,none,by simp[grow],rfl,Array.getElem?_push_size,h.base,.inl ⟨rfl,rfl⟩⟩;refine⟨_,_,.pointer (some ⟨w.heap.size,0,none⟩),?_,grow_ext h _,hR,by simp only[VR];exact⟨_,grow_at _ _ _,rfl⟩⟩;simp only[Instr.range,Sem.run_bind,run_underlying ht,Result.andThen_ok,Sem.run_pure,new]
 ·rename_i r;split at e
  ·rename_i es clock hr
   cases e
   simp only[VR]at hx;obtain⟨l,hl,rfl⟩:=hx;obtain⟨lr,es',k1,k2,k3,k4,k5⟩:=h.good r _ hr;rw[hl]at k1;cases k1
   have hg2:(getObj l.cb).run P w=.ok (.map es' clock) w:=by simp[getObj,Sem.run,k2]
   have hext:=grow_ext h ⟨w.heap.size,0,0⟩;have hR:=h.push (.iter (some r) clock [] clock) (.mapIter (some l.cb) clock #[] clock) 0 ⟨⟨w.heap.size,0,0⟩,some l.cb,by simp[grow],rfl,Array.getElem?_push_size,h.base,.inr ⟨r,l,rfl,hext _ _ hl,rfl⟩⟩;refine⟨_,_,.pointer (some ⟨w.heap.size,0,none⟩),?_,hext,hR,by simp only[VR];exact⟨_,grow_at _ _ _,rfl⟩⟩;simp only[Instr.range,Sem.run_bind,run_underlying ht,Result.andThen_ok,Sem.run_pure,new,hg2]
  ·cases e
 ·cases e
def isSp :LOp->Bool
 | .rng _ | .nxt _ | .ovl .. =>true
 | _=>false
def OkS (o:Option LOp):Prop:=∀lo,o=some lo->isSp lo=false
theorem OkS.none :OkS none:=fun _ h=>by cases h
theorem OkS.some {lo:LOp}(h:isSp lo=false):OkS (some lo):=fun _ e=>by cases e;exact h
theorem OkS.bind {α:Type}{a:Option α}{f:α->Option LOp}(h:∀x,OkS (f x)):OkS (a.bind f):=fun lo e=>by
 obtain⟨x,_,e⟩:=obs e;exact h x lo e
theorem OkS.map {α:Type}{a:Option α}{f:α->LOp}(h:∀x,isSp (f x)=false):OkS (a.map f):=fun lo e=>by
 obtain⟨x,_,rfl⟩:=Option.map_eq_some_iff.1 e;exact h x
section
variable {P : Program}
theorem sp_conv {s d:TypeId}:OkS (lowConv P s d x):=by
 unfold lowConv;repeat' (first | exact OkS.none | exact OkS.some rfl | refine OkS.bind fun _=> ?_ | exact OkS.map fun _=>rfl | split)
theorem sp_bin {op:BinOp}{y:LArg}:OkS (lowBin P op t x y):=by
 unfold lowBin;repeat' (first | exact OkS.none | exact OkS.some rfl | refine OkS.bind fun _=> ?_ | exact OkS.map fun _=>rfl | split)
theorem sp_field {f:Nat}:OkS (lowField P t f x):=by
 unfold lowField;repeat' (first | exact OkS.none | exact OkS.some rfl | refine OkS.bind fun _=> ?_ | exact OkS.map fun _=>rfl | split)
theorem sp_fieldAddr {f:Nat}:OkS (lowFieldAddr P t f x):=by
 unfold lowFieldAddr;repeat' (first | exact OkS.none | exact OkS.some rfl | refine OkS.bind fun _=> ?_ | exact OkS.map fun _=>rfl | split)
theorem sp_indexAddr :OkS (lowIndexAddr P t x i):=by
 unfold lowIndexAddr;repeat' (first | exact OkS.none | exact OkS.some rfl | refine OkS.bind fun _=> ?_ | exact OkS.map fun _=>rfl | split)
theorem sp_index :OkS (lowIndex P t x i):=by
 unfold lowIndex;repeat' (first | exact OkS.none | exact OkS.some rfl | refine OkS.bind fun _=> ?_ | exact OkS.map fun _=>rfl | split)
theorem sp_lookup {ok:Bool}:OkS (lowLookup P t ok x i):=by
 unfold lowLookup;repeat' (first | exact OkS.none | exact OkS.some rfl | refine OkS.bind fun _=> ?_ | exact OkS.map fun _=>rfl | split)
theorem sp_assert {ok:Bool}:OkS (lowAssert P t ok x):=by
 unfold lowAssert;repeat' (first | exact OkS.none | exact OkS.some rfl | refine OkS.bind fun _=> ?_ | exact OkS.map fun _=>rfl | split)
theorem sp_build {l:List (Nat×Operand)}:OkS (lowBuild P t l):=by
 unfold lowBuild;repeat' (first | exact OkS.none | exact OkS.some rfl | refine OkS.bind fun _=> ?_ | exact OkS.map fun _=>rfl | split)
theorem sp_buildSlice {l:List (Nat×Operand)}:OkS (lowBuildSlice P t n l):=by
 unfold lowBuildSlice;repeat' (first | exact OkS.none | exact OkS.some rfl | refine OkS.bind fun _=> ?_ | exact OkS.map fun _=>rfl | split)
theorem sp_makeSlice :OkS (lowMakeSlice P t l c):=by
 unfold lowMakeSlice;repeat' (first | exact OkS.none | exact OkS.some rfl | refine OkS.bind fun _=> ?_ | exact OkS.map fun _=>rfl | split)
theorem sp_app {u:TypeId}:OkS (lowApp P t u l c):=by
 unfold lowApp;repeat' (first | exact OkS.none | exact OkS.some rfl | refine OkS.bind fun _=> ?_ | exact OkS.map fun _=>rfl | split)
theorem sp_copy :OkS (lowCopy P t l c):=by
 unfold lowCopy;repeat' (first | exact OkS.none | exact OkS.some rfl | refine OkS.bind fun _=> ?_ | exact OkS.map fun _=>rfl | split)
theorem sp_clear :OkS (lowClear P t l):=by
 unfold lowClear;repeat' (first | exact OkS.none | exact OkS.some rfl | refine OkS.bind fun _=> ?_ | exact OkS.map fun _=>rfl | split)
theorem sp_upd {d k:LArg}:OkS (lowUpd P t d k x):=by
 unfold lowUpd;repeat' (first | exact OkS.none | exact OkS.some rfl | refine OkS.bind fun _=> ?_ | exact OkS.map fun _=>rfl | split)
theorem sp_del {d k:LArg}:OkS (lowDel P t d k):=by
 unfold lowDel;repeat' (first | exact OkS.none | exact OkS.some rfl | refine OkS.bind fun _=> ?_ | exact OkS.map fun _=>rfl | split)
theorem sp_box :OkS (lowBox P x):=OkS.some rfl
theorem sp_alloc :OkS (lowAlloc P t):=by
 unfold lowAlloc;repeat' (first | exact OkS.none | exact OkS.some rfl | refine OkS.bind fun _=> ?_ | exact OkS.map fun _=>rfl | split)
theorem low_sp0 {op:Op}(h1:∀t y,op≠ .range t y)(h2:∀y b,op≠ .next y b)(h3:∀f args ts,op≠ .call { callee:=.value f,args:=args,argTypes:=ts }):OkS (lowOp P op):=by
 unfold lowOp;split
 all_goals first
  | exact absurd rfl (h1 _ _)
  | exact absurd rfl (h2 _ _)
  | exact absurd rfl (h3 _ _ _)
  | exact OkS.none
  | exact OkS.some rfl
  | exact OkS.map fun _=>rfl
  | exact OkS.bind fun _=>OkS.map fun _=>rfl
  | exact OkS.bind fun _=>OkS.bind fun _=>OkS.map fun _=>rfl
  | exact OkS.bind fun _=>OkS.bind fun _=>OkS.bind fun _=>OkS.bind fun _=>OkS.map fun _=>rfl
  | exact sp_build
  | exact sp_buildSlice
  | exact sp_alloc
  | exact OkS.bind fun _=>sp_conv
  | exact OkS.bind fun _=>OkS.bind fun _=>sp_bin
  | exact OkS.bind fun _=>sp_field
  | exact OkS.bind fun _=>sp_fieldAddr
  | exact OkS.bind fun _=>OkS.bind fun _=>sp_indexAddr
  | exact OkS.bind fun _=>OkS.bind fun _=>sp_index
  | exact OkS.bind fun _=>OkS.bind fun _=>sp_lookup
  | exact OkS.bind fun _=>sp_assert
  | exact OkS.bind fun _=>OkS.bind fun _=>sp_makeSlice
  | exact OkS.bind fun _=>OkS.bind fun _=>sp_app
  | exact OkS.bind fun _=>OkS.bind fun _=>sp_copy
  | exact OkS.bind fun _=>sp_clear
  | exact OkS.bind fun _=>OkS.bind fun _=>OkS.bind fun _=>sp_upd
  | exact OkS.bind fun _=>OkS.bind fun _=>sp_del
  | exact OkS.bind fun _=>sp_box
  | exact OkS.bind fun _=>OkS.map fun _=>rfl
  | (refine OkS.bind fun _=> ?_;split<;>first | exact OkS.none | exact OkS.some rfl | exact OkS.map fun _=>rfl)
  | (refine OkS.bind fun _=>OkS.bind fun _=> ?_;split<;>first | exact OkS.none | exact OkS.some rfl | exact OkS.map fun _=>rfl | (split<;>first | exact OkS.none | exact OkS.some rfl | exact OkS.map fun _=>rfl))
theorem low_sp {op:Op}:OkS (lowOp P op)∨(∃t y k el,op=.range t y/\P.underlying t=some (.map k el)/\lowOp P op=(lowA y).map .rng)∨(∃y,op=.next y false/\lowOp P op=(lowA y).map .nxt)∨(∃f args ts g x y,op=.call { callee:=.value f,args:=args,argTypes:=ts }/\lowA f=some (.f g)/\lowAs args.toList=some [x,y]/\ovlFn P g=true/\lowOp P op=some (.ovl x y)):=by
 by_cases h1:∃t y,op=.range t y
 ·obtain⟨t,x,rfl⟩:=h1;have he:lowOp P (.range t x)=(lowA x).bind fun x=>match P.underlying t with
   | some (.map ..)=>some (.rng x)
   | _=>none:=rfl
  rw[he]
  cases hu:P.underlying t with
  | none=>exact .inl (OkS.bind fun _=>OkS.none)
  | some d =>
   cases d with
   | map k el =>
    refine .inr (.inl ⟨t,x,k,el,rfl,hu,?_⟩)
    cases lowA x<;>rfl
   | _=>exact .inl (OkS.bind fun _=>OkS.none)
 ·by_cases h2:∃y b,op=.next y b
  ·obtain⟨y,b,rfl⟩:=h2
   cases b with
   | true=>exact .inl OkS.none
   | false=>exact .inr (.inr (.inl ⟨y,rfl,rfl⟩))
  ·by_cases h3:∃f args ts,op=.call { callee:=.value f,args:=args,argTypes:=ts }
   ·obtain⟨f,args,ts,rfl⟩:=h3;have he:lowOp P (.call { callee:=.value f,args:=args,argTypes:=ts })=(lowAs args.toList).bind fun as'=>(lowA f).bind fun y=>match y with
     | .f g=>if callable P g then some (.callF g as')else match xkind P g with
      | some k=>some (.xt k as')
      | none=>match as' with
       | [x,y]=>if ovlFn P g then some (.ovl x y)else none
       | _=>none
     | y=>some (.callV y as'):=rfl
    rw[he]
    cases hla:lowAs args.toList with
    | none=>exact .inl OkS.none
    | some as' =>
     cases hlf:lowA f with
     | none=>exact .inl OkS.none
     | some y =>
      cases y with
      | t n=>exact .inl (OkS.some rfl)
      | k v=>exact .inl (OkS.some rfl)
      | f g =>
       simp only[Option.bind_some];split
       ·exact .inl (OkS.some rfl)
       ·split
        ·exact .inl (OkS.some rfl)
        ·split
         ·split
          ·rename_i x y hov;exact .inr (.inr (.inr ⟨f,args,ts,g,x,y,rfl,hlf,hla,hov,rfl⟩))
          ·exact .inl OkS.none
         ·exact .inl OkS.none
   ·exact .inl (low_sp0 (fun t y e=>h1 ⟨t,y,e⟩) (fun y b e=>h2 ⟨y,b,e⟩) (fun f args ts e=>h3 ⟨f,args,ts,e⟩))
end
def lopW (cal:FuncId->Bool)(O:Oracle)(p:LO)(E:Sg)(H:Heap):Option (List (IV×Heap)) :=
 match p.op with
 | .rng x=>if lwanted p E then(stRng H (la E x)).bind fun r=>some [r]else some [(.tuple [],H)]
 | .nxt x=>if lwanted p E then stNxt H (la E x)else some [(.tuple [],H)]
 | .ovl x y=>if lwanted p E then stOvl H (la E x) (la E y)else some [(.tuple [],H)]
 | _=>(lopV cal O p E H).bind fun r=>some [r]
def lopsW (cal:FuncId->Bool)(O:Oracle):List LO->Sg->Heap->(Sg->Heap->Prop)->Prop
 | [],E,H,k=>k E H
 | p::ps,E,H,k=>∃l,lopW cal O p E H=some l/\∀r∈l,lopsW cal O ps (pput E p.d r.1) r.2 k
def itW (body:Sg->Heap->(IX->Sg->Heap->Prop)->Prop):Nat->Sg->Heap->(IX->Sg->Heap->Prop)->Prop
 | 0,_,_,_=>False
 | n+1,E,H,k=>body E H fun x E H=>match x with
  | .normal=>itW body n E H k
  | x=>k x E H
def lxW (cal:FuncId->Bool)(O:Oracle)(n:Nat):LC->Sg->Heap->(IX->Sg->Heap->Prop)->Prop
 | .skip,E,H,k=>k .normal E H
 | .reg l,E,H,k=>lopsW cal O l E H (k .normal)
 | .drw l ps,E,H,k=>∃r,ldraw cal O l ps E H=some r/\k .normal r.1 r.2
 | .seq a b,E,H,k=>lxW cal O n a E H fun x E H=>match x with
  | .normal=>lxW cal O n b E H k
  | x=>k x E H
 | .cond c a b,E,H,k=>match la E c with
  | .bool true=>lxW cal O n a E H k
  | .bool false=>lxW cal O n b E H k
  | _=>False
 | .block id a,E,H,k=>lxW cal O n a E H fun x E H=>match x with
  | .exit id'=>if id'=id then k .normal E H else k (.exit id') E H
  | x=>k x E H
 | .loop a,E,H,k=>itW (lxW cal O n a) n E H k
 | .exit id,E,H,k=>k (.exit id) E H
 | .ret,E,H,k=>k .ret E H
 | .bad,_,_,_=>False
 | .alt a b,E,H,k=>lxW cal O n a E H k/\lxW cal O n b E H k
section
variable {P : Program} {cal : FuncId -> Bool} {O : Oracle} (hφ : Sound P O) (hcal : ∀ g, cal g = true -> callable P g = true)
include hφ hcal
theorem wp_lopW {ops:Array Oper}{i:Nat}{o:Oper}(hi:ops[i]? =some o){p:POp}(hp:pOper n ops o=some p){E:Sg}{l:List (IV×Heap)}(e:lopW cal O (lowP P p) E H=some l){a:Act}(hR:Rel B0 w0 m H w)(hT:TR m (rep n E) a){Q:Exit->Act->World->Prop}{K:Act->World->Prop}(hK:∀r∈l,∀m' w' u,Ext m m'->Rel B0 w0 m' r.2 w'->VR m' r.1 u->K (a.put o.dst u) w'):wpOp P ops Q i K a w:=by
 obtain⟨r1,r2,r3,r4,r5,r6⟩:=rep_opV (P:=P) (O:=O) hp E H;have unwanted:pwanted p E=false->(∀r,r=(IV.tuple [],H)->r∈l)->wpOp P ops Q i K a w:=by
  intro hw hl;unfold wpOp;rw[hi];simp only;rw[wanted_eq hT,r6,hw];exact hK _ (hl _ rfl) m w undef (Ext.refl m) hR (VR_unit m)
 have hop:(lowP P p).op=(lowOp P p.op).getD .bad:=rfl;have usual:isSp (lowP P p).op=false->wpOp P ops Q i K a w:=by
  intro hs;have:lopW cal O (lowP P p) E H=(lopV cal O (lowP P p) E H).bind fun r=>some [r]:=by
   unfold lopW;split
   ·rename_i h;rw[h]at hs;cases hs
   ·rename_i h;rw[h]at hs;cases hs
   ·rename_i h;rw[h]at hs;cases hs
   ·rfl
  rw[this]at e;obtain⟨r,hr,e⟩:=obs e
  cases e
  have hp':=lowP_opV (O:=O) hcal p E H r hr;rw[←r1]at hp';exact wp_iop hφ hi hp' hR hT (fun m' w' u h1 h2 h3=>hK r (List.mem_singleton.2 rfl) m' w' u h1 h2 h3)
 rcases low_sp (P:=P) (op:=p.op)with hs | ⟨t,y,k,el,hy,hu,hl⟩ | ⟨y,hy,hl⟩ | ⟨f,args,ts,g,x,y,hy,hlf,hla,hov,hl⟩
 ·apply usual;rw[hop]
  cases hl:lowOp P p.op with
  | none=>rfl
  | some lo=>exact hs lo hl
 ·cases hla:lowA y with
  | none=>apply usual;rw[hop,hl,hla];rfl
  | some x =>
   have hx:(lowP P p).op=.rng x:=by rw[hop,hl,hla];rfl
   have hw':lwanted (lowP P p) E=pwanted p E:=rfl;unfold lopW at e;rw[hx]at e;simp only[hw']at e
   cases hpw:pwanted p E with
   | false =>
    rw[hpw]at e;simp only[Bool.false_eq_true,if_false]at e
    cases e
    exact unwanted hpw (fun r h=>by subst h;simp)
   | true =>
    rw[hpw]at e;simp only[if_true]at e;obtain⟨r,hr,e⟩:=obs e
    cases e
    unfold wpOp;rw[hi];simp only;rw[wanted_eq hT,r6,hpw,if_pos rfl];left;have hy':o.op=.range t y:=by rw[←r3,hy]
    have hev:=hT.env y (la E x) (by rw[rep_env (r5 y (by rw[hy'];simp[Op.operands])) E];exact lowA_env hla E);obtain⟨m',w',u,g1,g2,g3,g4⟩:=run_range (P:=P) hR hev hu hr;unfold Oper.wp;have hex:(execOp a.eval o).run P w=.ok (.value u) w':=by
     unfold execOp;rw[hy'];simp only[Sem.run_bind,g1,Result.andThen_ok];rfl
    rw[hex];exact hK r (List.mem_singleton.2 rfl) m' w' u g2 g3 g4
 ·cases hla:lowA y with
  | none=>apply usual;rw[hop,hl,hla];rfl
  | some x =>
   have hx:(lowP P p).op=.nxt x:=by rw[hop,hl,hla];rfl
   have hw':lwanted (lowP P p) E=pwanted p E:=rfl;unfold lopW at e;rw[hx]at e;simp only[hw']at e
   cases hpw:pwanted p E with
   | false =>
    rw[hpw]at e;simp only[Bool.false_eq_true,if_false]at e
    cases e
    exact unwanted hpw (fun r h=>by subst h;simp)
   | true =>
    rw[hpw]at e;simp only[if_true]at e;unfold wpOp;rw[hi];simp only;rw[wanted_eq hT,r6,hpw,if_pos rfl];left;have hy':o.op=.next y false:=by rw[←r3,hy]
    have hev:=hT.env y (la E x) (by rw[rep_env (r5 y (by rw[hy'];simp[Op.operands])) E];exact lowA_env hla E);obtain⟨r,w',u,g0,g1,g3,g4⟩:=run_next (P:=P) hR hev e o.type;unfold Oper.wp;have hex:(execOp a.eval o).run P w=.ok (.value u) w':=by
     unfold execOp;rw[hy'];simp only[Sem.run_bind,g1,Result.andThen_ok];rfl
    rw[hex];exact hK r g0 m w' u (Ext.refl m) g3 g4
 ·have hx:(lowP P p).op=.ovl x y:=by rw[hop,hl];rfl
  have hw':lwanted (lowP P p) E=pwanted p E:=rfl;unfold lopW at e;rw[hx]at e;simp only[hw']at e
  cases hpw:pwanted p E with
  | false =>
   rw[hpw]at e;simp only[Bool.false_eq_true,if_false]at e
   cases e
   exact unwanted hpw (fun r h=>by subst h;simp)
  | true =>
   rw[hpw]at e;simp only[if_true]at e;unfold wpOp;rw[hi];simp only;rw[wanted_eq hT,r6,hpw,if_pos rfl];left;have hy':o.op=.call { callee:=.value f,args:=args,argTypes:=ts }:=by rw[←r3,hy]
   have hfv:=hT.env f (la E (.f g)) (by rw[rep_env (r5 f (by rw[hy'];simp[Op.operands,Call.operands])) E];exact lowA_env hlf E);simp only[la,VR]at hfv;obtain⟨fa,ca,hfv,hfa,hca⟩:=hfv;have hfa:fa= #[]:=Array.ext' (by simpa[VRs]using hfa);have hca:ca= #[]:=Array.ext' (by simpa[VRs]using hca);subst hfa hca;have hargs:VRs m [la E x,la E y] (args.map a.eval).toList:=by
    rw[Array.toList_map];refine evs_VRs hT.env ?_;rw[evs_congr (ρ':=penv E) (fun z hz=>rep_env (r5 z (by rw[hy'];simp[Op.operands,Call.operands,Array.mem_toList_iff.1 hz])) E)];exact lowAs_env hla E
   obtain⟨r,w',u,g0,g1,g3,g4⟩:=run_ovl (P:=P) hR hov hargs e;unfold Oper.wp;have hex:(execOp a.eval o).run P w=.ok (.value u) w':=by
    unfold execOp;rw[hy'];simp only[resolve,hfv,Deferred.ofValue,Sem.run_bind,Sem.run_pure,Result.andThen_ok,invoke];have he: #[]++args.map a.eval++ #[]=args.map a.eval:=by simp
    first
     | exact g1
     | (rw[he];exact g1)
   rw[hex];exact hK r g0 m w' u (Ext.refl m) g3 g4
theorem wp_lopsW {ops:Array Oper}{n:Nat}{Q:Exit->Act->World->Prop}{B0:Nat}{w0:World}{K:Sg->Heap->Prop}:∀(os:List Oper) (ps:List POp) (k:Nat) (E:Sg) (H:Heap) (w:World) (m:Mp) (a:Act),
  (∀j,os[j]? =ops[k+j]?)->pOpers n ops os=some ps->lopsW cal O (ps.map (lowP P)) E H K->Rel B0 w0 m H w->TR m (rep n E) a ->
  (∀σ' H',K σ' H'->∀m' a' w',Ext m m'->Rel B0 w0 m' H' w'->TR m' (rep n σ') a'->Q .normal a' w')->wpOps P ops Q (List.range' k os.length) a w
 | [],ps,k,E,H,w,m,a,_,hps,e,hR,hT,hQ=>by
  simp only[pOpers,Option.some.injEq]at hps;subst hps;exact hQ E H e m a w (Ext.refl m) hR hT
 | o::os,ps,k,E,H,w,m,a,hk,hps,e,hR,hT,hQ=>by
  simp only[pOpers]at hps;obtain⟨p,hp,hps⟩:=obs hps;obtain⟨ps',hps',hps⟩:=obs hps
  cases hps
  simp only[List.map_cons,lopsW]at e;obtain⟨l,h1,e⟩:=e;have h0:ops[k]? =some o:=by have:=hk 0;simpa using this.symm
  obtain⟨_,r2,r3,r4,r5,r6⟩:=rep_opV (P:=P) (O:=O) hp E H;rw[List.length_cons,List.range'_succ,wpOps_cons];refine wp_lopW hφ hcal h0 hp h1 hR hT (fun r hr m1 w1 u hm hR1 hv=> ?_);have hT1:TR m1 (rep n (pput E p.d r.1)) (a.put o.dst u):=by
   rw[r2,←rep_put r4];exact(hT.ext hm).put _ hv
  exact wp_lopsW os ps' (k+1) _ _ _ m1 _ (fun j=>by have:=hk (j+1);simpa[Nat.add_assoc,Nat.add_comm 1 j]using this) hps' (e r hr) hR1 hT1
   (fun σ' H' hK m' a' w' h2 h3 h4=>hQ σ' H' hK m' a' w' (hm.trans h2) h3 h4)
theorem wp_lxW (hm:P.follows .mixedOrders=true)(N:Nat):∀(c:Code) (pc:PC),compile P n c=some pc->∀(E:Sg) (H:Heap) (K:IX->Sg->Heap->Prop),lxW cal O N (lowC P pc) E H K ->
  ∀(m:Mp) (a:Act) (w:World) (Q:Exit->Act->World->Prop),Rel B0 w0 m H w->TR m (rep n E) a->(∀x σ' H',K x σ' H'->Post B0 w0 m x (rep n σ') H' Q)->c.wp P Q a w:=by
 intro c
 induction c with
 | skip =>
  intro pc hc E H K e m a w Q hR hT hQ
  cases hc
  exact wp_skip (hQ _ _ _ e m a w (Ext.refl m) hR hT)
 | label l =>
  intro pc hc E H K e m a w Q hR hT hQ
  cases hc
  exact wp_label (hQ _ _ _ e m a w (Ext.refl m) hR hT)
 | region id ops draw =>
  intro pc hc E H K e m a w Q hR hT hQ
  cases draw with
  | false =>
   simp only[compile]at hc;obtain⟨l,hl,hc⟩:=obs hc
   cases hc
   refine wp_region ?_;have:=wp_lopsW (P:=P) (Q:=Q) (K:=K .normal) hφ hcal ops.toList l 0 E H w m a (fun j=>by simp) hl e hR hT (fun σ' H' hK m' a' w' g1 g2 g3=>hQ _ _ _ hK m' a' w' g1 g2 g3)
   rwa [Array.length_toList,←List.range_eq_range']at this
  | true =>
   simp only[compile]at hc;split at hc
   ·rename_i hok;obtain⟨l,hl,hc⟩:=obs hc
    cases hc
    obtain⟨r,h1,h2⟩:=e;have h3:=lowP_draw (O:=O) hcal l (loose P ops) E H r h1;have h4:idraw P O ops (rep n E) H=some (rep n r.1,r.2):=by
     rw[rep_draw hok hl E H,h3];rfl
    exact wp_idraw hφ hm h4 hR hT (fun m' a' w' g1 g2 g3=>hQ _ _ _ h2 m' a' w' g1 g2 g3)
   ·unfold compileA at hc;split at hc
    ·rename_i c z _;split at hc
     ·rename_i hok;obtain⟨k1,k2,k3,k4⟩:=hok;obtain⟨l,hl,hc⟩:=obs hc;obtain⟨l2,hl2,hc⟩:=obs hc
      cases hc
      obtain⟨⟨r,h1,h2⟩,⟨r2,h1',h2'⟩⟩:=e;have h3:=lowP_draw (O:=O) hcal l _ E H r h1;have h3':=lowP_draw (O:=O) hcal l2 _ E H r2 h1';have h4:idraw P O (altOps ops _root_.id _root_.id z c) (rep n E) H=some (rep n r.1,r.2):=by
       rw[rep_draw k3 hl E H,h3];rfl
      have h4':idraw P O (altOps ops (altPi c z) (altQi c z) c z) (rep n E) H=some (rep n r2.1,r2.2):=by
       rw[rep_draw k4 hl2 E H,h3'];rfl
      exact wp_idraw2 hφ hm k1 k2 h4 h4' hR hT (fun m' a' w' g1 g2 g3=>hQ _ _ _ h2 m' a' w' g1 g2 g3) (fun m' a' w' g1 g2 g3=>hQ _ _ _ h2' m' a' w' g1 g2 g3)
     ·cases hc
    ·cases hc
 | seq c d ihc ihd =>
  intro pc hc E H K e m a w Q hR hT hQ;simp only[compile]at hc;obtain⟨x,hx,hc⟩:=obs hc;obtain⟨y,hy,hc⟩:=obs hc
  cases hc
  refine wp_seq (ihc x hx E H _ e m a w _ hR hT ?_);intro x1 σ1 H1 hK m' a' w' g1 g2 g3
  cases x1 with
  | normal=>exact ihd y hy σ1 H1 K hK m' a' w' Q g2 g3 (fun x2 σ2 H2 k2 m2 a2 w2 k4 k5 k6=>hQ x2 σ2 H2 k2 m2 a2 w2 (g1.trans k4) k5 k6)
  | exit id=>exact hQ _ _ _ hK m' a' w' g1 g2 g3
  | ret=>exact hQ _ _ _ hK m' a' w' g1 g2 g3
 | cond c x1 x2 ih1 ih2 =>
  intro pc hc E H K e m a w Q hR hT hQ;simp only[compile]at hc;split at hc
  ·rename_i hopd;obtain⟨x,hx,hc⟩:=obs hc;obtain⟨y,hy,hc⟩:=obs hc
   cases hc
   simp only[lowC]at e
   cases hl:lowA c with
   | none=>rw[hl]at e;exact e.elim
   | some y' =>
    rw[hl]at e;simp only[lxW]at e;have hev:env (rep n E) c=some (la E y'):=by rw[rep_env hopd E];exact lowA_env hl E
    split at e
    ·rename_i hb;rw[hb]at hev;have:=hT.env _ _ hev;simp only[VR]at this;exact wp_cond_true this (ih1 x hx E H K e m a w Q hR hT hQ)
    ·rename_i hb;rw[hb]at hev;have:=hT.env _ _ hev;simp only[VR]at this;exact wp_cond_false this (ih2 y hy E H K e m a w Q hR hT hQ)
    ·exact e.elim
  ·cases hc
 | block id c ih =>
  intro pc hc E H K e m a w Q hR hT hQ;simp only[compile]at hc;obtain⟨x,hx,hc⟩:=obs hc
  cases hc
  refine wp_block (ih x hx E H _ e m a w _ hR hT ?_);intro x1 σ1 H1 hK m' a' w' g1 g2 g3
  cases x1 with
  | normal=>exact hQ _ _ _ hK m' a' w' g1 g2 g3
  | exit id' =>
   simp only at hK;simp only[IX.to,Exit.inBlock];split at hK
   ·rename_i hid;rw[if_pos hid];exact hQ _ _ _ hK m' a' w' g1 g2 g3
   ·rename_i hid;rw[if_neg hid];exact hQ _ _ _ hK m' a' w' g1 g2 g3
  | ret=>exact hQ _ _ _ hK m' a' w' g1 g2 g3
 | loop c ih =>
  intro pc hc E H K e m a w Q hR hT hQ;simp only[compile]at hc;obtain⟨x,hx,hc⟩:=obs hc
  cases hc
  simp only[lowC,lxW]at e;have key:∀(k:Nat) (E:Sg) (H:Heap) (m:Mp) (a:Act) (w:World),itW (lxW cal O N (lowC P x)) k E H K->Rel B0 w0 m H w->TR m (rep n E) a->(∀x σ' H',K x σ' H'->Post B0 w0 m x (rep n σ') H' Q)->Code.rounds P c Q k a w:=by
   intro k
   induction k with
   | zero=>intro E H m a w e;exact e.elim
   | succ k ihk =>
    intro E H m a w e hR hT hQ;rw[rounds_succ];refine ih x hx E H _ e m a w _ hR hT ?_;intro x1 σ1 H1 hK m' a' w' g1 g2 g3
    cases x1 with
    | normal=>exact ihk σ1 H1 m' a' w' hK g2 g3 (fun x2 σ2 H2 k2 m2 a2 w2 k4 k5 k6=>hQ x2 σ2 H2 k2 m2 a2 w2 (g1.trans k4) k5 k6)
    | exit id=>exact hQ _ _ _ hK m' a' w' g1 g2 g3
    | ret=>exact hQ _ _ _ hK m' a' w' g1 g2 g3
  exact wp_loop_rounds N (key N E H m a w e hR hT hQ)
 | exit id =>
  intro pc hc E H K e m a w Q hR hT hQ
  cases hc
  exact wp_exit (hQ _ _ _ e m a w (Ext.refl m) hR hT)
 | ret =>
  intro pc hc E H K e m a w Q hR hT hQ
  cases hc
  exact wp_ret (hQ _ _ _ e m a w (Ext.refl m) hR hT)
 | scope c ih =>
  intro pc hc E H K e m a w Q hR hT hQ;simp only[compile]at hc;exact wp_scope_straight (ih pc hc E H K e m a w _ hR hT (fun x σ' H' hK m' a' w' g1 g2 g3=>by have:=hQ x σ' H' hK m' a' w' g1 g2 g3;cases x<;>exact this))
 | rangeFunc f ps as' body _ _=>intro pc hc;simp[compile]at hc
 | goto l=>intro pc hc;simp[compile]at hc
 | refuse why=>intro pc hc;simp[compile]at hc
def endW (rs:List LRes)(K:IV->Heap->Prop):IX->Sg->Heap->Prop
 | .exit _,_,_=>False
 | _,E,H=>∃vs,lresults E H rs=some vs/\K (pack vs) H
def lrunW (cal:FuncId->Bool)(O:Oracle)(N:Nat)(lf:LFun)(args:List IV)(H:Heap)(K:IV->Heap->Prop):Prop:=lxW cal O N lf.pc (initFrom 0 args) H (endW lf.rs K)
end
def SimW (P:Program)(f:FuncId)(args:List IV)(H:Heap)(K:IV->Heap->Prop):Prop :=
 ∀(B0:Nat) (w0 w:World) (m:Mp) (us:Array Value),Rel B0 w0 m H w->VRs m args us.toList ->
  Calls P f us w fun e w'=>∃r H' m' u,K r H'/\e=.returned u/\Ext m m'/\Rel B0 w0 m' H' w'/\VR m' r u
end Go.Shade
namespace Go.Shade
open Go.RowKit
theorem sim_W {P:Program}{O:Oracle}{cal:FuncId->Bool}(hφ:Sound P O)(hcal:∀g,cal g=true->callable P g=true)(hm:P.follows .mixedOrders=true){N:Nat}{f:FuncId}{fn:Func}{lf:LFun}(hf:P.funcs[f]? =some fn)(hc:lowF P fn=some lf){args:List IV}{H:Heap}(hl:args.length<=lf.n){K:IV->Heap->Prop}
  (h:lrunW cal O N lf args H K):SimW P f args H K:=by
 unfold lowF at hc;obtain⟨pf,h1,hc⟩:=oB hc;obtain⟨rs,h2,hc⟩:=oB hc
 cases hc
 unfold compileF at h1;obtain⟨c,g1,h1⟩:=obs h1;obtain⟨pc,g2,h1⟩:=obs h1;split at h1
 ·rename_i hres
  cases h1
  intro B0 w0 w m us hR hA;have hl':=hA.length;simp only[Array.length_toList]at hl';simp only at hl;have hT:TR m (rep fn.ntmps (initFrom 0 args)) { tmps:=us++Array.replicate (fn.ntmps - us.size) undef,defers:=[] }:=by
   rw[←rep_init hl];refine⟨?_,rfl⟩;simp only[Array.toList_append,Array.toList_replicate];rw[hl'];exact hA.append (VRs.replicate (VR_unit m) _)
  refine calls_of_wp hf g1 (wp_lxW hφ hcal hm N c pc g2 _ H _ h m _ w _ hR hT ?_);intro x σ' H' hK m' a' w' k1 k2 k3;have fin:(∃vs,lresults σ' H' rs=some vs/\K (pack vs) H')->a'.defers=[]/\∃v,(results fn a'.tmps).run P w'=.ok v w'/\∃r H' m' u,K r H'/\Ending.returned v=.returned u/\Ext m m'/\Rel B0 w0 m' H' w'/\VR m' r u:=by
   rintro⟨vs,hvs,hk⟩;have hvs':iresults P (rep fn.ntmps σ') H' fn.results.toList=some vs:=by
    rw[rep_results hres,lowRess_le h2];exact hvs
   obtain⟨u,q1,q2⟩:=run_results (P:=P) k2 k3 hvs';exact⟨k3.2,u,q1,_,H',m',u,hk,rfl,k1,k2,q2⟩
  cases x with
  | normal=>exact fin hK
  | ret=>exact fin hK
  | exit id=>exact hK.elim
 ·cases h1
abbrev Outs :=Option (List (IV×Heap))
def outs :List Outs->Outs
 | []=>some []
 | [a]=>a
 | a::l=>a.bind fun x=>(outs l).bind fun y=>some (x++y)
def lopsO (cal:FuncId->Bool)(O:Oracle):List LO->Sg->Heap->(Sg->Heap->Outs)->Outs
 | [],E,H,k=>k E H
 | p::ps,E,H,k=>match lopW cal O p E H with
  | none=>none
  | some l=>outs (l.map fun r=>lopsO cal O ps (pput E p.d r.1) r.2 k)
def itO (body:Sg->Heap->(IX->Sg->Heap->Outs)->Outs):Nat->Sg->Heap->(IX->Sg->Heap->Outs)->Outs
 | 0,_,_,_=>none
 | n+1,E,H,k=>body E H fun x E H=>match x with
  | .normal=>itO body n E H k
  | x=>k x E H
def lxO (cal:FuncId->Bool)(O:Oracle)(n:Nat):LC->Sg->Heap->(IX->Sg->Heap->Outs)->Outs
 | .skip,E,H,k=>k .normal E H
 | .reg l,E,H,k=>lopsO cal O l E H (k .normal)
 | .drw l ps,E,H,k=>match ldraw cal O l ps E H with
  | none=>none
  | some r=>k .normal r.1 r.2
 | .seq a b,E,H,k=>lxO cal O n a E H fun x E H=>match x with
  | .normal=>lxO cal O n b E H k
  | x=>k x E H
 | .cond c a b,E,H,k=>match la E c with
  | .bool true=>lxO cal O n a E H k
  | .bool false=>lxO cal O n b E H k
  | _=>none
 | .block id a,E,H,k=>lxO cal O n a E H fun x E H=>match x with
  | .exit id'=>bif Nat.beq id' id then k .normal E H else k (.exit id') E H
  | x=>k x E H
 | .loop a,E,H,k=>itO (lxO cal O n a) n E H k
 | .exit id,E,H,k=>k (.exit id) E H
 | .ret,E,H,k=>k .ret E H
 | .bad,_,_,_=>none
 | .alt _ _,_,_,_=>none
def Some' (L:List (IV×Heap))(o:Outs):Prop:=∃l,o=some l/\∀r∈l,r∈L
theorem outs_mem :∀{l:List Outs} {L:List (IV×Heap)},Some' L (outs l)->∀a∈l,Some' L a
 | [],L,h,a,ha=>by cases ha
 | [b],L,h,a,ha=>by
  have:a=b:=by simpa using ha
  subst this;exact h
 | b::c::l,L,h,a,ha=>by
  obtain⟨r,hr,hL⟩:=h;simp only[outs]at hr;obtain⟨x,hx,hr⟩:=obs hr;obtain⟨y,hy,hr⟩:=obs hr
  cases hr
  rcases List.mem_cons.1 ha with rfl | ha
  ·exact⟨x,hx,fun r hr=>hL r (List.mem_append_left _ hr)⟩
  ·exact outs_mem (l:=c::l) ⟨y,hy,fun r hr=>hL r (List.mem_append_right _ hr)⟩ a ha
section
variable {cal : FuncId -> Bool} {O : Oracle} {L : List (IV × Heap)}
theorem lopsO_W :∀(ps:List LO) (E:Sg) (H:Heap) (k:Sg->Heap->Outs),Some' L (lopsO cal O ps E H k)->lopsW cal O ps E H (fun E H=>Some' L (k E H))
 | [],E,H,k,h=>h
 | p::ps,E,H,k,h=>by
  simp only[lopsO]at h;simp only[lopsW]
  cases hl:lopW cal O p E H with
  | none=>rw[hl]at h;obtain⟨l,e,_⟩:=h;cases e
  | some l =>
   rw[hl]at h;exact⟨l,rfl,fun r hr=>lopsO_W ps _ _ k (outs_mem h _ (List.mem_map.2 ⟨r,hr,rfl⟩))⟩
theorem lopsW_mono :∀{ps:List LO} {E:Sg} {H:Heap} {k k':Sg->Heap->Prop},(∀E H,k E H->k' E H)->lopsW cal O ps E H k->lopsW cal O ps E H k'
 | [],E,H,k,k',hk,h=>hk _ _ h
 | p::ps,E,H,k,k',hk,h=>by
  obtain⟨l,h1,h2⟩:=h;exact⟨l,h1,fun r hr=>lopsW_mono hk (h2 r hr)⟩
theorem itW_mono {b:Sg->Heap->(IX->Sg->Heap->Prop)->Prop}(hb:∀(E:Sg) (H:Heap) (k k':IX->Sg->Heap->Prop),(∀x E H,k x E H->k' x E H)->b E H k->b E H k'):∀{n:Nat} {E:Sg} {H:Heap} {k k':IX->Sg->Heap->Prop},(∀x E H,k x E H->k' x E H)->itW b n E H k->itW b n E H k'
 | 0,E,H,k,k',hk,h=>h
 | n+1,E,H,k,k',hk,h=>by
  simp only[itW]at h ⊢;refine hb _ _ _ _ (fun x E H hx=> ?_) h
  cases x with
  | normal=>exact itW_mono (b:=b) hb hk hx
  | exit id=>exact hk _ _ _ hx
  | ret=>exact hk _ _ _ hx
theorem lxW_mono {n:Nat}:∀{c:LC} {E:Sg} {H:Heap} {k k':IX->Sg->Heap->Prop},(∀x E H,k x E H->k' x E H)->lxW cal O n c E H k->lxW cal O n c E H k':=by
 intro c
 induction c with
 | skip=>intro E H k k' hk h;exact hk _ _ _ h
 | reg l=>intro E H k k' hk h;exact lopsW_mono (hk .normal) h
 | drw l ps=>intro E H k k' hk h;obtain⟨r,h1,h2⟩:=h;exact⟨r,h1,hk _ _ _ h2⟩
 | alt a b iha ihb=>intro E H k k' hk h;exact⟨iha hk h.1,ihb hk h.2⟩
 | seq a b iha ihb =>
  intro E H k k' hk h;simp only[lxW]at h ⊢;refine iha (fun x E H hx=> ?_) h
  cases x with
  | normal=>exact ihb hk hx
  | exit id=>exact hk _ _ _ hx
  | ret=>exact hk _ _ _ hx
 | cond c a b iha ihb =>
  intro E H k k' hk h;simp only[lxW]at h ⊢;split at h
  ·exact iha hk h
  ·exact ihb hk h
  ·exact h
 | block id a ih =>
  intro E H k k' hk h;simp only[lxW]at h ⊢;refine ih (fun x E H hx=> ?_) h
  cases x with
  | normal=>exact hk _ _ _ hx
  | exit id' =>
   simp only at hx ⊢;split at hx
   ·rename_i hid;rw[if_pos hid];exact hk _ _ _ hx
   ·rename_i hid;rw[if_neg hid];exact hk _ _ _ hx
  | ret=>exact hk _ _ _ hx
 | loop a ih=>intro E H k k' hk h;exact itW_mono (b:=lxW cal O n a) (fun E H k k' hk h=>ih hk h) hk h
 | exit id=>intro E H k k' hk h;exact hk _ _ _ h
 | ret=>intro E H k k' hk h;exact hk _ _ _ h
 | bad=>intro E H k k' hk h;exact h
theorem lxO_W {n:Nat}:∀(c:LC) (E:Sg) (H:Heap) (k:IX->Sg->Heap->Outs),Some' L (lxO cal O n c E H k)->lxW cal O n c E H (fun x E H=>Some' L (k x E H)):=by
 intro c
 induction c with
 | skip=>intro E H k h;exact h
 | reg l=>intro E H k h;exact lopsO_W l E H _ h
 | drw l ps =>
  intro E H k h;simp only[lxO]at h
  cases hr:ldraw cal O l ps E H with
  | none=>rw[hr]at h;obtain⟨l,e,_⟩:=h;cases e
  | some r=>rw[hr]at h;exact⟨r,hr,h⟩
 | alt a b _ _=>intro E H k h;obtain⟨l,e,_⟩:=h;cases e
 | seq a b iha ihb =>
  intro E H k h;simp only[lxO]at h;simp only[lxW];refine lxW_mono (fun x E H hx=> ?_) (iha _ _ _ h)
  cases x with
  | normal=>exact ihb _ _ _ hx
  | exit id=>exact hx
  | ret=>exact hx
 | cond c a b iha ihb =>
  intro E H k h;simp only[lxO]at h;simp only[lxW];split at h
  ·rename_i hb;first | exact iha _ _ _ h | (rw[hb];exact iha _ _ _ h)
  ·rename_i hb;first | exact ihb _ _ _ h | (rw[hb];exact ihb _ _ _ h)
  ·obtain⟨l,e,_⟩:=h;cases e
 | block id a ih =>
  intro E H k h;simp only[lxO]at h;simp only[lxW];refine lxW_mono (fun x E H hx=> ?_) (ih _ _ _ h)
  cases x with
  | normal=>exact hx
  | exit id' =>
   simp only at hx ⊢
   cases hb:Nat.beq id' id with
   | true=>rw[hb]at hx;rw[if_pos (Nat.eq_of_beq_eq_true hb)];exact hx
   | false =>
    rw[hb]at hx;rw[if_neg (fun e=>by subst e;rw[Nat.beq_refl]at hb;cases hb)];exact hx
  | ret=>exact hx
 | loop a ih =>
  intro E H k h;simp only[lxO]at h;simp only[lxW];have key:∀(j:Nat) (E:Sg) (H:Heap),Some' L (itO (lxO cal O n a) j E H k)->itW (lxW cal O n a) j E H (fun x E H=>Some' L (k x E H)):=by
   intro j
   induction j with
   | zero=>intro E H h;obtain⟨l,e,_⟩:=h;cases e
   | succ j ihj =>
    intro E H h;simp only[itO]at h;simp only[itW];refine lxW_mono (fun x E H hx=> ?_) (ih _ _ _ h)
    cases x with
    | normal=>exact ihj _ _ hx
    | exit id=>exact hx
    | ret=>exact hx
  exact key n E H h
 | exit id=>intro E H k h;exact h
 | ret=>intro E H k h;exact h
 | bad=>intro E H k h;obtain⟨l,e,_⟩:=h;cases e
end
def endO (rs:List LRes):IX->Sg->Heap->Outs
 | .exit _,_,_=>none
 | _,E,H=>match lresults E H rs with
  | none=>none
  | some vs=>some [(pack vs,H)]
def lrunO (cal:FuncId->Bool)(O:Oracle)(N:Nat)(lf:LFun)(args:List IV)(H:Heap):Outs:=lxO cal O N lf.pc (initFrom 0 args) H (endO lf.rs)
theorem lrunO_W {cal:FuncId->Bool}{O:Oracle}{N:Nat}{lf:LFun}{args:List IV}{H:Heap}{L:List (IV×Heap)}(h:lrunO cal O N lf args H=some L):lrunW cal O N lf args H (fun r H'=>(r,H')∈L):=by
 refine lxW_mono (fun x E H hx=> ?_) (lxO_W (L:=L) _ _ _ _ ⟨L,h,fun _ h=>h⟩);obtain⟨l,h1,h2⟩:=hx
 cases x with
 | normal =>
  simp only[endO]at h1;split at h1
  ·cases h1
  ·rename_i vs hvs
   cases h1
   exact⟨vs,hvs,h2 _ (List.mem_singleton.2 rfl)⟩
 | ret =>
  simp only[endO]at h1;split at h1
  ·cases h1
  ·rename_i vs hvs
   cases h1
   exact⟨vs,hvs,h2 _ (List.mem_singleton.2 rfl)⟩
 | exit id=>simp[endO]at h1
end Go.Shade
namespace Go.Shade
open Go.RowKit
variable {H : Heap}
inductive CT where
 | int (k:IntKind)
 | bool
 | str
 | sl (es:List CT)
mutual
def Fit (H:Heap):CT->IV->Prop
 | .int k,v=>∃n,v=.int k n/\(Lit.int k n).wf=true
 | .bool,v=>∃b,v=.bool b
 | .str,v=>∃s,v=.str s/\s.length<=maxLen
 | .sl es,v=>v=.nilSlice∨∃(b n:Nat) (elems:List (List IV)),v=.slice b 0 n elems.length true 0/\H[b]? =some (.row elems.flatten true)/\n<=elems.length/\elems.length<=maxLen/\∀e∈elems,Fits H es e
def Fits (H:Heap):List CT->List IV->Prop
 | [],vs=>vs=[]
 | c::cs,vs=>∃v r,vs=v::r/\Fit H c v/\Fits H cs r
end
mutual
theorem Fit.mono {H H':Heap}(h:∀(b:Nat) o,H[b]? =some o->H'[b]? =some o):∀(c:CT) (v:IV),Fit H c v->Fit H' c v
 | .int k,v,hf=>by simpa[Fit]using hf
 | .bool,v,hf=>by simpa[Fit]using hf
 | .str,v,hf=>by simpa[Fit]using hf
 | .sl es,v,hf=>by
  simp only[Fit]at hf ⊢;rcases hf with hf | ⟨b,n,elems,h1,h2,h3,h4,h5⟩
  ·exact .inl hf
  ·exact .inr ⟨b,n,elems,h1,h _ _ h2,h3,h4,fun e he=>Fits.mono h es e (h5 e he)⟩
theorem Fits.mono {H H':Heap}(h:∀(b:Nat) o,H[b]? =some o->H'[b]? =some o):∀(cs:List CT) (vs:List IV),Fits H cs vs->Fits H' cs vs
 | [],vs,hf=>by simpa[Fits]using hf
 | c::cs,vs,hf=>by
  simp only[Fits]at hf ⊢;obtain⟨v,r,h1,h2,h3⟩:=hf;exact⟨v,r,h1,Fit.mono h c v h2,Fits.mono h cs r h3⟩
end
theorem app_mono (X:Heap):∀(b:Nat) o,H[b]? =some o->(H++X)[b]? =some o:=by
 intro b o h;rw[List.getElem?_append_left (ges h).1];exact h
theorem Fits.append {H:Heap}:∀{cs ds:List CT} {vs us:List IV},Fits H cs vs->Fits H ds us->Fits H (cs++ds) (vs++us)
 | [],ds,vs,us,h,k=>by simp only[Fits]at h;subst h;simpa using k
 | c::cs,ds,vs,us,h,k=>by
  simp only[Fits]at h;obtain⟨v,r,rfl,h2,h3⟩:=h;simp only[List.cons_append,Fits];exact⟨v,r++us,rfl,h2,h3.append k⟩
theorem Fits.length {H:Heap}:∀{cs:List CT} {vs:List IV},Fits H cs vs->vs.length=cs.length
 | [],vs,h=>by simp only[Fits]at h;subst h;rfl
 | c::cs,vs,h=>by
  simp only[Fits]at h;obtain⟨v,r,rfl,h2,h3⟩:=h;simp[h3.length]
theorem Fit.one {H:Heap}{c:CT}{v:IV}(h:Fit H c v):v.one=true:=by
 cases c<;>simp only[Fit]at h
 ·obtain⟨n,rfl,_⟩:=h;rfl
 ·obtain⟨n,rfl⟩:=h;rfl
 ·obtain⟨n,rfl,_⟩:=h;rfl
 ·rcases h with rfl | ⟨b,n,e,rfl,_⟩<;>rfl
theorem Fits.one {H:Heap}:∀{cs:List CT} {vs:List IV},Fits H cs vs->∀v∈vs,v.one=true
 | [],vs,h=>by simp only[Fits]at h;subst h;simp
 | c::cs,vs,h=>by
  simp only[Fits]at h;obtain⟨v,r,rfl,h2,h3⟩:=h;intro x hx;rcases List.mem_cons.1 hx with rfl | hx
  ·exact h2.one
  ·exact h3.one x hx
def flatFs (P:Program)(fl:TypeId->Option (List CT)):Nat->List Field->Option (List CT)
 | _,[]=>some []
 | off,f::fs=>if f.offset=off then(fl f.type).bind fun c=>if c.length=P.cellsOf f.type then(flatFs P fl (off+c.length) fs).map (c++ ·)else none else none
def flat (P:Program):Nat->TypeId->Option (List CT)
 | 0,_=>none
 | n+1,t=>match P.underlying t with
  | some .bool=>some [.bool]
  | some (.int k)=>some [.int k]
  | some .string=>some [.str]
  | some (.slice e)=>(flat P n e).bind fun es=>if es.length=P.cellsOf e/\es≠ []then some [.sl es]else none
  | some (.struct fs)=>(flatFs P (flat P n) 0 fs.toList).bind fun cs=>if cs.length=P.cellsOf t then some cs else none
  | _=>none
theorem Rel.pushRo {B0:Nat}{w0 w:World}{m:Mp}(h:Rel B0 w0 m H w)(l:Loc)(cs:List IV)(hg:cs≠ []->∃C e fr,w.heap[l.cb]? =some (.cells C e fr)/\l.cb<B0/\∀(j:Nat) v,cs[j]? =some v->v.one=true/\∃u,C[l.co+j]? =some u/\VR m v u) :
  Rel B0 w0 (grow m H.length l) (H++[.row cs true]) w:=by
 have hext:=grow_ext h l;refine⟨h.below,h.base,fun i k hi=> ?_,fun i o hi=> ?_,fun i j o p li lj hi hj ho hp hne hmi hmj=> ?_⟩
 ·simp only[grow]at hi;split at hi
  ·simp;omega
  ·have:=h.dom i k hi;simp;omega
 ·rw[List.getElem?_append]at hi;split at hi
  ·exact(h.good i o hi).move hext (fun _ _ _=>rfl)
  ·rename_i hge;have hz:i - H.length=0:=by
    rcases Nat.eq_zero_or_pos (i - H.length)with e | e
    ·exact e
    ·rw[List.getElem?_eq_none (by simp;omega)]at hi;exact absurd hi (by simp)
   rw[hz]at hi;simp at hi;subst hi;have:i=H.length:=by omega
   subst this;refine⟨l,grow_at _ _ _,fun hne=> ?_⟩;obtain⟨C,e,fr,h1,h2,h3⟩:=hg hne;exact⟨C,e,fr,h1,h2,fun j v hj=>by obtain⟨h4,u,h5,h6⟩:=h3 j v hj;exact⟨h4,u,h5,h6.ext hext⟩⟩
 ·have key:∀{a:Nat} {q:IObj},(H++[IObj.row cs true])[a]? =some q->q.held=true->H[a]? =some q/\a≠H.length:=by
   intro a q ha hq;rw[List.getElem?_append]at ha;split at ha
   ·exact⟨ha,by omega⟩
   ·rename_i hge;have hz:a - H.length=0:=by
     rcases Nat.eq_zero_or_pos (a - H.length)with e | e
     ·exact e
     ·rw[List.getElem?_eq_none (by simp;omega)]at ha;exact absurd ha (by simp)
    rw[hz]at ha;simp at ha;subst ha;simp[IObj.held]at hq
  obtain⟨h1,h2⟩:=key hi ho;obtain⟨h3,h4⟩:=key hj hp;simp only[grow,if_neg h2]at hmi;simp only[grow,if_neg h4]at hmj;exact h.inj i j o p li lj h1 h3 ho hp hne hmi hmj
def Opened (B0:Nat)(w0 w:World)(m:Mp)(H:Heap)(cts:List CT)(cs:List Value):Prop :=
 ∃m' X ivs,Ext m m'/\Rel B0 w0 m' (H++X) w/\VRs m' ivs cs/\Fits (H++X) cts ivs
theorem add_add' (a:Addr)(i j:Nat):(a.add i).add j=a.add (i+j):=by
 unfold Addr.add;by_cases hi:i=0
 ·subst hi;simp
 ·by_cases hj:j=0
  ·subst hj;simp
  ·rw[if_neg hi,if_neg hj,if_neg (by omega)];simp[Nat.add_assoc]
theorem cell_lt {w:World}{a:Addr}{v:Value}(h:w.cell? a=some v):a.spot=none/\∃C e fr,w.heap[a.block]? =some (.cells C e fr)/\C[a.off]? =some v:=by
 unfold World.cell? at h;split at h
 ·rename_i c e fr hc;split at h
  ·cases h
  ·rename_i hs;exact⟨by simpa using hs,c,e,fr,hc,h⟩
 ·cases h
section
variable {K : Type} {enc : TypeId × Value -> K} {P : Program} {w w0 : World} {B0 : Nat} {held : Bool}
theorem open_fields (hB:B0=w.heap.size){n:Nat}(ih:∀t cts,flat P n t=some cts->∀fuel cs x,DataW.trod enc P w 0 (fun _=>true) held fuel t cs=some x->∀m H,Rel B0 w0 m H w->Opened B0 w0 w m H cts cs){fuel:Nat}{cs:List Value} :
  ∀(fs:List Field) (off:Nat) (cts:List CT),flatFs P (flat P n) off fs=some cts->cs.length=off+cts.length ->
   (∀f∈fs,∃x,DataW.trod enc P w 0 (fun _=>true) held fuel f.type ((cs.drop f.offset).take (P.cellsOf f.type))=some x)->∀m H,Rel B0 w0 m H w->Opened B0 w0 w m H cts (cs.drop off)
 | [],off,cts,h,hl,_,m,H,hR=>by
  simp only[flatFs]at h;cases h
  refine⟨m,[],[],Ext.refl m,by simpa using hR,?_,by simp[Fits]⟩;rw[List.drop_of_length_le (by simpa using Nat.le_of_eq hl)];exact VRs.nil m
 | f::fs,off,cts,h,hl,hx,m,H,hR=>by
  simp only[flatFs]at h;split at h
  ·rename_i hoff;obtain⟨c,hc,h⟩:=obs h;split at h
   ·rename_i hcl;simp only[Option.map_eq_some_iff]at h;obtain⟨r,hr,rfl⟩:=h;obtain⟨x,hx1⟩:=hx f (by simp);obtain⟨m1,X1,v1,e1,r1,s1,f1⟩:=ih f.type c hc _ _ _ hx1 m H hR;obtain⟨m2,X2,v2,e2,r2,s2,f2⟩:=open_fields hB ih fs (off+c.length) r hr (by simp at hl;omega) (fun g hg=>hx g (by simp[hg])) m1 (H++X1) r1;refine⟨m2,X1++X2,v1++v2,e1.trans e2,by simpa using r2,?_,?_⟩
    ·have:cs.drop off=(cs.drop off).take c.length++cs.drop (off+c.length):=by
      rw[←List.drop_drop,List.take_append_drop]
     rw[this];rw[hoff,←hcl]at s1;exact(s1.ext e2).append s2
    ·rw[←List.append_assoc];exact(f1.mono (app_mono X2)).append f2
   ·cases h
  ·cases h
theorem open_flat (hB:B0=w.heap.size):∀(n:Nat) (t:TypeId) (cts:List CT),flat P n t=some cts->∀(fuel:Nat) (cs:List Value) (x:DataW K×List MemPlace),DataW.trod enc P w 0 (fun _=>true) held fuel t cs=some x->∀m H,Rel B0 w0 m H w->Opened B0 w0 w m H cts cs
 | 0,_,_,h=>by simp[flat]at h
 | n+1,t,cts,h=>by
  intro fuel cs x hx m H hR;have hxx:=hx;simp only[flat]at h;split at h
  ·rename_i hu
   cases h
   obtain⟨b,rfl,_⟩:=DataW.trod_bool hu hx;exact⟨m,[],[.bool b],Ext.refl m,by simpa using hR,VRs.cons (VR_bool m b) (VRs.nil m),by simp[Fits,Fit]⟩
  ·rename_i k hu
   cases h
   obtain⟨i,rfl,_,hw⟩:=DataW.trod_int hu hx;exact⟨m,[],[.int k i],Ext.refl m,by simpa using hR,VRs.cons (VR_int m k i) (VRs.nil m),by simp[Fits,Fit,hw]⟩
  ·rename_i hu
   cases h
   obtain⟨s,rfl,_,hw⟩:=DataW.trod_string hu hx;refine⟨m,[],[.str s.data.toList],Ext.refl m,by simpa using hR,VRs.cons (by simp[VR]) (VRs.nil m),?_⟩;simp only[Fits,Fit];exact⟨_,_,rfl,⟨_,rfl,by rw[Array.length_toList];exact hw⟩,rfl⟩
  ·rename_i e hu;obtain⟨es,he,h⟩:=obs h;split at h
   ·rename_i hne
    cases h
    rcases Go.Deep.open_slice hu hx with⟨rfl,_⟩ | ⟨a,len,cap,mm,k,D,Pl,rfl,_,hlc,hcm,hmm,_,hi⟩
    ·refine⟨m,[],[.nilSlice],Ext.refl m,by simpa using hR,VRs.cons (by simp[VR]) (VRs.nil m),?_⟩;simp only[Fits,Fit];exact⟨_,_,rfl,.inl rfl,rfl⟩
    ·simp only[if_true]at hmm;subst hmm;have hC:0<es.length:=List.length_pos_iff.2 hne.2;have key:∀j,j<=mm->∃(m':Mp) (X:Heap) (elems:List (List IV)),Ext m m'/\Rel B0 w0 m' (H++X) w/\elems.length=j/\(∀e'∈elems,Fits (H++X) es e')/\elems.flatten.length=j*es.length /\
       (∀(q:Nat) v,elems.flatten[q]? =some v->∃u,w.cell? (a.add q)=some u/\VR m' v u):=by
      intro j
      induction j with
      | zero=>intro _;exact⟨m,[],[],Ext.refl m,by simpa using hR,rfl,by simp,by simp,by simp⟩
      | succ j ihj =>
       intro hj;obtain⟨m1,X1,el,e1,r1,l1,f1,c1,v1⟩:=ihj (by omega);obtain⟨cs',hc,ht⟩:=hi j (by omega);obtain⟨_,hcl,hat⟩:=World.cells?_some hc;obtain⟨m2,X2,iv,e2,r2,s2,f2⟩:=open_flat hB n e es he _ _ _ ht m1 (H++X1) r1;have hivl:=f2.length;refine⟨m2,X1++X2,el++[iv],e1.trans e2,by simpa using r2,by simp[l1],?_,?_,?_⟩
       ·intro e' he';rw[←List.append_assoc];rcases List.mem_append.1 he' with he' | he'
        ·exact(f1 e' he').mono (app_mono X2)
        ·simp at he';subst he';exact f2
       ·simp only[List.flatten_append,List.length_append,c1,List.flatten_cons,List.flatten_nil,List.append_nil,hivl];rw[Nat.add_mul];omega
       ·intro q v hq;simp only[List.flatten_append,List.flatten_cons,List.flatten_nil,List.append_nil]at hq;rw[List.getElem?_append]at hq;split at hq
        ·obtain⟨u,hu1,hu2⟩:=v1 q v hq;exact⟨u,hu1,hu2.ext e2⟩
        ·rename_i hge;rw[c1]at hge hq;obtain⟨u,hu1,hu2⟩:=s2.get hq;have hql:q - j*es.length<es.length:=by have h9:=(ges hq).1;rw[hivl]at h9;exact h9
         have:=hat (q - j*es.length) (by rw[←hne.1];exact hql);rw[hu1,add_add',←hne.1,show j*es.length+(q - j*es.length)=q by omega]at this;exact⟨u,this,hu2⟩
     obtain⟨m1,X1,el,e1,r1,l1,f1,c1,v1⟩:=key mm (Nat.le_refl _);have hspot:0<mm->a.spot=none:=by
      intro hm;have hl:0<el.flatten.length:=by rw[c1];exact Nat.mul_pos hm hC
      obtain⟨u,hu1,_⟩:=v1 0 _ (List.getElem?_eq_getElem hl);have:=(cell_lt hu1).1
      simpa[Addr.add]using this
     have hrow:el.flatten≠ []->∃C e fr,w.heap[a.block]? =some (.cells C e fr)/\a.block<B0/\∀(j:Nat) v,el.flatten[j]? =some v->v.one=true/\∃u,C[a.off+j]? =some u/\VR m1 v u:=by
      intro hne';have hl:0<el.flatten.length:=List.length_pos_iff.2 hne';obtain⟨u,hu1,_⟩:=v1 0 _ (List.getElem?_eq_getElem hl);obtain⟨_,C,e',fr,hc,_⟩:=cell_lt hu1;have ha0:(a.add 0)=a:=by simp[Addr.add]
      rw[ha0]at hc;refine⟨C,e',fr,hc,by rw[hB];exact(Array.getElem?_eq_some_iff.1 hc).1,fun j v hj=> ?_⟩;obtain⟨u',hu',hr'⟩:=v1 j v hj;obtain⟨_,C',e'',fr',hc',hcu⟩:=cell_lt hu';have hab:(a.add j).block=a.block:=by unfold Addr.add;split<;>rfl
      have hao:(a.add j).off=a.off+j:=by unfold Addr.add;split<;>simp_all
      rw[hab,hc]at hc';cases hc'
      rw[hao]at hcu;have hmem:v∈el.flatten:=List.mem_of_getElem? hj;obtain⟨e0,he0,hve⟩:=List.mem_flatten.1 hmem;exact⟨(f1 e0 he0).one v hve,u',hcu,hr'⟩
     have hp:=r1.pushRo ⟨a.block,a.off,0⟩ el.flatten hrow;have hext:=grow_ext r1 ⟨a.block,a.off,0⟩;refine⟨_,X1++[.row el.flatten true],[.slice (H++X1).length 0 len el.length true 0],e1.trans hext,by rw[←List.append_assoc];exact hp,VRs.cons ?_ (VRs.nil _),?_⟩
     ·simp only[VR];refine⟨_,a.off,mm,a.spot,grow_at _ _ _,rfl,by omega,by omega,fun _=>l1.symm,fun h0=>⟨rfl,hspot (by omega)⟩,fun h0=>absurd h0 (by omega)⟩
     ·simp only[Fits,Fit];refine⟨_,_,rfl,.inr ⟨_,len,el,rfl,by rw[←List.append_assoc];simp,by omega,by omega,fun e' he'=> ?_⟩,rfl⟩;rw[←List.append_assoc];exact(f1 e' he').mono (app_mono _)
   ·cases h
  ·rename_i fs hu;obtain⟨cs',hc,h⟩:=obs h;split at h
   ·rename_i hl
    cases h
    obtain⟨xs,k,_,_,hcl,hxl,hf⟩:=DataW.trod_struct hu hx;have:=open_fields (fuel:=k) (cs:=cs) hB (open_flat hB n) fs.toList 0 cts hc (by omega) (fun f hf'=>by
     obtain⟨i,hi⟩:=List.mem_iff_getElem?.1 hf';have hil:i<fs.size:=by simpa using(ges hi).1
     rw[hf i f (by simpa using hi)];exact⟨_,List.getElem?_eq_getElem (by omega)⟩) m H hR
    simpa using this
   ·cases h
  ·cases h
def FitA (H:Heap)(cts:List CT)(agg:Bool)(v:IV):Prop :=
 match agg with
 | true=>∃ivs,v=.agg ivs/\Fits H cts ivs
 | false=>∃c,cts=[c]/\Fit H c v
theorem FitA.mono {H H':Heap}(h:∀(b:Nat) o,H[b]? =some o->H'[b]? =some o){cts:List CT}{agg:Bool}{v:IV}(hf:FitA H cts agg v):FitA H' cts agg v:=by
 cases agg with
 | true=>obtain⟨ivs,h1,h2⟩:=hf;exact⟨ivs,h1,h2.mono h⟩
 | false=>obtain⟨c,h1,h2⟩:=hf;exact⟨c,h1,h2.mono h⟩
structure AT where
 cts:List CT
 agg:Bool
def FitAll (H:Heap):List AT->List IV->Prop
 | [],vs=>vs=[]
 | a::ats,vs=>∃v r,vs=v::r/\FitA H a.cts a.agg v/\FitAll H ats r
def aggOf (P:Program)(t:TypeId):Bool:=match P.underlying t with
 | some (.struct _) | some (.array _ _)=>true
 | _=>false
def atOf (P:Program)(n:Nat)(t:TypeId):Option AT:=(flat P n t).map fun c=>⟨c,aggOf P t⟩
def atsOf (P:Program)(n:Nat):List TypeId->Option (List AT)
 | []=>some []
 | t::ts=>(atOf P n t).bind fun a=>(atsOf P n ts).bind fun ats=>some (a::ats)
theorem open_one (hB:B0=w.heap.size){n:Nat}{t:TypeId}{cts:List CT}(hfl:flat P n t=some cts){v:Value}{d:DataW K}{p:List MemPlace}{r:Reach}{b0:Nat}(hv:Value.okWide P w r b0 t v)(ht:DataW.Trod enc P w 0 (fun _=>true) held t v d p){m:Mp}(hR:Rel B0 w0 m H w) :
  ∃m' X iv,Ext m m'/\Rel B0 w0 m' (H++X) w/\VR m' iv v/\FitA (H++X) cts (aggOf P t) iv:=by
 obtain⟨fuel,hf⟩:=ht;obtain⟨m',X,ivs,h1,h2,h3,h4⟩:=open_flat hB n t cts hfl fuel _ _ hf m H hR
 cases ha:aggOf P t with
 | true =>
  have hagg:∃cs,v=.agg cs:=by
   unfold aggOf at ha;split at ha
   ·rename_i hu;simp only[Value.okWide,hu]at hv;obtain⟨cs,hv,_⟩:=hv;exact⟨cs,hv⟩
   ·rename_i hu;simp only[Value.okWide,hu]at hv;obtain⟨cs,hv,_⟩:=hv;exact⟨cs,hv⟩
   ·cases ha
  obtain⟨cs,rfl⟩:=hagg;exact⟨m',X,.agg ivs,h1,h2,by simp only[VR];exact⟨cs,rfl,by simpa[Value.cells]using h3⟩,⟨ivs,rfl,h4⟩⟩
 | false =>
  have hone:∃c,cts=[c]:=by
   cases n with
   | zero=>simp[flat]at hfl
   | succ n =>
    simp only[flat]at hfl;split at hfl
    ·cases hfl;exact⟨_,rfl⟩
    ·cases hfl;exact⟨_,rfl⟩
    ·cases hfl;exact⟨_,rfl⟩
    ·obtain⟨es,_,hfl⟩:=obs hfl;split at hfl
     ·cases hfl;exact⟨_,rfl⟩
     ·cases hfl
    ·rename_i fs hu;unfold aggOf at ha;rw[hu]at ha;cases ha
    ·cases hfl
  obtain⟨c,rfl⟩:=hone;simp only[Fits]at h4;obtain⟨iv,rr,rfl,h5,rfl⟩:=h4;simp only[VRs]at h3;obtain⟨u,us,h6,h7,h8⟩:=h3;subst h8;have hvc:v=u:=by
   have hna:∀cs,v≠ .agg cs:=by
    rintro cs rfl
    cases n with
    | zero=>simp[flat]at hfl
    | succ n =>
     simp only[flat]at hfl;simp only[Value.okWide]at hv;unfold aggOf at ha
     cases hu:P.underlying t with
     | none=>rw[hu]at hfl;cases hfl
     | some dd=>rw[hu]at hv ha;cases dd<;>simp_all [Cell.okWide,Cell.ok]
   cases v<;>simp_all [Value.cells]
  subst hvc;exact⟨m',X,iv,h1,h2,h7,⟨c,rfl,h5⟩⟩
theorem open_all (hB:B0=w.heap.size){n:Nat}{r:Reach}{b0:Nat}:∀{ts:List TypeId} {ats:List AT} {vs:List Value} {ds:List (DataW K)} {p:List MemPlace},atsOf P n ts=some ats ->
  (∀(j:Nat) t v,ts[j]? =some t->vs[j]? =some v->Value.okWide P w r b0 t v)->DataW.TrodAll enc P w 0 (fun _=>true) held ts vs ds p->∀{m:Mp} {H:Heap},Rel B0 w0 m H w ->
  ∃m' X ivs,Ext m m'/\Rel B0 w0 m' (H++X) w/\VRs m' ivs vs/\FitAll (H++X) ats ivs
 | [],ats,vs,ds,p,ha,hv,ht,m,H,hR=>by
  simp only[atsOf]at ha;cases ha
  cases vs with
  | nil=>exact⟨m,[],[],Ext.refl m,by simpa using hR,VRs.nil m,rfl⟩
  | cons v vs=>cases ds<;>simp[DataW.TrodAll]at ht
 | t::ts,ats,vs,ds,p,ha,hv,ht,m,H,hR=>by
  simp only[atsOf]at ha;obtain⟨a,ha1,ha⟩:=obs ha;obtain⟨ats',ha2,ha⟩:=obs ha
  cases ha
  cases vs with
  | nil=>cases ds<;>simp[DataW.TrodAll]at ht
  | cons v vs =>
   cases ds with
   | nil=>simp[DataW.TrodAll]at ht
   | cons d ds =>
    simp only[DataW.TrodAll]at ht;obtain⟨p1,q1,t1,t2,_⟩:=ht;simp only[atOf,Option.map_eq_some_iff]at ha1;obtain⟨c,hc,rfl⟩:=ha1;obtain⟨m1,X1,iv,e1,r1,v1,f1⟩:=open_one hB hc (hv 0 t v rfl rfl) t1 hR;obtain⟨m2,X2,ivs,e2,r2,v2,f2⟩:=open_all hB ha2 (fun j t' v' h1 h2=>hv (j+1) t' v' (by simpa using h1) (by simpa using h2)) t2 r1;refine⟨m2,X1++X2,iv::ivs,e1.trans e2,by simpa using r2,VRs.cons (v1.ext e2) v2,⟨iv,ivs,rfl,?_,?_⟩⟩
    ·rw[←List.append_assoc];exact f1.mono (app_mono X2)
    ·rw[←List.append_assoc];exact f2
end
end Go.Shade
namespace Go.Shade
open Go.RowKit Go.ChangeShapes Go.WideShapes Go.ChangeAt
def T0 :Table:=fun _=>none
theorem soundT0 (P:Program):SoundT P T0:=fun f g h=>by cases h
theorem trodAll_len {K:Type}{enc:TypeId×Value->K}{P:Program}{w:World}{base:Nat}{spare:Nat->Bool}{held:Bool}:∀{ts:List TypeId} {vs:List Value} {ds:List (DataW K)} {p:List MemPlace},DataW.TrodAll enc P w base spare held ts vs ds p->ds.length=ts.length
 | [],[],[],p,h=>rfl
 | t::ts,v::vs,d::ds,p,h=>by
  simp only[DataW.TrodAll]at h;obtain⟨p1,q1,⟨n,h1⟩,h2,rfl⟩:=h;simp[trodAll_len h2]
 | [],_::_,_,_,h=>by simp[DataW.TrodAll]at h
 | [],[],_::_,_,h=>by simp[DataW.TrodAll]at h
 | _::_,[],_,_,h=>by simp[DataW.TrodAll]at h
 | _::_,_::_,[],_,h=>by simp[DataW.TrodAll]at h
theorem trodAll_stays {K:Type}{enc:TypeId×Value->K}{P:Program}{W W':World}(hl:laidOutB P=true)(hb:Below W.heap.size W W'):∀{ts:List TypeId} {vs:List Value} {ds:List (DataW K)} {p:List MemPlace},
  (ts.all fun t=>P.readableRec t&&decide (t<P.types.size))=true->DataW.TrodAll enc P W 0 (fun _=>true) true ts vs ds p->DataW.TrodAll enc P W' 0 (fun b=>decide (b<W.heap.size)) true ts vs ds p
 | [],[],[],p,_,h=>h
 | t::ts,v::vs,d::ds,p,hr,h=>by
  simp only[List.all_cons,Bool.and_eq_true,decide_eq_true_eq]at hr;simp only[DataW.TrodAll]at h ⊢;obtain⟨p1,q1,h1,h2,rfl⟩:=h;refine⟨p1,q1,Below.trod hl hr.1.1 hr.1.2 h1 hb (by obtain⟨n,hn⟩:=h1;exact DataW.trod_lt _ _ _ _ hn),trodAll_stays hl hb ?_ h2,rfl⟩;exact hr.2
 | [],_::_,_,_,_,h=>by simp[DataW.TrodAll]at h
 | [],[],_::_,_,_,h=>by simp[DataW.TrodAll]at h
 | _::_,[],_,_,_,h=>by simp[DataW.TrodAll]at h
 | _::_,_::_,[],_,_,h=>by simp[DataW.TrodAll]at h
theorem rel_start (W:World):Rel W.heap.size W (fun _=>none) [] W :=
 ⟨Below.refl _ _,Nat.le_refl _,(fun _ _ h=>by cases h),(fun i o h=>by simp at h),(fun i j o p l k h=>by simp at h)⟩
theorem post_same' {K:Type}{enc:TypeId×Value->K}{P:Program}{fn:Func}{s:ChangeSpec}{tb:TypeId}(hvars:s.vars=[])(hrt:fn.resultTypes.toList=[tb])(hsz:fn.resultTypes.size=1)(htb:P.underlying tb=some .bool)
  (hs:∀ds:List (DataW K),ds.length=fn.params.toList.length->s.fn K ds= { results:=[.lit (.bool true)],args:=ds }) (hl:laidOutB P=true)
  (hr:(fn.params.toList.all fun t=>P.readableRec t&&decide (t<P.types.size))=true) {W W':World} {args:Array Value} {ds gs:List (DataW K)} {before:List MemPlace} (hW:DataW.Whole enc P fn.params.toList s.vars false W args.toList ds gs before) (bel:Below W.heap.size W W') :
  s.post enc P fn false true false false W args (.bool true) W':=by
 have hW':=hW;obtain⟨p,q,hA,hV,rfl,hfz,hnd⟩:=hW;rw[hvars]at hV;obtain⟨rfl,rfl⟩:=trodVars_none hV;have hfn:=hs ds (trodAll_len hA);refine⟨ds,[],_,[],p,[],hW',?_,?_,?_,bel.frame _,fun h=>by cases h⟩
 ·rw[List.append_nil,hfn,hrt,hsz];exact trodAll_mk1 (shut_bool htb _)
 ·rw[List.append_nil,hfn];exact trodAll_stays hl bel hr hA
 ·rw[List.append_nil,hfn,hvars];rfl
end Go.Shade
namespace Go.Shade
open Go.RowKit
variable {n : Nat}
section
variable {cal : FuncId -> Bool} {O : Oracle}
theorem lopV_W {p:LO}{E:Sg}{H:Heap}{r:IV×Heap}(h:lopV cal O p E H=some r):lopW cal O p E H=some [r]:=by
 have sp:isSp p.op=true->lwanted p E=false/\r=(.tuple [],H):=by
  intro hx;have hno:lstepV O H (lstep cal H E p.op)=none:=by
   cases ho:p.op<;>rw[ho]at hx<;>first | rfl | (simp[isSp]at hx)
  unfold lopV at h;unfold lwanted
  cases hg:p.g with
  | none=>rw[hg]at h;simp only at h;rw[hno]at h;cases h
  | some q =>
   obtain⟨t,w⟩:=q;rw[hg]at h;simp only at h ⊢
   cases hb:isB (lk E t) w with
   | true=>rw[hb]at h;simp only[if_true]at h;rw[hno]at h;cases h
   | false=>rw[hb]at h;simp only[Bool.false_eq_true,if_false]at h;cases h;exact⟨rfl,rfl⟩
 unfold lopW;split
 ·rename_i x hx;obtain⟨a,b⟩:=sp (by rw[hx];rfl);rw[a,b];rfl
 ·rename_i x hx;obtain⟨a,b⟩:=sp (by rw[hx];rfl);rw[a,b];rfl
 ·rename_i x y hx;obtain⟨a,b⟩:=sp (by rw[hx];rfl);rw[a,b];rfl
 ·rw[h];rfl
theorem lops_W {K:Sg->Heap->Prop}:∀{ps:List LO} {E:Sg} {H:Heap} {r:Sg×Heap},lops cal O ps E H=some r->K r.1 r.2->lopsW cal O ps E H K
 | [],E,H,r,h,hk=>by cases h;exact hk
 | p::ps,E,H,r,h,hk=>by
  obtain⟨q,h1,h2⟩:=obs h;exact⟨[q],lopV_W h1,fun x hx=>by rw[List.mem_singleton.1 hx];exact lops_W h2 hk⟩
theorem lexec_W :∀{c:LC} {E:Sg} {H:Heap} {x:IX} {σ':Sg} {H':Heap} {k:IX->Sg->Heap->Prop},lexec cal O n c E H=some (x,σ',H')->k x σ' H'->lxW cal O n c E H k:=by
 intro c
 induction c with
 | skip=>intro E H x σ' H' k h hk;cases h;exact hk
 | alt a b _ _=>intro E H x σ' H' k h hk;cases h
 | reg l =>
  intro E H x σ' H' k h hk;obtain⟨r,h1,h2⟩:=obs h
  cases h2
  exact lops_W h1 hk
 | drw l ps =>
  intro E H x σ' H' k h hk;obtain⟨r,h1,h2⟩:=obs h
  cases h2
  exact⟨r,h1,hk⟩
 | seq a b iha ihb =>
  intro E H x σ' H' k h hk;obtain⟨⟨y,σ1,H1⟩,h1,h2⟩:=obs h;refine iha h1 ?_
  cases y with
  | normal=>exact ihb h2 hk
  | exit id=>cases h2;exact hk
  | ret=>cases h2;exact hk
 | cond c a b iha ihb =>
  intro E H x σ' H' k h hk;simp only[lexec]at h;simp only[lxW];split at h
  ·rename_i hc;first | exact iha h hk | (rw[hc];exact iha h hk)
  ·rename_i hc;first | exact ihb h hk | (rw[hc];exact ihb h hk)
  ·cases h
 | block id a ih =>
  intro E H x σ' H' k h hk;obtain⟨⟨y,σ1,H1⟩,h1,h2⟩:=obs h;refine ih h1 ?_
  cases y with
  | normal=>cases h2;exact hk
  | exit id' =>
   simp only at h2 ⊢;split at h2
   ·rename_i e;cases h2;rw[if_pos e];exact hk
   ·rename_i e;cases h2;rw[if_neg e];exact hk
  | ret=>cases h2;exact hk
 | loop a ih =>
  intro E H x σ' H' k h hk;simp only[lexec]at h;simp only[lxW];have key:∀(j:Nat) (E:Sg) (H:Heap),piter (lexec cal O n a) j E H=some (x,σ',H')->itW (lxW cal O n a) j E H k:=by
   intro j
   induction j with
   | zero=>intro E H h;cases h
   | succ j ihj =>
    intro E H h;simp only[piter]at h;simp only[itW];obtain⟨⟨y,σ1,H1⟩,h1,h2⟩:=obs h;refine ih h1 ?_
    cases y with
    | normal=>exact ihj _ _ h2
    | exit id=>cases h2;exact hk
    | ret=>cases h2;exact hk
  exact key n E H h
 | exit id=>intro E H x σ' H' k h hk;cases h;exact hk
 | ret=>intro E H x σ' H' k h hk;cases h;exact hk
 | bad=>intro E H x σ' H' k h hk;cases h
theorem lxK_W {n:Nat}{c:LC}{E:Sg}{H:Heap}{k:KT (IV×Heap)}{Q:Out->Prop}{K:IX->Sg->Heap->Prop}(h:Wp (lxK cal O n c E H k) Q)(hk:∀x σ' H' r,k x σ' H'=some r->Q r->K x σ' H'):lxW cal O n c E H K:=by
 obtain⟨r,h1,h2⟩:=h;rw[lxK_eq]at h1;obtain⟨⟨x,σ',H'⟩,h3,h4⟩:=obs h1;exact lexec_W h3 (hk _ _ _ _ h4 h2)
def lapp' :LC->LC->LC
 | .seq a b,c=>.seq a (lapp' b c)
 | a,c=>.seq a c
end
def lappN :Nat->LC->LC->LC
 | n+1,.seq a b,c=>.seq a (lappN n b c)
 | _,a,c=>.seq a c
theorem lappN_W {cal:FuncId->Bool}{O:Oracle}{c:LC}:∀{j:Nat} {a:LC} {E:Sg} {H:Heap} {k:IX->Sg->Heap->Prop},lxW cal O n (.seq a c) E H k->lxW cal O n (lappN j a c) E H k:=by
 intro j
 induction j with
 | zero=>intro a E H k h;cases a<;>exact h
 | succ j ih =>
  intro a E H k h
  cases a with
  | seq a b =>
   simp only[lappN,lxW]at h ⊢;refine lxW_mono (fun x E H hx=> ?_) h
   cases x with
   | normal=>exact ih hx
   | exit id=>exact hx
   | ret=>exact hx
  | _=>exact h
theorem lopW_q {cal:FuncId->Bool}{O:Oracle}{d:Nat}{op:LOp}{E:Sg}{H:Heap}{v:IV}(h:isLE op=false)(hq:lq H E op=some v):lopW cal O ⟨some d,op,none⟩ E H=some [(v,H)]:=by
 refine lopV_W ?_;show lstepV O H (lstep cal H E op)=_;unfold lstep;rw[h,if_neg (by simp),hq];rfl
def GoodW (P:Program)(f:FuncId)(ats:List AT):Prop:=∀(H:Heap) (ivs:List IV),FitAll H ats ivs->SimW P f ivs H fun r _=>r=.bool true
theorem calls_goodW {P:Program}{f:FuncId}{ats:List AT}(hg:GoodW P f ats){K:Type}{enc:TypeId×Value->K}{ts:List TypeId}(ha:atsOf P n ts=some ats){W:World}{args:Array Value}{ds:List (DataW K)}{p:List MemPlace}{r:Reach}{b0:Nat}(hv:∀(j:Nat) t v,ts[j]? =some t->args.toList[j]? =some v->Value.okWide P W r b0 t v)(ht:DataW.TrodAll enc P W 0 (fun _=>true) true ts args.toList ds p) :
  Calls P f args W fun e W'=>e=.returned (.bool true)/\Below W.heap.size W W':=by
 obtain⟨m,X,ivs,_,hR,hV,hF⟩:=open_all rfl ha hv ht (rel_start W);refine(hg _ ivs hF W.heap.size W W m args hR hV).mono ?_;rintro e W' ⟨r,H',m',u,rfl,rfl,_,hR',hu⟩;simp only[VR]at hu;subst hu;exact⟨rfl,hR'.below⟩
end Go.Shade
namespace Go.Shade
variable {b j : Nat}
abbrev Pr :=IV×IV
def fl :List Pr->List IV
 | []=>[]
 | p::l=>p.1::p.2::fl l
theorem fl_length :∀l:List Pr,(fl l).length=2*l.length
 | []=>rfl
 | p::l=>by simp[fl,fl_length l];omega
theorem fl_append :∀a b:List Pr,fl (a++b)=fl a++fl b
 | [],b=>rfl
 | p::a,b=>by simp[fl,fl_append a b]
theorem fl_drop :∀(l:List Pr) (n:Nat),(fl l).drop (2*n)=fl (l.drop n)
 | l,0=>rfl
 | [],n+1=>by simp[fl]
 | p::l,n+1=>by
  rw[show 2*(n+1)=2*n+2 by omega];simp only[fl,List.drop_succ_cons];exact fl_drop l n
theorem fl_take :∀(l:List Pr) (n:Nat),(fl l).take (2*n)=fl (l.take n)
 | l,0=>rfl
 | [],n+1=>by simp[fl]
 | p::l,n+1=>by
  rw[show 2*(n+1)=2*n+2 by omega];simp only[fl,List.take_succ_cons,fl_take l n]
def one2 (l:List Pr):Prop:=∀p∈l,p.1.one=true/\p.2.one=true
theorem fl_one :∀{l:List Pr},one2 l->(fl l).all IV.one=true
 | [],_=>rfl
 | p::l,h=>by
  simp only[fl,List.all_cons,(h p (by simp)).1,(h p (by simp)).2,Bool.true_and];exact fl_one fun q hq=>h q (List.mem_cons_of_mem _ hq)
theorem fl_put {l:List Pr}(h:j<l.length)(p:Pr):putAt (fl l) (2*j) [p.1,p.2]=fl (l.set j p):=by
 unfold putAt;simp only[List.length_cons,List.length_nil];rw[show 2*j+(0+1+1)=2*(j+1) by omega,fl_take,fl_drop,List.set_eq_take_append_cons_drop,if_pos h,fl_append];simp[fl]
theorem fl_ld {l:List Pr}{p:Pr}(h:l[j]? =some p):((fl l).drop (2*j)).take 2=[p.1,p.2]:=by
 rw[fl_drop];have hj:=(ges h).1;rw[List.drop_eq_getElem_cons hj];have:l[j]=p:=(ges h).2;simp[fl,this]
theorem ld2 {H:Heap}{l:List Pr}{p:Pr}(hb:H[b]? =some (.row (fl l) false))(h:l[j]? =some p):lloadn H 2 (.ptr b (2*j))=some (.agg [p.1,p.2]):=by
 have hj:=(ges h).1;rw[lloadn_ptr,hb,ogn_row,if_pos (by rw[fl_length];omega),fl_ld h]
theorem st2 {H:Heap}{l:List Pr}{p:Pr}(hb:H[b]? =some (.row (fl l) false))(hj:j<l.length)(h1:p.1.one=true)(h2:p.2.one=true):lstV H 2 (.ptr b (2*j)) (.agg [p.1,p.2])=some (.tuple [],H.set b (.row (fl (l.set j p)) false)):=by
 rw[lstV_ptr,hb];unfold putO;simp only[isTuple,IV.cells];rw[if_pos ⟨trivial,rfl,by rw[fl_length];simp;omega,by simp[h1,h2]⟩,fl_put hj];rfl
def swp (l:List Pr)(i j:Nat):List Pr:=match l[i]?,l[j]? with
 | some p,some q=>(l.set i q).set j p
 | _,_=>l
def revAt :Nat->List Pr->Nat->Nat->List Pr
 | 0,l,_,_=>l
 | m+1,l,i,j=>if i<j then revAt m (swp l i j) (i+1) (j - 1)else l
theorem swp_length (l:List Pr)(i j:Nat):(swp l i j).length=l.length:=by unfold swp;split<;>simp
theorem swp_get {l:List Pr}{i:Nat}(hi:i<l.length)(hj:j<l.length)(hij:i<j)(p:Nat):(swp l i j)[p]? =if p=i then l[j]? else if p=j then l[i]? else l[p]? :=by
 unfold swp;rw[List.getElem?_eq_getElem hi,List.getElem?_eq_getElem hj];simp only;rw[List.getElem?_set,List.getElem?_set];simp only[List.length_set];by_cases e1:j=p
 ·subst e1;rw[if_pos rfl,if_pos hj,if_neg (by omega),if_pos rfl]
 ·rw[if_neg e1];by_cases e2:i=p
  ·subst e2;rw[if_pos rfl,if_pos hi,if_pos rfl]
  ·rw[if_neg e2,if_neg (by omega),if_neg (by omega)]
theorem revAt_get :∀(m:Nat) (l:List Pr) (i j:Nat),j<l.length->j<i+2*m->∀p,(revAt m l i j)[p]? =if i<=p/\p<=j then l[i+j - p]? else l[p]?
 | 0,l,i,j,hj,hm,p=>by
  simp only[revAt];rw[if_neg (by omega)]
 | m+1,l,i,j,hj,hm,p=>by
  simp only[revAt];by_cases hij:i<j
  ·rw[if_pos hij,revAt_get m (swp l i j) (i+1) (j - 1) (by rw[swp_length];omega) (by omega)];have hs:=swp_get (l:=l) (by omega) hj hij;by_cases h1:i+1<=p/\p<=j - 1
   ·rw[if_pos h1,if_pos (by omega),hs,if_neg (by omega),if_neg (by omega)]
    congr 1;omega
   ·rw[if_neg h1,hs];by_cases h2:p=i
    ·subst h2;rw[if_pos rfl,if_pos (by omega)];congr 1;omega
    ·rw[if_neg h2];by_cases h3:p=j
     ·subst h3;rw[if_pos rfl,if_pos (by omega)];congr 1;omega
     ·rw[if_neg h3,if_neg (by omega)]
  ·rw[if_neg hij];by_cases h1:i<=p/\p<=j
   ·rw[if_pos h1];congr 1;omega
   ·rw[if_neg h1]
theorem swp_one {l:List Pr}{i:Nat}(h:one2 l):one2 (swp l i j):=by
 unfold swp;split
 ·rename_i p q hp hq;intro x hx;rcases List.mem_or_eq_of_mem_set hx with hx | rfl
  ·rcases List.mem_or_eq_of_mem_set hx with hx | rfl
   ·exact h x hx
   ·exact h _ (List.mem_of_getElem? hq)
  ·exact h _ (List.mem_of_getElem? hp)
 ·exact h
theorem List.set_getElem?_self' {α:Type}:∀{l:List α} {i:Nat} {a:α},l[i]? =some a->l.set i a=l
 | [],i,a,h=>by simp at h
 | x::l,0,a,h=>by simp at h;simp[h]
 | x::l,i+1,a,h=>by simp at h;simp[List.set_getElem?_self' h]
section
variable {cal : FuncId -> Bool} {O : Oracle} {N : Nat}
theorem lix2 {b o n lb:Nat}{ex:Bool}{j:Nat}(hj:j<n):lix 2 (.slice b (2*o) n lb ex 2) (.int .i64 (j:Nat))=some (.ptr b (2*(o+j))):=by
 rw[lix_slice,if_pos (by omega),Int.toNat_natCast,show 2*o+j*2=2*(o+j) by omega]
theorem rev_go {o n lb:Nat}{ex:Bool}(hn9:n<4000000000000):∀(m i j k:Nat) (H:Heap) (l:List Pr),H[b]? =some (.row (fl l) false)->one2 l->i+j+1=n->o+n<=l.length->j<i+2*m->m<k->
  Wp (sRevC0S cal O N (fun H=>some (.tuple [],H)) k (.slice b (2*o) n lb ex 2) (.int .i64 (i:Nat)) (.int .i64 (j:Nat)) H) fun r=>r=(.tuple [],H.set b (.row (fl (revAt m l (o+i) (o+j))) false)):=by
 intro m
 induction m with
 | zero =>
  intro i j k H l hb h1 hij hl hm hk;obtain⟨k,rfl⟩:∃k',k=k'+1:=⟨k - 1,by omega⟩;rw[sRevC0S,lbin_lss,ob_some,decide_eq_false (by omega),cnd_false];exact Wp.ret (by simp only[revAt];rw[List.set_getElem?_self' hb])
 | succ m ih =>
  intro i j k H l hb h1 hij hl hm hk;obtain⟨k,rfl⟩:∃k',k=k'+1:=⟨k - 1,by omega⟩;rw[sRevC0S,lbin_lss,ob_some];by_cases hlt:i<j
  ·have e0:revAt (m+1) l (o+i) (o+j)=revAt m (swp l (o+i) (o+j)) (o+(i+1)) (o+(j - 1)):=by
    simp only[revAt];rw[if_pos (by omega),show o+i+1=o+(i+1) by omega,show o+j - 1=o+(j - 1) by omega]
   rw[decide_eq_true (by omega),cnd_true,lix2 (by omega),ob_some];have hpi:=List.getElem?_eq_getElem (l:=l) (i:=o+i) (by omega);have hpj:=List.getElem?_eq_getElem (l:=l) (i:=o+j) (by omega);have o1:=h1 _ (List.mem_of_getElem? hpi);have o2:=h1 _ (List.mem_of_getElem? hpj);have hsw:swp l (o+i) (o+j)=(l.set (o+i) l[o+j]).set (o+j) l[o+i]:=by unfold swp;rw[hpi,hpj]
   generalize l[o+i]=p at *;generalize l[o+j]=q at *;rw[ld2 hb hpj,ob_some,lix2 (by omega),ob_some,ld2 hb hpi,ob_some,ob_some,st2 hb (by omega) o2.1 o2.2,ob_some];simp only[ob_some];rw[st2 (setAt hb) (by rw[List.length_set];omega) o1.1 o1.2,ob_some];simp only;rw[List.set_set,←hsw,lbin_add,ob_some,wrap_i64 (by omega) (by omega),lbin_sub,ob_some,wrap_i64 (by omega) (by omega),show((i:Nat):Int)+1=((i+1:Nat):Int) by omega,show((j:Nat):Int) - 1=((j - 1:Nat):Int) by omega];refine(ih (i+1) (j - 1) k _ (swp l (o+i) (o+j)) (setAt hb) (swp_one h1) (by omega) (by rw[swp_length];exact hl) (by omega) (by omega)).mono ?_;rintro r rfl;rw[List.set_set,e0]
  ·rw[decide_eq_false (by omega),cnd_false];have e0:revAt (m+1) l (o+i) (o+j)=l:=by simp only[revAt];rw[if_neg (by omega)]
   exact Wp.ret (by rw[e0,List.set_getElem?_self' hb])
end
end Go.Shade
namespace Go.Shade
variable {H : Heap} {b lb n o r : Nat} {ex : Bool} {l : List Pr}
def rv (l:List Pr)(o n:Nat):List Pr:=l.take o++((l.drop o).take n).reverse++l.drop (o+n)
theorem rv_eq (h1:1<=n)(h:o+n<=l.length):revAt n l o (o+n - 1)=rv l o n:=by
 apply List.ext_getElem?;intro p;rw[revAt_get n l o (o+n - 1) (by omega) (by omega)];unfold rv;have l1:(l.take o).length=o:=by rw[List.length_take];omega
 have l2:((l.drop o).take n).length=n:=by rw[List.length_take,List.length_drop];omega
 rw[List.getElem?_append,List.getElem?_append];simp only[List.length_append,List.length_reverse,l1,l2];by_cases c1:p<o
 ·rw[if_neg (by omega),if_pos (by omega),if_pos c1,List.getElem?_take,if_pos c1]
 ·by_cases c2:p<o+n
  ·rw[if_pos (by omega),if_pos c2,if_neg c1,List.getElem?_reverse (by omega),l2,List.getElem?_take,if_pos (by omega),List.getElem?_drop]
   congr 1;omega
  ·rw[if_neg (by omega),if_neg c2,List.getElem?_drop]
   congr 1;omega
theorem rv_length (h:o+n<=l.length):(rv l o n).length=l.length:=by
 unfold rv;simp only[List.length_append,List.length_reverse,List.length_take,List.length_drop];omega
theorem rv_one (h:one2 l):one2 (rv l o n):=by
 intro p hp;unfold rv at hp;rcases List.mem_append.1 hp with hp | hp
 ·rcases List.mem_append.1 hp with hp | hp
  ·exact h p (List.mem_of_mem_take hp)
  ·exact h p (List.mem_of_mem_drop (List.mem_of_mem_take (List.mem_reverse.1 hp)))
 ·exact h p (List.mem_of_mem_drop hp)
theorem rv_mid (x m y:List Pr):rv (x++m++y) x.length m.length=x++m.reverse++y:=by
 unfold rv;simp[List.append_assoc,List.drop_append,List.take_append]
theorem rv_rot (x a b y:List Pr):rv (rv (rv (x++a++b++y) x.length a.length) (x.length+a.length) b.length) x.length (a.length+b.length)=x++b++a++y:=by
 have e1:rv (x++a++b++y) x.length a.length=x++a.reverse++b++y:=by
  have:=rv_mid x a (b++y)
  simpa[List.append_assoc]using this
 have e2:rv (x++a.reverse++b++y) (x.length+a.length) b.length=x++a.reverse++b.reverse++y:=by
  have:=rv_mid (x++a.reverse) b y
  simpa[List.append_assoc]using this
 have e3:rv (x++a.reverse++b.reverse++y) x.length (a.length+b.length)=x++b++a++y:=by
  have:=rv_mid x (a.reverse++b.reverse) y
  simpa[List.append_assoc]using this
 rw[e1,e2,e3]
section
variable {cal : FuncId -> Bool} {O : Oracle} {N : Nat}
def RevOk (O:Oracle)(f:FuncId):Prop:=∀(H:Heap) (b o n lb:Nat) (ex:Bool) (l:List Pr),H[b]? =some (.row (fl l) false)->one2 l->1<=n->o+n<=l.length->n<=1000000->O f [.slice b (2*o) n lb ex 2] H=some (.tuple [],H.set b (.row (fl (rv l o n)) false))
theorem rev_s (hN:1000000<N)(hb:H[b]? =some (.row (fl l) false))(h1:one2 l)(hn:1<=n)(hl:o+n<=l.length)(hle:n<=1000000):sRevS cal O N (.slice b (2*o) n lb ex 2) H=some (.tuple [],H.set b (.row (fl (rv l o n)) false)):=by
 unfold sRevS sRevC2S sRevC1S;rw[llen_slice,ob_some,lbin_sub,ob_some,wrap_i64 (by omega) (by omega),show((n:Nat):Int) - 1=((n - 1:Nat):Int) by omega];obtain⟨r,g1,g2⟩:=rev_go (cal:=cal) (O:=O) (lb:=lb) (ex:=ex) (by omega:n<4000000000000) n 0 (n - 1) N H l hb h1 (by omega) hl (by omega) (by omega);rw[show((0:Nat):Int)=0 from rfl]at g1;have e:revAt n l (o+0) (o+(n - 1))=rv l o n:=by rw[←rv_eq hn hl,Nat.add_zero];congr 1;omega
 rw[e]at g2;rw[←g2];exact g1
def rot (l:List Pr)(o n r:Nat):List Pr:=l.take o++(l.drop (o+r)).take (n - r)++(l.drop o).take r++l.drop (o+n)
theorem rot_eq (hr:r<=n)(h:o+n<=l.length):rv (rv (rv l o r) (o+r) (n - r)) o n=rot l o n r:=by
 have hl:l=l.take o++(l.drop o).take r++(l.drop (o+r)).take (n - r)++l.drop (o+n):=by
  have a1:l.drop (o+r)=(l.drop (o+r)).take (n - r)++l.drop (o+n):=by
   have:=(List.take_append_drop (n - r) (l.drop (o+r))).symm;rw[List.drop_drop,show o+r+(n - r)=o+n by omega]at this;exact this
  have a2:l.drop o=(l.drop o).take r++l.drop (o+r):=by
   have:=(List.take_append_drop r (l.drop o)).symm;rw[List.drop_drop]at this;exact this
  have a3:=(List.take_append_drop o l).symm;rw[a2,a1]at a3
  simpa[List.append_assoc]using a3
 have:=rv_rot (l.take o) ((l.drop o).take r) ((l.drop (o+r)).take (n - r)) (l.drop (o+n));have l1:(l.take o).length=o:=by rw[List.length_take];omega
 have l2:((l.drop o).take r).length=r:=by rw[List.length_take,List.length_drop];omega
 have l3:((l.drop (o+r)).take (n - r)).length=n - r:=by rw[List.length_take,List.length_drop];omega
 rw[l1,l2,l3,←hl,show r+(n - r)=n by omega]at this;rw[this];rfl
def RotOk (O:Oracle)(f:FuncId):Prop:=∀(H:Heap) (b o n lb r:Nat) (ex:Bool) (l:List Pr),H[b]? =some (.row (fl l) false)->one2 l->1<=r->r<n->n<=lb->o+n<=l.length->n<=1000000->O f [.slice b (2*o) n lb ex 2,.int .i64 (r:Nat)] H=some (.tuple [],H.set b (.row (fl (rot l o n r)) false))
theorem rotl_s {fr:FuncId}(hv:RevOk O fr)(hb:H[b]? =some (.row (fl l) false))(h1:one2 l)(hr:1<=r)(hrn:r<n)(hlb:n<=lb)(hl:o+n<=l.length)(hle:n<=1000000):sRolS cal O N fr (.slice b (2*o) n lb ex 2) (.int .i64 (r:Nat)) H=some (.tuple [],H.set b (.row (fl (rot l o n r)) false)):=by
 unfold sRolS;have s1:lslice H (.slice 2) (.slice b (2*o) n lb ex 2) none (some (.int .i64 (r:Nat))) none=some (.slice b (2*o) r lb ex 2):=by
  simp only[lslice,bnd,Option.bind_some];simp;omega
 have s2:∀K:Heap,lslice K (.slice 2) (.slice b (2*o) n lb ex 2) (some (.int .i64 (r:Nat))) none none=some (.slice b (2*(o+r)) (n - r) (lb - r) ex 2):=by
  intro K;simp only[lslice,bnd,Option.bind_some];simp;omega
 rw[s1,ob_some,hv H b o r lb ex l hb h1 hr (by omega) (by omega),ob_some];simp only;rw[s2,ob_some,hv _ b (o+r) (n - r) (lb - r) ex (rv l o r) (setAt hb) (rv_one h1) (by omega) (by rw[rv_length (by omega)];omega) (by omega),ob_some];simp only;rw[List.set_set,hv _ b o n lb ex (rv (rv l o r) (o+r) (n - r)) (setAt hb) (rv_one (rv_one h1)) (by omega) (by rw[rv_length (by rw[rv_length (by omega)];omega),rv_length (by omega)];exact hl) hle,ob_some];simp only;rw[List.set_set,rot_eq (by omega) hl]
theorem rotr_s {fl':FuncId}(hv:RotOk O fl')(hb:H[b]? =some (.row (fl l) false))(h1:one2 l)(hr:1<=r)(hrn:r<n)(hlb:n<=lb)(hl:o+n<=l.length)(hle:n<=1000000):sRorS cal O N fl' (.slice b (2*o) n lb ex 2) (.int .i64 (r:Nat)) H=some (.tuple [],H.set b (.row (fl (rot l o n (n - r))) false)):=by
 unfold sRorS;rw[llen_slice,ob_some,lbin_sub,ob_some,wrap_i64 (by omega) (by omega),show((n:Nat):Int) - ((r:Nat):Int)=((n - r:Nat):Int) by omega,hv H b o n lb (n - r) ex l hb h1 (by omega) (by omega) hlb hl hle,ob_some]
end
end Go.Shade
namespace Go.Shade
variable {k : KT (IV × Heap)}
def sInsXC0 (csRor:FuncId):LC:=.seq (.reg [
  ⟨(some 6),(.mv (.k .nilSlice)),none⟩]) (.seq (.reg [
  ⟨(some 10),(.mv (.t 0)),none⟩,
  ⟨(some 11),(.mv (.t 1)),none⟩,
  ⟨(some 12),(.slc (.slice 2) (.t 10) (some (.t 11)) none none),none⟩])
 (.seq (.reg [
  ⟨(some 13),(.mv (.t 2)),none⟩,
  ⟨(some 14),(.len .slice (.t 13)),none⟩,
  ⟨(some 7),(.mv (.t 14)),none⟩])
 (.seq (.seq (.reg [
  ⟨(some 15),(.mv (.t 7)),none⟩,
  ⟨(some 16),(.bin .eql (.t 15) (.k (.int .i64 0))),none⟩])
 (.cond (.t 16) (.seq (.reg [
  ⟨(some 17),(.mv (.t 0)),none⟩,
  ⟨(some 6),(.mv (.t 17)),none⟩])
 .ret)
 .skip))
 (.seq (.reg [
  ⟨(some 18),(.mv (.t 0)),none⟩,
  ⟨(some 19),(.len .slice (.t 18)),none⟩,
  ⟨(some 8),(.mv (.t 19)),none⟩])
 (.seq (.seq (.reg [
  ⟨(some 20),(.mv (.t 1)),none⟩,
  ⟨(some 21),(.mv (.t 8)),none⟩,
  ⟨(some 22),(.bin .eql (.t 20) (.t 21)),none⟩])
 (.cond (.t 22) (.seq (.reg [
  ⟨(some 23),(.mv (.t 0)),none⟩,
  ⟨(some 24),(.mv (.t 2)),none⟩,
  ⟨(some 25),(.app 2 24 (.t 23) (.t 24)),none⟩,
  ⟨(some 6),(.mv (.t 25)),none⟩])
 .ret)
 .skip))
 (.seq (.seq (.reg [
  ⟨(some 26),(.mv (.t 8)),none⟩,
  ⟨(some 27),(.mv (.t 7)),none⟩,
  ⟨(some 28),(.bin .add (.t 26) (.t 27)),none⟩,
  ⟨(some 29),(.mv (.t 0)),none⟩,
  ⟨(some 30),(.cap (.t 29)),none⟩,
  ⟨(some 31),(.bin .gtr (.t 28) (.t 30)),none⟩])
 (.cond (.t 31) (.seq (.reg [
  ⟨(some 32),(.mv (.t 0)),none⟩,
  ⟨(some 33),(.mv (.t 1)),none⟩,
  ⟨(some 34),(.slc (.slice 2) (.t 32) none (some (.t 33)) none),none⟩,
  ⟨(some 35),(.mv (.t 8)),none⟩,
  ⟨(some 36),(.mv (.t 7)),none⟩,
  ⟨(some 37),(.bin .add (.t 35) (.t 36)),none⟩,
  ⟨(some 38),(.mv (.t 1)),none⟩,
  ⟨(some 39),(.bin .sub (.t 37) (.t 38)),none⟩,
  ⟨(some 40),(.appz 2 24 [(.str []),(.int .i64 0)] (.t 34) (.t 39)),none⟩,
  ⟨(some 9),(.mv (.t 40)),none⟩])
 (.seq (.reg [
  ⟨(some 41),(.mv (.t 9)),none⟩,
  ⟨(some 42),(.mv (.t 1)),none⟩,
  ⟨(some 43),(.slc (.slice 2) (.t 41) (some (.t 42)) none none),none⟩,
  ⟨(some 44),(.mv (.t 2)),none⟩,
  ⟨(some 45),(.cpy 2 (.t 43) (.t 44)),none⟩])
 (.seq (.drw [
  ⟨(some 46),(.mv (.t 9)),none⟩,
  ⟨(some 47),(.mv (.t 1)),none⟩,
  ⟨(some 48),(.mv (.t 7)),none⟩,
  ⟨(some 49),(.bin .add (.t 47) (.t 48)),none⟩,
  ⟨(some 50),(.slc (.slice 2) (.t 46) (some (.t 49)) none none),none⟩,
  ⟨(some 51),(.mv (.t 0)),none⟩,
  ⟨(some 52),(.mv (.t 1)),none⟩,
  ⟨(some 53),(.slc (.slice 2) (.t 51) (some (.t 52)) none none),none⟩,
  ⟨(some 54),(.cpy 2 (.t 50) (.t 53)),none⟩] [])
 (.seq (.reg [
  ⟨(some 55),(.mv (.t 9)),none⟩,
  ⟨(some 6),(.mv (.t 55)),none⟩])
 .ret))))
 .skip))
 (.reg [
  ⟨(some 56),(.mv (.t 0)),none⟩,
  ⟨(some 57),(.mv (.t 8)),none⟩,
  ⟨(some 58),(.mv (.t 7)),none⟩,
  ⟨(some 59),(.bin .add (.t 57) (.t 58)),none⟩,
  ⟨(some 60),(.slc (.slice 2) (.t 56) none (some (.t 59)) none),none⟩,
  ⟨(some 0),(.mv (.t 60)),none⟩])))))))
def sInsXC1 (csRor:FuncId):LC:=.seq (.drw [
  ⟨(some 69),(.mv (.t 0)),none⟩,
  ⟨(some 70),(.mv (.t 1)),none⟩,
  ⟨(some 71),(.mv (.t 7)),none⟩,
  ⟨(some 72),(.bin .add (.t 70) (.t 71)),none⟩,
  ⟨(some 73),(.slc (.slice 2) (.t 69) (some (.t 72)) none none),none⟩,
  ⟨(some 74),(.mv (.t 0)),none⟩,
  ⟨(some 75),(.mv (.t 1)),none⟩,
  ⟨(some 76),(.slc (.slice 2) (.t 74) (some (.t 75)) none none),none⟩,
  ⟨(some 77),(.cpy 2 (.t 73) (.t 76)),none⟩] []) (.seq (.reg [
  ⟨(some 78),(.mv (.t 0)),none⟩,
  ⟨(some 79),(.mv (.t 1)),none⟩,
  ⟨(some 80),(.slc (.slice 2) (.t 78) (some (.t 79)) none none),none⟩,
  ⟨(some 81),(.mv (.t 2)),none⟩,
  ⟨(some 82),(.cpy 2 (.t 80) (.t 81)),none⟩])
 (.seq (.reg [
  ⟨(some 83),(.mv (.t 0)),none⟩,
  ⟨(some 6),(.mv (.t 83)),none⟩])
 .ret))
def sInsXC2 (csRor:FuncId):LC:=.seq (.reg [
  ⟨(some 84),(.mv (.t 0)),none⟩,
  ⟨(some 85),(.mv (.t 8)),none⟩,
  ⟨(some 86),(.slc (.slice 2) (.t 84) (some (.t 85)) none none),none⟩,
  ⟨(some 87),(.mv (.t 2)),none⟩,
  ⟨(some 88),(.cpy 2 (.t 86) (.t 87)),none⟩]) (.seq (.reg [
  ⟨(some 89),(.mv (.t 0)),none⟩,
  ⟨(some 90),(.mv (.t 1)),none⟩,
  ⟨(some 91),(.slc (.slice 2) (.t 89) (some (.t 90)) none none),none⟩,
  ⟨(some 92),(.mv (.t 7)),none⟩,
  ⟨(some 93),(.callF csRor [(.t 91),(.t 92)]),none⟩])
 (.seq (.reg [
  ⟨(some 94),(.mv (.t 0)),none⟩,
  ⟨(some 6),(.mv (.t 94)),none⟩])
 .ret))
def sInsXC1S (cal:FuncId->Bool)(O:Oracle)(N:Nat)(csRor:FuncId)(v0 v1 v2 v7 v8:IV)(H:Heap):Option (IV×Heap) :=
  ob (lbin .add v1 v7) fun t1 =>
  ob (lslice H (.slice 2) v0 (some t1) none none) fun t2 =>
  ob (lslice H (.slice 2) v0 (some v1) none none) fun t3 =>
  ob (lcpy H 2 t2 t3) fun r4 =>
  ob (lslice r4.2 (.slice 2) v0 (some v1) none none) fun t5 =>
  ob (lcpy r4.2 2 t5 v2) fun r6 =>
  some ((.tuple [v0,v0,v1,v2,v7,v8]),r6.2)
theorem sInsXC1Eq (cal:FuncId->Bool)(O:Oracle)(N:Nat)(csRor:FuncId)(hR:∀E H,k .ret E H=resK [(.tmp 6),(.tmp 0),(.tmp 1),(.tmp 2),(.tmp 7),(.tmp 8)] [] E H):∀(E:Sg) (H:Heap),lxK cal O N (sInsXC1 csRor) E H k=sInsXC1S cal O N csRor (lk E 0) (lk E 1) (lk E 2) (lk E 7) (lk E 8) H:=by
 have hk:k=(kR (resK [(.tmp 6),(.tmp 0),(.tmp 1),(.tmp 2),(.tmp 7),(.tmp 8)] []) k):=(kR_mk hR rfl);intro E H;rw[hk];show lxK cal O N (.drw [
  ⟨(some 69),(.mv (.t 0)),none⟩,
  ⟨(some 70),(.mv (.t 1)),none⟩,
  ⟨(some 71),(.mv (.t 7)),none⟩,
  ⟨(some 72),(.bin .add (.t 70) (.t 71)),none⟩,
  ⟨(some 73),(.slc (.slice 2) (.t 69) (some (.t 72)) none none),none⟩,
  ⟨(some 74),(.mv (.t 0)),none⟩,
  ⟨(some 75),(.mv (.t 1)),none⟩,
  ⟨(some 76),(.slc (.slice 2) (.t 74) (some (.t 75)) none none),none⟩,
  ⟨(some 77),(.cpy 2 (.t 73) (.t 76)),none⟩] []) E H (seqK (lxK cal O N (.seq (.reg [
  ⟨(some 78),(.mv (.t 0)),none⟩,
  ⟨(some 79),(.mv (.t 1)),none⟩,
  ⟨(some 80),(.slc (.slice 2) (.t 78) (some (.t 79)) none none),none⟩,
  ⟨(some 81),(.mv (.t 2)),none⟩,
  ⟨(some 82),(.cpy 2 (.t 80) (.t 81)),none⟩])
 (.seq (.reg [
  ⟨(some 83),(.mv (.t 0)),none⟩,
  ⟨(some 6),(.mv (.t 83)),none⟩])
 .ret))) (kR (resK [(.tmp 6),(.tmp 0),(.tmp 1),(.tmp 2),(.tmp 7),(.tmp 8)] []) k))=_
 kernel_rfl
def sInsXC2S (cal:FuncId->Bool)(O:Oracle)(N:Nat)(csRor:FuncId)(v0 v1 v2 v7 v8:IV)(H:Heap):Option (IV×Heap) :=
  ob (lslice H (.slice 2) v0 (some v8) none none) fun t1 =>
  ob (lcpy H 2 t1 v2) fun r2 =>
  ob (lslice r2.2 (.slice 2) v0 (some v1) none none) fun t3 =>
  ob (O csRor [t3,v7] r2.2) fun r4 =>
  some ((.tuple [v0,v0,v1,v2,v7,v8]),r4.2)
theorem sInsXC2Eq (cal:FuncId->Bool)(O:Oracle)(N:Nat)(csRor:FuncId)(hR:∀E H,k .ret E H=resK [(.tmp 6),(.tmp 0),(.tmp 1),(.tmp 2),(.tmp 7),(.tmp 8)] [] E H):∀(E:Sg) (H:Heap),lxK cal O N (sInsXC2 csRor) E H k=sInsXC2S cal O N csRor (lk E 0) (lk E 1) (lk E 2) (lk E 7) (lk E 8) H:=by
 have hk:k=(kR (resK [(.tmp 6),(.tmp 0),(.tmp 1),(.tmp 2),(.tmp 7),(.tmp 8)] []) k):=(kR_mk hR rfl);intro E H;rw[hk];show lxK cal O N (.reg [
  ⟨(some 84),(.mv (.t 0)),none⟩,
  ⟨(some 85),(.mv (.t 8)),none⟩,
  ⟨(some 86),(.slc (.slice 2) (.t 84) (some (.t 85)) none none),none⟩,
  ⟨(some 87),(.mv (.t 2)),none⟩,
  ⟨(some 88),(.cpy 2 (.t 86) (.t 87)),none⟩]) E H (seqK (lxK cal O N (.seq (.reg [
  ⟨(some 89),(.mv (.t 0)),none⟩,
  ⟨(some 90),(.mv (.t 1)),none⟩,
  ⟨(some 91),(.slc (.slice 2) (.t 89) (some (.t 90)) none none),none⟩,
  ⟨(some 92),(.mv (.t 7)),none⟩,
  ⟨(some 93),(.callF csRor [(.t 91),(.t 92)]),none⟩])
 (.seq (.reg [
  ⟨(some 94),(.mv (.t 0)),none⟩,
  ⟨(some 6),(.mv (.t 94)),none⟩])
 .ret))) (kR (resK [(.tmp 6),(.tmp 0),(.tmp 1),(.tmp 2),(.tmp 7),(.tmp 8)] []) k))=_
 kernel_rfl
def sInsXC0S (cal:FuncId->Bool)(O:Oracle)(N:Nat)(csRor:FuncId)(gN:IV->IV->IV->IV->IV->IV->Heap->Option (IV×Heap))(v0 v1 v2 v8 v68:IV)(H:Heap):Option (IV×Heap) :=
  ob (lslice H (.slice 2) v0 (some v1) none none) fun t1 =>
  ob (llen H .slice v2) fun t2 =>
  ob (lbin .eql t2 (.int .i64 0)) fun t3 =>
  cnd t3
  (some ((.tuple [v0,v0,v1,v2,t2,v8]),H))
  (ob (llen H .slice v0) fun t4 =>
  ob (lbin .eql v1 t4) fun t5 =>
  cnd t5
  (ob (lapp H 2 24 v0 v2) fun r6 =>
  some ((.tuple [r6.1,v0,v1,v2,t2,t4]),r6.2))
  (ob (lbin .add t4 t2) fun t7 =>
  ob (lcapV H v0) fun r8 =>
  ob (lbin .gtr t7 r8.1) fun t9 =>
  cnd t9
  (ob (lslice r8.2 (.slice 2) v0 none (some v1) none) fun t10 =>
  ob (lbin .add t4 t2) fun t11 =>
  ob (lbin .sub t11 v1) fun t12 =>
  ob (lappzV r8.2 2 24 [(.str []),(.int .i64 0)] t10 t12) fun r13 =>
  ob (lslice r13.2 (.slice 2) r13.1 (some v1) none none) fun t14 =>
  ob (lcpy r13.2 2 t14 v2) fun r15 =>
  ob (lbin .add v1 t2) fun t16 =>
  ob (lslice r15.2 (.slice 2) r13.1 (some t16) none none) fun t17 =>
  ob (lslice r15.2 (.slice 2) v0 (some v1) none none) fun t18 =>
  ob (lcpy r15.2 2 t17 t18) fun r19 =>
  some ((.tuple [r13.1,v0,v1,v2,t2,t4]),r19.2))
  (ob (lbin .add t4 t2) fun t20 =>
  ob (lslice r8.2 (.slice 2) v0 none (some t20) none) fun t21 =>
  gN t21 v1 v2 t2 t4 v68 r8.2)))
theorem sInsXC0Eq (cal:FuncId->Bool)(O:Oracle)(N:Nat)(csRor:FuncId)(gN:IV->IV->IV->IV->IV->IV->Heap->Option (IV×Heap))(hgN:∀E H,k .normal E H=gN (lk E 0) (lk E 1) (lk E 2) (lk E 7) (lk E 8) (lk E 68) H)(hR:∀E H,k .ret E H=resK [(.tmp 6),(.tmp 0),(.tmp 1),(.tmp 2),(.tmp 7),(.tmp 8)] [] E H):∀(E:Sg) (H:Heap),lxK cal O N (sInsXC0 csRor) E H k=sInsXC0S cal O N csRor gN (lk E 0) (lk E 1) (lk E 2) (lk E 8) (lk E 68) H:=by
 have hk:k=(kN (fun E H=>gN (lk E 0) (lk E 1) (lk E 2) (lk E 7) (lk E 8) (lk E 68) H) (kR (resK [(.tmp 6),(.tmp 0),(.tmp 1),(.tmp 2),(.tmp 7),(.tmp 8)] []) k)):=(kN_mk hgN (kR_mk hR rfl));intro E H;rw[hk];show lxK cal O N (.reg [
  ⟨(some 6),(.mv (.k .nilSlice)),none⟩]) E H (seqK (lxK cal O N (.seq (.reg [
  ⟨(some 10),(.mv (.t 0)),none⟩,
  ⟨(some 11),(.mv (.t 1)),none⟩,
  ⟨(some 12),(.slc (.slice 2) (.t 10) (some (.t 11)) none none),none⟩])
 (.seq (.reg [
  ⟨(some 13),(.mv (.t 2)),none⟩,
  ⟨(some 14),(.len .slice (.t 13)),none⟩,
  ⟨(some 7),(.mv (.t 14)),none⟩])
 (.seq (.seq (.reg [
  ⟨(some 15),(.mv (.t 7)),none⟩,
  ⟨(some 16),(.bin .eql (.t 15) (.k (.int .i64 0))),none⟩])
 (.cond (.t 16) (.seq (.reg [
  ⟨(some 17),(.mv (.t 0)),none⟩,
  ⟨(some 6),(.mv (.t 17)),none⟩])
 .ret)
 .skip))
 (.seq (.reg [
  ⟨(some 18),(.mv (.t 0)),none⟩,
  ⟨(some 19),(.len .slice (.t 18)),none⟩,
  ⟨(some 8),(.mv (.t 19)),none⟩])
 (.seq (.seq (.reg [
  ⟨(some 20),(.mv (.t 1)),none⟩,
  ⟨(some 21),(.mv (.t 8)),none⟩,
  ⟨(some 22),(.bin .eql (.t 20) (.t 21)),none⟩])
 (.cond (.t 22) (.seq (.reg [
  ⟨(some 23),(.mv (.t 0)),none⟩,
  ⟨(some 24),(.mv (.t 2)),none⟩,
  ⟨(some 25),(.app 2 24 (.t 23) (.t 24)),none⟩,
  ⟨(some 6),(.mv (.t 25)),none⟩])
 .ret)
 .skip))
 (.seq (.seq (.reg [
  ⟨(some 26),(.mv (.t 8)),none⟩,
  ⟨(some 27),(.mv (.t 7)),none⟩,
  ⟨(some 28),(.bin .add (.t 26) (.t 27)),none⟩,
  ⟨(some 29),(.mv (.t 0)),none⟩,
  ⟨(some 30),(.cap (.t 29)),none⟩,
  ⟨(some 31),(.bin .gtr (.t 28) (.t 30)),none⟩])
 (.cond (.t 31) (.seq (.reg [
  ⟨(some 32),(.mv (.t 0)),none⟩,
  ⟨(some 33),(.mv (.t 1)),none⟩,
  ⟨(some 34),(.slc (.slice 2) (.t 32) none (some (.t 33)) none),none⟩,
  ⟨(some 35),(.mv (.t 8)),none⟩,
  ⟨(some 36),(.mv (.t 7)),none⟩,
  ⟨(some 37),(.bin .add (.t 35) (.t 36)),none⟩,
  ⟨(some 38),(.mv (.t 1)),none⟩,
  ⟨(some 39),(.bin .sub (.t 37) (.t 38)),none⟩,
  ⟨(some 40),(.appz 2 24 [(.str []),(.int .i64 0)] (.t 34) (.t 39)),none⟩,
  ⟨(some 9),(.mv (.t 40)),none⟩])
 (.seq (.reg [
  ⟨(some 41),(.mv (.t 9)),none⟩,
  ⟨(some 42),(.mv (.t 1)),none⟩,
  ⟨(some 43),(.slc (.slice 2) (.t 41) (some (.t 42)) none none),none⟩,
  ⟨(some 44),(.mv (.t 2)),none⟩,
  ⟨(some 45),(.cpy 2 (.t 43) (.t 44)),none⟩])
 (.seq (.drw [
  ⟨(some 46),(.mv (.t 9)),none⟩,
  ⟨(some 47),(.mv (.t 1)),none⟩,
  ⟨(some 48),(.mv (.t 7)),none⟩,
  ⟨(some 49),(.bin .add (.t 47) (.t 48)),none⟩,
  ⟨(some 50),(.slc (.slice 2) (.t 46) (some (.t 49)) none none),none⟩,
  ⟨(some 51),(.mv (.t 0)),none⟩,
  ⟨(some 52),(.mv (.t 1)),none⟩,
  ⟨(some 53),(.slc (.slice 2) (.t 51) (some (.t 52)) none none),none⟩,
  ⟨(some 54),(.cpy 2 (.t 50) (.t 53)),none⟩] [])
 (.seq (.reg [
  ⟨(some 55),(.mv (.t 9)),none⟩,
  ⟨(some 6),(.mv (.t 55)),none⟩])
 .ret))))
 .skip))
 (.reg [
  ⟨(some 56),(.mv (.t 0)),none⟩,
  ⟨(some 57),(.mv (.t 8)),none⟩,
  ⟨(some 58),(.mv (.t 7)),none⟩,
  ⟨(some 59),(.bin .add (.t 57) (.t 58)),none⟩,
  ⟨(some 60),(.slc (.slice 2) (.t 56) none (some (.t 59)) none),none⟩,
  ⟨(some 0),(.mv (.t 60)),none⟩])))))))) (kN (fun E H=>gN (lk E 0) (lk E 1) (lk E 2) (lk E 7) (lk E 8) (lk E 68) H) (kR (resK [(.tmp 6),(.tmp 0),(.tmp 1),(.tmp 2),(.tmp 7),(.tmp 8)] []) k)))=_
 kernel_rfl
end Go.Shade
namespace Go.Shade
def gIns :IV->IV->IV->IV->IV->IV->Heap->Option (IV×Heap):=fun v0 v1 v2 v7 v8 v68 H=>some (.tuple [v0,v1,v2,v7,v8],H)
theorem one2_app {a b:List Pr}(h:one2 a)(k:one2 b):one2 (a++b):=fun p hp=>by
 rcases List.mem_append.1 hp with hp | hp
 ·exact h p hp
 ·exact k p hp
theorem one2_drop {a:List Pr}(h:one2 a)(n:Nat):one2 (a.drop n):=fun p hp=>h p (List.mem_of_mem_drop hp)
theorem lsl_p {H:Heap}{b o n lb k:Nat}{ex:Bool}{sz:Nat}{l:List Pr}(hb:H[b]? =some (.row (fl l) false))(hk:k<=n)(hl:o+k<=l.length):lsl H 2 (.slice b (2*o) n lb ex sz) k=some (fl ((l.drop o).take k)):=by
 simp only[lsl,if_pos hk];by_cases h0:k=0
 ·subst h0;simp[fl]
 ·rw[if_neg h0];simp only[irow,hb];rw[fl_length,if_pos (by omega),fl_drop,Nat.mul_comm k 2,fl_take]
theorem cpy_p {H:Heap}{b o nd lb k:Nat}{ex:Bool}{l new:List Pr}{x:IV}{nx:Nat}(hb:H[b]? =some (.row (fl l) false))(hx:xlen x=some nx)(hk:min nx nd=k)(h0:0<k)(hs:lxcells H 2 x k=some (fl new))(h1:one2 new)(hn:new.length=k)(hlb:0<lb)(ho:o+k<=l.length∨(o<=l.length/\l.length<o+k/\k<=lb)) :
  lcpy H 2 (.slice b (2*o) nd lb ex 2) x=some (.int .i64 (k:Nat),H.set b (.row (fl (l.take o++new++l.drop (o+k))) false)):=by
 unfold lcpy lcopy;have hd:xlen (.slice b (2*o) nd lb ex 2)=some nd:=rfl;simp only[hx,hd,Option.bind_some,hk];rw[if_neg (by omega),hs];simp only[Option.bind_some,hb];rw[if_pos ⟨fl_one h1,hlb⟩];have hfl:(fl new).length=2*k:=by rw[fl_length,hn]
 have hrow:cpyRow (fl l) (2*o) lb 2 2 (fl new)=some (fl (l.take o++new++l.drop (o+k))):=by
  unfold cpyRow;rw[hfl,fl_length];rcases ho with h | ⟨g1,g2,g3⟩
  ·rw[if_pos (by omega)]
   congr 1
   unfold putAt;split
   ·rename_i v hv;rw[hv]at hfl;simp at hfl;omega
   ·rw[hfl,show 2*o+2*k=2*(o+k) by omega,fl_take,fl_drop,fl_append,fl_append]
  ·rw[if_neg (by omega),if_pos ⟨by omega,rfl,by omega,by omega⟩]
   congr 1
   rw[fl_take,fl_append,fl_append,List.drop_eq_nil_of_le (by omega)];simp[fl]
 rw[hrow];rfl
end Go.Shade
namespace Go.Shade
variable {H : Heap} {b i n : Nat}
def ins (l:List Pr)(i:Nat)(e:Pr):List Pr:=l.take i++e::l.drop i
theorem fl1 (e:Pr):fl [e]=[e.1,e.2]:=rfl
theorem sl_from {o lb:Nat}{ex:Bool}(hi:i<=n)(hn:n<=lb):lslice H (.slice 2) (.slice b (2*o) n lb ex 2) (some (.int .i64 (i:Nat))) none none=some (.slice b (2*(o+i)) (n - i) (lb - i) ex 2):=by
 simp only[lslice,bnd,Option.bind_some];simp;omega
theorem sl_to {o lb:Nat}{ex:Bool}(hi:i<=lb):lslice H (.slice 2) (.slice b (2*o) n lb ex 2) none (some (.int .i64 (i:Nat))) none=some (.slice b (2*o) i lb ex 2):=by
 simp only[lslice,bnd,Option.bind_some];simp;omega
section
variable {cal : FuncId -> Bool} {O : Oracle} {N : Nat} {fr : FuncId}
def OneAt (H:Heap)(v:IV)(e:Pr):Prop:=llen H .slice v=some (.int .i64 1)/\xlen v=some 1/\lxcells H 2 v 1=some [e.1,e.2]
theorem ins_c1 {c:Nat}{l:List Pr}{v:IV}{e:Pr}{v8:IV}(hb:H[b]? =some (.row (fl l) false))(hl:l.length=n)(hin:i<n)(hc:n<c)(h1:one2 l)(he:e.1.one=true/\e.2.one=true)(hv:∀cs,OneAt (H.set b (.row cs false)) v e)(hn9:n<=1000000) :
  sInsXC1S cal O N fr (.slice b 0 (n+1) c true 2) (.int .i64 (i:Nat)) v (.int .i64 1) v8 H=some (.tuple [.slice b 0 (n+1) c true 2,.slice b 0 (n+1) c true 2,.int .i64 (i:Nat),v,.int .i64 1,v8],H.set b (.row (fl (ins l i e)) false)):=by
 unfold sInsXC1S;have z:(0:Nat)=2*0:=rfl;rw[lbin_add,ob_some,wrap_i64 (by omega) (by omega),show((i:Nat):Int)+1=((i+1:Nat):Int) by omega,z,sl_from (by omega) (by omega),ob_some,sl_from (by omega) (by omega),ob_some];simp only[Nat.zero_add];have hrd:lxcells H 2 (.slice b (2*i) (n+1 - i) (c - i) true 2) (n - i)=some (fl (l.drop i)):=by
  simp only[lxcells];rw[lsl_p hb (by omega) (by omega),List.take_of_length_le (by rw[List.length_drop];omega)]
 rw[cpy_p (k:=n - i) hb rfl (by omega) (by omega) hrd (one2_drop h1 i) (by rw[List.length_drop];omega) (by omega) (.inr ⟨by omega,by omega,by omega⟩),ob_some];simp only;rw[←z,show(0:Nat)=2*0 from rfl,sl_from (by omega) (by omega),ob_some];simp only[Nat.zero_add];rw[cpy_p (k:=1) (new:=[e]) (setAt hb) (hv (fl (l.take (i+1)++l.drop i++l.drop (i+1+(n - i))))).2.1 (by omega) (by omega) (hv (fl (l.take (i+1)++l.drop i++l.drop (i+1+(n - i))))).2.2 (fun p hp=>by rw[List.mem_singleton]at hp;subst hp;exact he) rfl (by omega) (.inl (by simp only[List.length_append,List.length_take,List.length_drop];omega)),ob_some];simp only;rw[List.set_set];have hfin:(l.take (i+1)++l.drop i++l.drop (i+1+(n - i))).take i++[e]++(l.take (i+1)++l.drop i++l.drop (i+1+(n - i))).drop (i+1)=ins l i e:=by
  have e1:l.drop (i+1+(n - i))=[]:=List.drop_eq_nil_of_le (by omega);rw[e1,List.append_nil];have l1:(l.take (i+1)).length=i+1:=by rw[List.length_take];omega
  rw[List.take_append_of_le_length (by omega),List.take_take,Nat.min_eq_left (by omega),List.drop_append_of_le_length (by omega),List.drop_eq_nil_of_le (by omega),List.nil_append];unfold ins;simp
 rw[hfin]
theorem ins_c2 (hr:∀(H:Heap) (b o n lb r:Nat) (ex:Bool) (l:List Pr),H[b]? =some (.row (fl l) false)->one2 l->1<=r->r<n->n<=lb->o+n<=l.length->n<=1000000->O fr [.slice b (2*o) n lb ex 2,.int .i64 (r:Nat)] H=some (.tuple [],H.set b (.row (fl (rot l o n (n - r))) false))) {H:Heap} {b n c i:Nat} {l:List Pr} {v:IV} {e:Pr} (hb:H[b]? =some (.row (fl l) false)) (hl:l.length=n) (hin:i<n) (hc:n<c) (h1:one2 l) (he:e.1.one=true/\e.2.one=true) (hv:∀cs,OneAt (H.set b (.row cs false)) v e) (hn9:n<1000000) :
  sInsXC2S cal O N fr (.slice b 0 (n+1) c true 2) (.int .i64 (i:Nat)) v (.int .i64 1) (.int .i64 (n:Nat)) H=some (.tuple [.slice b 0 (n+1) c true 2,.slice b 0 (n+1) c true 2,.int .i64 (i:Nat),v,.int .i64 1,.int .i64 (n:Nat)],H.set b (.row (fl (ins l i e)) false)):=by
 unfold sInsXC2S;have hv0:OneAt H v e:=by have:=hv (fl l);rwa [List.set_getElem?_self' hb]at this
 have o1:one2 (l++[e]):=one2_app h1 fun p hp=>by rw[List.mem_singleton]at hp;subst hp;exact he
 have z:(0:Nat)=2*0:=rfl;rw[z,sl_from (by omega) (by omega),ob_some];simp only[Nat.zero_add];rw[cpy_p (k:=1) (new:=[e]) hb hv0.2.1 (by omega) (by omega) hv0.2.2 (fun p hp=>by rw[List.mem_singleton]at hp;subst hp;exact he) rfl (by omega) (.inr ⟨by omega,by omega,by omega⟩),ob_some];simp only;have e1:l.take n++[e]++l.drop (n+1)=l++[e]:=by rw[List.take_of_length_le (by omega),List.drop_eq_nil_of_le (by omega),List.append_nil]
 rw[e1,←z,show(0:Nat)=2*0 from rfl,sl_from (by omega) (by omega),ob_some];simp only[Nat.zero_add];have:=hr (H.set b (.row (fl (l++[e])) false)) b i (n+1 - i) (c - i) 1 true (l++[e]) (setAt hb) o1 (by omega) (by omega) (by omega) (by simp;omega) (by omega);rw[show(((1:Nat):Int))=1 from rfl]at this;rw[this,ob_some];simp only;rw[List.set_set];have hfin:rot (l++[e]) i (n+1 - i) (n+1 - i - 1)=ins l i e:=by
  unfold rot ins;have q1:i+(n+1 - i - 1)=n:=by omega
  have q2:n+1 - i - (n+1 - i - 1)=1:=by omega
  have q3:i+(n+1 - i)=n+1:=by omega
  have a1:(l++[e]).take i=l.take i:=List.take_append_of_le_length (by omega);have a2:(l++[e]).drop n=[e]:=by rw[List.drop_append_of_le_length (by omega),List.drop_eq_nil_of_le (by omega),List.nil_append]
  have a3:(l++[e]).drop i=l.drop i++[e]:=List.drop_append_of_le_length (by omega);have a4:(l.drop i++[e]).take (n+1 - i - 1)=l.drop i:=by rw[List.take_append_of_le_length (by rw[List.length_drop];omega),List.take_of_length_le (by rw[List.length_drop];omega)]
  have a5:(l++[e]).drop (n+1)=[]:=List.drop_eq_nil_of_le (by simp;omega);rw[q1,q2,q3,a1,a2,a3,a4,a5];simp
 rw[hfin]
end
end Go.Shade
namespace Go.Shade
variable {H : Heap} {b n : Nat} {e : Pr} {v v68 v8 : IV}
section
variable {cal : FuncId -> Bool} {O : Oracle} {N : Nat} {fr : FuncId}
theorem ins_end {l:List Pr}(hb:H[b]? =some (.row (fl l) false))(hl:l.length=n)(h0:0<n)(h1:one2 l)(he:e.1.one=true/\e.2.one=true)(hv:OneAt H v e)(hn9:n<=1000000) :
  sInsXC0S cal O N fr gIns (.slice b 0 n n false 2) (.int .i64 (n:Nat)) v v8 v68 H=some (.tuple [.slice H.length 0 (n+1) (n+1) false 2,.slice b 0 n n false 2,.int .i64 (n:Nat),v,.int .i64 1,.int .i64 (n:Nat)],H.set b .dead++[.row (fl (ins l n e)) false]):=by
 unfold sInsXC0S;have z:(0:Nat)=2*0:=rfl;rw[z,sl_from (by omega) (by omega),ob_some,hv.1,ob_some,lbin_eql,ob_some,decide_eq_false (by omega),cnd_false,llen_slice,ob_some,lbin_eql,ob_some,decide_eq_true rfl,cnd_true];have hrd:lsl H 2 (.slice b (2*0) n n false 2) n=some (fl l):=by rw[lsl_p hb (by omega) (by omega),List.drop_zero,List.take_of_length_le (by omega)]
 have hins:ins l n e=l++[e]:=by unfold ins;rw[List.take_of_length_le (by omega),List.drop_eq_nil_of_le (by omega)]
 have happ:lapp H 2 24 (.slice b (2*0) n n false 2) v=some (.slice H.length 0 (n+1) (n+1) false 2,H.set b .dead++[.row (fl (ins l n e)) false]):=by
  unfold lapp lappend;simp only[hv.2.1,Option.bind_some];rw[if_neg (by omega),hv.2.2];simp only[Option.bind_some];rw[if_pos ⟨rfl,by simp[he.1,he.2]⟩,if_neg (by omega),hrd];simp only[Option.bind_some,Bool.false_eq_true,if_false,hb,if_true];unfold lfresh;rw[if_pos ⟨by omega,by simp[fl_length];omega⟩,hins,fl_append,fl1];simp
 rw[happ,ob_some]
theorem ins_nil (he:e.1.one=true/\e.2.one=true)(hv:OneAt H v e) :
  sInsXC0S cal O N fr gIns .nilSlice (.int .i64 0) v v8 v68 H=some (.tuple [.slice H.length 0 1 1 false 2,.nilSlice,.int .i64 0,v,.int .i64 1,.int .i64 0],H++[.row (fl [e]) false]):=by
 unfold sInsXC0S;have s1:lslice H (.slice 2) .nilSlice (some (.int .i64 0)) none none=some .nilSlice:=rfl;have s2:llen H .slice .nilSlice=some (.int .i64 0):=rfl;rw[s1,ob_some,hv.1,ob_some,lbin_eql,ob_some,decide_eq_false (by omega),cnd_false,s2,ob_some,lbin_eql,ob_some,decide_eq_true rfl,cnd_true];have happ:lapp H 2 24 .nilSlice v=some (.slice H.length 0 1 1 false 2,H++[.row (fl [e]) false]):=by
  unfold lapp lappend;simp only[hv.2.1,Option.bind_some];rw[if_neg (by omega),hv.2.2];simp only[Option.bind_some];rw[if_pos ⟨rfl,by simp[he.1,he.2]⟩];rfl
 rw[happ,ob_some]
theorem ins_room {c i:Nat}(hin:i<n)(hc:n<c)(hv:OneAt H v e)(hn9:n<=1000000) :
  sInsXC0S cal O N fr gIns (.slice b 0 n c true 2) (.int .i64 (i:Nat)) v v8 v68 H=some (.tuple [.slice b 0 (n+1) c true 2,.int .i64 (i:Nat),v,.int .i64 1,.int .i64 (n:Nat)],H):=by
 unfold sInsXC0S;have z:(0:Nat)=2*0:=rfl;have hcap:lcapV H (.slice b (2*0) n c true 2)=some (.int .i64 c,H):=rfl;rw[z,sl_from (by omega) (by omega),ob_some,hv.1,ob_some,lbin_eql,ob_some,decide_eq_false (by omega),cnd_false,llen_slice,ob_some,lbin_eql,ob_some,decide_eq_false (by omega),cnd_false,lbin_add,ob_some,wrap_i64 (by omega) (by omega),hcap,ob_some,lbin_gtr,ob_some,decide_eq_false (by omega),cnd_false,ob_some,show((n:Nat):Int)+1=((n+1:Nat):Int) by omega,sl_to (by omega),ob_some];rfl
theorem ins_grow {i:Nat}{l:List Pr}(hb:H[b]? =some (.row (fl l) false))(hl:l.length=n)(hin:i<n)(h1:one2 l)(he:e.1.one=true/\e.2.one=true)(hv:∀r:List IObj,OneAt (H++r) v e)(hn9:n<=1000000) :
  sInsXC0S cal O N fr gIns (.slice b 0 n n true 2) (.int .i64 (i:Nat)) v v8 v68 H=some (.tuple [.slice H.length 0 (n+1) (n+1) false 2,.slice b 0 n n true 2,.int .i64 (i:Nat),v,.int .i64 1,.int .i64 (n:Nat)],H++[.row (fl (ins l i e)) false]):=by
 unfold sInsXC0S;have hv0:OneAt H v e:=by have:=hv [];rwa [List.append_nil]at this
 have z:(0:Nat)=2*0:=rfl;have hcap:lcapV H (.slice b (2*0) n n true 2)=some (.int .i64 n,H):=rfl;rw[z,sl_from (by omega) (by omega),ob_some,hv0.1,ob_some,lbin_eql,ob_some,decide_eq_false (by omega),cnd_false,llen_slice,ob_some,lbin_eql,ob_some,decide_eq_false (by omega),cnd_false,lbin_add,ob_some,wrap_i64 (by omega) (by omega),hcap,ob_some,lbin_gtr,ob_some,decide_eq_true (by omega),cnd_true,sl_to (by omega),ob_some,ob_some,lbin_sub,ob_some,wrap_i64 (by omega) (by omega),show((n:Nat):Int)+1 - ((i:Nat):Int)=((n+1 - i:Nat):Int) by omega];have hrd:lsl H 2 (.slice b (2*0) i n true 2) i=some (fl (l.take i)):=by rw[lsl_p hb (by omega) (by omega),List.drop_zero]
 have hz:∀k,zrep k [(.str []),(.int .i64 0)]=fl (List.replicate k (.str [],.int .i64 0)):=by
  intro k
  induction k with
  | zero=>rfl
  | succ k ih=>simp only[zrep,List.replicate_succ,List.flatten_cons,fl]at ih ⊢;rw[ih];rfl
 have happ:lappzV H 2 24 [(.str []),(.int .i64 0)] (.slice b (2*0) i n true 2) (.int .i64 ((n+1 - i:Nat):Int))=some (.slice H.length (2*0) (n+1) (n+1) false 2,H++[.row (fl (l.take i++List.replicate (n+1 - i) (.str [],.int .i64 0))) false]):=by
  unfold lappzV lappz;simp only[Int.toNat_natCast];rw[if_pos (by omega),if_pos ⟨by omega,trivial⟩,hrd];simp only[Option.bind_some];have e1:i+(n+1 - i)=n+1:=by omega
  rw[e1,if_pos ⟨by omega,by rw[fl_length,List.length_take];omega⟩,hz,fl_append]
 rw[happ,ob_some];simp only;have hbn:=newRow (H:=H) (o:=IObj.row (fl (l.take i++List.replicate (n+1 - i) (.str [],.int .i64 0))) false);have hlen:(l.take i++List.replicate (n+1 - i) ((.str [],.int .i64 0):Pr)).length=n+1:=by simp;omega
 rw[sl_from (by omega) (by omega),ob_some];simp only[Nat.zero_add];have hv1:=hv [IObj.row (fl (l.take i++List.replicate (n+1 - i) (.str [],.int .i64 0))) false];rw[cpy_p (k:=1) (new:=[e]) hbn hv1.2.1 (by omega) (by omega) hv1.2.2 (fun p hp=>by rw[List.mem_singleton]at hp;subst hp;exact he) rfl (by omega) (.inl (by omega)),ob_some];simp only;rw[lbin_add,ob_some,wrap_i64 (by omega) (by omega),show((i:Nat):Int)+1=((i+1:Nat):Int) by omega,sl_from (by omega) (by omega),ob_some,sl_from (by omega) (by omega),ob_some];simp only[Nat.zero_add];rw[setRow];have hb2:(H++[IObj.row (fl ((l.take i++List.replicate (n+1 - i) ((.str [],.int .i64 0):Pr)).take i++[e]++(l.take i++List.replicate (n+1 - i) ((.str [],.int .i64 0):Pr)).drop (i+1))) false])[b]? =some (.row (fl l) false):=by
  rw[List.getElem?_append_left (ges hb).1];exact hb
 have hrd2:lxcells (H++[IObj.row (fl ((l.take i++List.replicate (n+1 - i) ((.str [],.int .i64 0):Pr)).take i++[e]++(l.take i++List.replicate (n+1 - i) ((.str [],.int .i64 0):Pr)).drop (i+1))) false]) 2 (.slice b (2*i) (n - i) (n - i) true 2) (n - i)=some (fl (l.drop i)):=by
  simp only[lxcells];rw[lsl_p hb2 (by omega) (by omega),List.take_of_length_le (by rw[List.length_drop];omega)]
 rw[cpy_p (k:=n - i) newRow rfl (by omega) (by omega) hrd2 (one2_drop h1 i) (by rw[List.length_drop];omega) (by omega) (.inl (by simp only[List.length_append,List.length_take,List.length_drop,List.length_cons,List.length_nil,List.length_replicate];omega)),ob_some];rw[setRow];have hfin:((l.take i++List.replicate (n+1 - i) ((.str [],.int .i64 0):Pr)).take i++[e]++(l.take i++List.replicate (n+1 - i) ((.str [],.int .i64 0):Pr)).drop (i+1)).take (i+1)++l.drop i++((l.take i++List.replicate (n+1 - i) ((.str [],.int .i64 0):Pr)).take i++[e]++(l.take i++List.replicate (n+1 - i) ((.str [],.int .i64 0):Pr)).drop (i+1)).drop (i+1+(n - i))=ins l i e:=by
  have q1:(l.take i++List.replicate (n+1 - i) ((.str [],.int .i64 0):Pr)).take i=l.take i:=by
   rw[List.take_append_of_le_length (by rw[List.length_take];omega),List.take_take,Nat.min_self]
  rw[q1];generalize hD:(l.take i++List.replicate (n+1 - i) ((.str [],.int .i64 0):Pr)).drop (i+1)=D;have hDl:D.length=n - i:=by rw[←hD,List.length_drop,hlen];omega
  have l1:(l.take i++[e]).length=i+1:=by simp;omega
  have a1:(l.take i++[e]++D).take (i+1)=l.take i++[e]:=by rw[List.take_append_of_le_length (by omega),List.take_of_length_le (by omega)]
  have a2:(l.take i++[e]++D).drop (i+1+(n - i))=[]:=List.drop_eq_nil_of_le (by rw[List.length_append];omega);rw[a1,a2];unfold ins;simp
 rw[hfin]
end
end Go.Shade
namespace Go.Shade
open Go.RowKit
def ientb (a b:Ent):Bool:=ivb a.1 b.1&&(ivb a.2.1 b.2.1&&Nat.beq a.2.2 b.2.2)
def ientsb :List Ent->List Ent->Bool
 | [],[]=>true
 | a::l,b::k=>ientb a b&&ientsb l k
 | _,_=>false
def iob :IObj->IObj->Bool
 | .row cs ro,.row ds so=>ivbs cs ds&&(ro==so)
 | .map es c,.map fs d=>ientsb es fs&&Nat.beq c d
 | .dead,.dead=>true
 | _,_=>false
def hpb :Heap->Heap->Bool
 | [],[]=>true
 | a::l,b::k=>iob a b&&hpb l k
 | _,_=>false
theorem ientb_eq {a b:Ent}(h:ientb a b=true):a=b:=by
 obtain⟨a1,a2,a3⟩:=a;obtain⟨b1,b2,b3⟩:=b;simp only[ientb,Bool.and_eq_true]at h;rw[ivb_eq _ _ h.1,ivb_eq _ _ h.2.1,Nat.eq_of_beq_eq_true h.2.2]
theorem ientsb_eq :∀{l k:List Ent},ientsb l k=true->l=k
 | [],[],_=>rfl
 | a::l,b::k,h=>by
  simp only[ientsb,Bool.and_eq_true]at h;rw[ientb_eq h.1,ientsb_eq h.2]
 | [],_::_,h=>by simp[ientsb]at h
 | _::_,[],h=>by simp[ientsb]at h
theorem iob_eq {a b:IObj}(h:iob a b=true):a=b:=by
 cases a<;>cases b<;>simp only[iob]at h<;>first
  | (cases h;done)
  | rfl
  | (simp only[Bool.and_eq_true,beq_iff_eq]at h;rw[ivbs_eq _ _ h.1,h.2];done)
  | (simp only[Bool.and_eq_true]at h;rw[ientsb_eq h.1,Nat.eq_of_beq_eq_true h.2];done)
theorem hpb_eq :∀{l k:Heap},hpb l k=true->l=k
 | [],[],_=>rfl
 | a::l,b::k,h=>by
  simp only[hpb,Bool.and_eq_true]at h;rw[iob_eq h.1,hpb_eq h.2]
 | [],_::_,h=>by simp[hpb]at h
 | _::_,[],h=>by simp[hpb]at h
def canon (h0:Nat)(o:IV×Heap):Option (IV×Heap) :=
 if Nat.ble h0 o.2.length&&(o.2.take h0).all (inBO h0)then
  match inB h0 o.1,o.1 with
  | true,v=>some (v,o.2.take h0)
  | false,.tuple (.slice q 0 n lb ex sz::vs)=>match o.2[q]? with
   | some (.row cs false)=>if Nat.ble h0 q&&(inBs h0 cs&&inBs h0 vs)then some (.tuple (.slice h0 0 n lb ex sz::vs),o.2.take h0++[.row cs false])else none
   | _=>none
  | _,_=>none
 else none
def wpick (h0:Nat):List (IV×Heap)->Option (IV×Heap)
 | []=>none
 | [o]=>some o
 | o::os=>match canon h0 o with
  | none=>none
  | some c=>if os.all (fun p=>match canon h0 p with
   | some d=>ivb d.1 c.1&&hpb d.2 c.2
   | none=>false)then some c else none
theorem canon_post {B0:Nat}{w0 w w':World}{m m':Mp}{H:Heap}{o c:IV×Heap}{u:Value}(hR:Rel B0 w0 m H w)(hext:Ext m m')(hR':Rel B0 w0 m' o.2 w')(hu:VR m' o.1 u)(hc:canon H.length o=some c) :
  ∃m'',Ext m m''/\Rel B0 w0 m'' c.2 w'/\VR m'' c.1 u:=by
 unfold canon at hc;split at hc
 ·rename_i hok;simp only[Bool.and_eq_true,List.all_eq_true]at hok;obtain⟨h1,h2⟩:=hok;have h1:=nble h1;have hlen:(o.2.take H.length).length=H.length:=by rw[List.length_take];omega
  have old:∀(i:Nat) x,(o.2.take H.length)[i]? =some x->i<H.length/\inBO H.length x=true/\o.2[i]? =some x:=by
   intro i x hi;have hm:=h2 x (List.mem_of_getElem? hi);rw[List.getElem?_take]at hi;split at hi
   ·rename_i hlt;exact⟨hlt,hm,hi⟩
   ·cases hi
  split at hc
  ·rename_i v hv
   cases hc
   refine⟨sub (o.2.take H.length).length id m',fun i l hi=> ?_,hR'.gc id (fun i x hi=> ?_) (fun _ _ _ _ h=>h),VR_ren _ u (by rw[hlen];exact hv) ?_⟩
   ·simp only[sub,hlen,if_pos (hR.dom i l hi)];exact hext i l hi
   ·obtain⟨a,b,d⟩:=old i x hi;rw[hlen];exact⟨b,by rw[renO_id (n:=H.length) (f:=id) (fun _ _=>rfl) b];exact d⟩
   ·rw[ren_id (n:=H.length) (f:=id) (fun _ _=>rfl) _ hv];exact hu
  ·rename_i q n lb ex sz vs hv he;rw[he]at hu;split at hc
   ·rename_i cs hq;split at hc
    ·rename_i hok
     cases hc
     simp only[Bool.and_eq_true]at hok;obtain⟨g1,g2,g3⟩:=hok;have g1:=nble g1;have hlK:(o.2.take H.length++[IObj.row cs false]).length=H.length+1:=by rw[List.length_append,hlen];rfl
     have hf:∀i,i<H.length->(fun i=>if i=H.length then q else i) i=i:=fun i hi=>if_neg (by omega);refine⟨sub (o.2.take H.length++[IObj.row cs false]).length (fun i=>if i=H.length then q else i) m',fun i l hi=> ?_,hR'.gc (fun i=>if i=H.length then q else i) (fun i x hi=> ?_) (fun i j hi hj hne=> ?_),VR_ren _ u ?_ ?_⟩
     ·have:=hR.dom i l hi;simp only[sub,hlK];rw[if_pos (by omega),if_neg (by omega)];exact hext i l hi
     ·rw[hlK];rw[List.getElem?_append]at hi;split at hi
      ·obtain⟨a,b,d⟩:=old i x hi;refine⟨inBO_le (by omega) b,?_⟩;rw[renO_id hf b];show o.2[if i=H.length then q else i]? =_;rw[if_neg (by omega)];exact d
      ·rename_i hge;rw[hlen]at hge hi;have hz:i - H.length=0:=by
        rcases Nat.eq_zero_or_pos (i - H.length)with e | e
        ·exact e
        ·rw[List.getElem?_eq_none (by simp;omega)]at hi;exact absurd hi (by simp)
       rw[hz]at hi;simp at hi;subst hi;have hi':i=H.length:=by omega
       subst hi';refine⟨inBs_le (by omega) cs g2,?_⟩;simp only[if_true,renO];rw[rens_id hf cs g2];exact hq
     ·rw[hlK]at hi hj;by_cases e1:i=H.length
      ·rw[if_pos e1,if_neg (by omega)];omega
      ·rw[if_neg e1];by_cases e2:j=H.length
       ·rw[if_pos e2];omega
       ·rw[if_neg e2];exact hne
     ·rw[hlK];simp only[inB,inBs,Bool.and_eq_true,decide_eq_true_eq];exact⟨by omega,inBs_le (by omega) vs g3⟩
     ·simp only[ren,rens,if_true];rw[rens_id hf vs g3];exact hu
    ·cases hc
   ·cases hc
  ·cases hc
 ·cases hc
theorem wpick_canon {h0:Nat}:∀{L:List (IV×Heap)} {c:IV×Heap},wpick h0 L=some c->(L=[c])∨∀o∈L,canon h0 o=some c
 | [],c,h=>by cases h
 | [o],c,h=>by cases h;exact .inl rfl
 | o::p::os,c,h=>by
  right;simp only[wpick]at h;split at h
  ·cases h
  ·rename_i d hd;split at h
   ·rename_i hall
    cases h
    intro x hx;rcases List.mem_cons.1 hx with rfl | hx
    ·exact hd
    ·have:=List.all_eq_true.1 hall x hx;split at this
     ·rename_i e he;simp only[Bool.and_eq_true]at this;rw[he]
      congr 1
      exact Prod.ext (ivb_eq _ _ this.1) (hpb_eq this.2)
     ·cases this
   ·cases h
theorem sim_pick {P:Program}{f:FuncId}{args:List IV}{H:Heap}{L:List (IV×Heap)}{c:IV×Heap}(h:SimW P f args H (fun r H'=>(r,H')∈L))(hc:wpick H.length L=some c):SimCall P f args H c.1 c.2:=by
 intro B0 w0 w m us hR hA;refine(h B0 w0 w m us hR hA).mono ?_;rintro e w' ⟨r,H',m',u,hmem,he,hext,hR',hu⟩;rcases wpick_canon hc with rfl | hall
 ·have:=List.mem_singleton.1 hmem;subst this;exact⟨m',u,he,hext,hR',hu⟩
 ·obtain⟨m'',k1,k2,k3⟩:=canon_post hR hext hR' hu (hall _ hmem);exact⟨m'',u,he,k1,k2,k3⟩
def kcall (P:Program)(N:Nat):Nat->Oracle
 | 0=>fun _ _ _=>none
 | n+1=>fun f args H=>match P.funcs[f]? with
  | none=>none
  | some fn=>match lowF P fn with
   | none=>none
   | some lf=>if Nat.ble args.length lf.n then
     match lrunO (callable P) (kcall P N n) N lf args H with
     | none=>none
     | some L=>wpick H.length L
    else none
theorem sound_kcall {P:Program}(hm:P.follows .mixedOrders=true)(N:Nat):∀n,Sound P (kcall P N n)
 | 0=>fun f args H r H' e=>by cases e
 | n+1=>fun f args H r H' e=>by
  simp only[kcall]at e;split at e
  ·cases e
  ·rename_i fn hf;split at e
   ·cases e
   ·rename_i lf hl;split at e
    ·rename_i hlen;split at e
     ·cases e
     ·rename_i L hL;exact sim_pick (sim_W (sound_kcall hm N n) (fun _ h=>h) hm hf hl (nble hlen) (lrunO_W hL)) e
    ·cases e
theorem sim_closed {P:Program}{f:FuncId}{args:List IV}{v:IV}{H':Heap}(h:SimCall P f args [] v H')(ha:inBs 0 args=true)(hv:inB 0 v=true)(H:Heap):SimCall P f args H v H:=by
 intro B0 w0 w m us hR hA;have hA0:VRs (fun _=>none) args us.toList:=by
  have:=VRs_ren (f:=id) (n:=0) (m:=m) args us.toList ha (by rw[rens_id (n:=0) (fun _ h=>absurd h (by omega)) args ha];exact hA);exact VRs.ext (fun i l hi=>by simp[sub]at hi) _ _ this
 refine(h w.heap.size w w _ us (rel_start w) hA0).mono ?_;rintro e w' ⟨m',u,he,hext,hR',hu⟩;refine⟨m,u,he,Ext.refl m,hR.under hR'.below,?_⟩;have:=VR_ren (f:=id) (n:=0) (m:=m') v u hv (by rw[ren_id (n:=0) (fun _ h=>absurd h (by omega)) v hv];exact hu);exact VR.ext (fun i l hi=>by simp[sub]at hi) _ _ this
def isT :Option (IV×Heap)->Bool
 | some (.bool true,_)=>true
 | _=>false
end Go.Shade
namespace Go.Shade
def LoF (P:Program)(f:FuncId)(lf:LFun):Prop:=(∃fn,P.funcs[f]? =some fn/\lowF P fn=some lf)/\callable P f=true
section
variable {P : Program} {T : Table}
theorem denLo {f:FuncId}{lf:LFun}(h0:T f=none)(hl:LoF P f lf)(N:Nat){args:List IV}{H:Heap}{x:IV×Heap}(hn:args.length<=lf.n)(hr:lrunK (callable P) (den P T) N lf args H=some x):den P T f args H=some x:=by
 obtain⟨⟨fn,g1,g2⟩,_⟩:=hl;exact low_den (cal:=callable P) (fun _ h=>h) h0 g1 g2 hn (lrunK_le hr)
theorem denWp {f:FuncId}{lf:LFun}(h0:T f=none)(hl:LoF P f lf)(N:Nat){args:List IV}{H:Heap}{Q:Out->Prop}(hn:args.length<=lf.n)(hr:Wp (lrunK (callable P) (den P T) N lf args H) Q):Wp (den P T f args H) Q:=by
 obtain⟨x,h1,h2⟩:=hr;exact⟨x,denLo h0 hl N hn h1,h2⟩
end
end Go.Shade
namespace Go.Shade
variable {H : Heap}
def insL (fr:FuncId):LFun:=⟨lappN 7 (sInsXC0 fr) (.seq (.seq (.reg [⟨some 61,.mv (.t 2),none⟩,⟨some 62,.mv (.t 0),none⟩,⟨some 63,.mv (.t 1),none⟩,⟨some 64,.mv (.t 7),none⟩,⟨some 65,.bin .add (.t 63) (.t 64),none⟩,⟨some 66,.slc (.slice 2) (.t 62) (some (.t 65)) none none,none⟩,⟨some 67,.ovl (.t 61) (.t 66),none⟩,⟨some 68,.un .not (.t 67),none⟩]) (.cond (.t 68) (sInsXC1 fr) .skip)) (sInsXC2 fr)),[.tmp 6],95⟩
def insRs :List LRes:=[(.tmp 6),(.tmp 0),(.tmp 1),(.tmp 2),(.tmp 7),(.tmp 8)]
def insK :KT (IV×Heap):=fun x E H=>match x with
 | .normal=>gIns (lk E 0) (lk E 1) (lk E 2) (lk E 7) (lk E 8) (lk E 68) H
 | .ret=>resK insRs [] E H
 | .exit _=>none
def insR :KT (IV×Heap):=fun x E H=>match x with
 | .ret=>resK insRs [] E H
 | _=>none
theorem insK_ret {E:Sg}{r:Out}(h:resK insRs [] E H=some r):r=(.tuple [lk E 6,lk E 0,lk E 1,lk E 2,lk E 7,lk E 8],H):=by cases h;rfl
theorem insK_nor {E:Sg}{r:Out}(h:insK .normal E H=some r):r=(.tuple [lk E 0,lk E 1,lk E 2,lk E 7,lk E 8],H):=by cases h;rfl
section
variable {cal : FuncId -> Bool} {O : Oracle} {N : Nat} {fr : FuncId}
theorem ins_ret_w {v0 v1 v2 res a b c d:IV}{H':Heap}(hA:∀v8 v68,∃e,sInsXC0S cal O N fr gIns v0 v1 v2 v8 v68 H=some (.tuple [res,a,b,c,d,e],H')):lrunW cal O N (insL fr) [v0,v1,v2] H fun r K=>r=res/\K=H':=by
 unfold lrunW insL;refine lappN_W ?_;show lxW cal O N (sInsXC0 fr) _ H _;obtain⟨e,hA⟩:=hA (.tuple []) (.tuple []);refine lxK_W (k:=insK) (Q:=fun r=>r=(.tuple [res,a,b,c,d,e],H')) ?_ ?_
 ·rw[sInsXC0Eq cal O N fr (k:=insK) gIns (fun _ _=>rfl) (fun _ _=>rfl)];exact⟨_,hA,rfl⟩
 ·rintro x E K r hx rfl
  cases x with
  | exit id=>cases hx
  | normal =>
   have:=insK_nor hx;simp at this
  | ret =>
   have:=insK_ret hx;simp only[Prod.mk.injEq,IV.tuple.injEq,List.cons.injEq]at this;exact⟨[res],by rw[this.1.1];rfl,rfl,this.2.symm⟩
theorem ins_room_w (hrot:∀(H:Heap) (b o n lb r:Nat) (ex:Bool) (l:List Pr),H[b]? =some (.row (fl l) false)->one2 l->1<=r->r<n->n<=lb->o+n<=l.length->n<=1000000->O fr [.slice b (2*o) n lb ex 2,.int .i64 (r:Nat)] H=some (.tuple [],H.set b (.row (fl (rot l o n (n - r))) false)))
  {H:Heap} {b n c i:Nat} {l:List Pr} {e:Pr} {vb vo vl:Nat} {vx:Bool} {vs:Nat} (hb:H[b]? =some (.row (fl l) false)) (hl:l.length=n) (hin:i<n) (hc:n<c) (h1:one2 l) (he:e.1.one=true/\e.2.one=true) (hv:∀cs,OneAt (H.set b (.row cs false)) (.slice vb vo 1 vl vx vs) e) (hvr:rowThere H[vb]? =true) (hn9:n<1000000) :
  lrunW cal O N (insL fr) [.slice b 0 n c true 2,.int .i64 (i:Nat),.slice vb vo 1 vl vx vs] H fun r K=>r=.slice b 0 (n+1) c true 2/\K=H.set b (.row (fl (ins l i e)) false):=by
 have hv0:OneAt H (.slice vb vo 1 vl vx vs) e:=by have:=hv (fl l);rwa [List.set_getElem?_self' hb]at this
 unfold lrunW insL;refine lappN_W ?_;show lxW cal O N (sInsXC0 fr) _ H _;refine lxK_W (k:=insK) (Q:=fun r=>r=(.tuple [.slice b 0 (n+1) c true 2,.int .i64 (i:Nat),.slice vb vo 1 vl vx vs,.int .i64 1,.int .i64 (n:Nat)],H)) ?_ ?_
 ·rw[sInsXC0Eq cal O N fr (k:=insK) gIns (fun _ _=>rfl) (fun _ _=>rfl)];exact⟨_,ins_room hin hc hv0 (by omega),rfl⟩
 ·rintro x E K r hx rfl
  cases x with
  | exit id=>cases hx
  | ret=>have:=insK_ret hx;simp at this
  | normal =>
   have:=insK_nor hx;simp only[Prod.mk.injEq,IV.tuple.injEq,List.cons.injEq,and_true]at this;obtain⟨⟨b0,b1,b2,b7,b8⟩,rfl⟩:=this;simp only[lxW,lopsW];refine⟨_,lopW_q rfl rfl,fun r hr=> ?_⟩;rw[List.mem_singleton]at hr;subst hr;refine⟨_,lopW_q rfl rfl,fun r hr=> ?_⟩;rw[List.mem_singleton]at hr;subst hr;refine⟨_,lopW_q rfl rfl,fun r hr=> ?_⟩;rw[List.mem_singleton]at hr;subst hr;refine⟨_,lopW_q rfl rfl,fun r hr=> ?_⟩;rw[List.mem_singleton]at hr;subst hr;simp only[pput];refine⟨_,lopW_q (v:=.int .i64 ((i+1:Nat):Int)) rfl ?_,fun r hr=> ?_⟩
   ·show lbin .add (lk E 1) (lk E 7)=_;rw[←b1,←b7,lbin_add,wrap_i64 (by omega) (by omega)];congr 1
   rw[List.mem_singleton]at hr;subst hr;refine⟨_,lopW_q (v:=.slice b (2*(i+1)) (n - i) (c - (i+1)) true 2) rfl ?_,fun r hr=> ?_⟩
   ·show lslice H (.slice 2) (lk E 0) (some (.int .i64 ((i+1:Nat):Int))) none none=_;rw[←b0,show(0:Nat)=2*0 from rfl,sl_from (by omega) (by omega)]
    congr 2<;>omega
   rw[List.mem_singleton]at hr;subst hr;refine⟨[(.bool false,H),(.bool true,H)],?_,fun r hr=> ?_⟩
   ·show stOvl H (lk E 2) (.slice b (2*(i+1)) (n - i) (c - (i+1)) true 2)=_;rw[←b2];simp only[stOvl];rw[if_pos ⟨by omega,by omega,hvr,by rw[hb];rfl⟩]
   have two:r=(.bool false,H)∨r=(.bool true,H):=by simpa using hr
   rcases two with rfl | rfl
   ·refine⟨_,lopW_q (v:=.bool true) rfl rfl,fun r hr=> ?_⟩;rw[List.mem_singleton]at hr;subst hr;simp only[pput];show lxW cal O N (sInsXC1 fr) _ H _;refine lxK_W (k:=insR) (Q:=fun r=>∃v8,r=(.tuple [.slice b 0 (n+1) c true 2,.slice b 0 (n+1) c true 2,.int .i64 (i:Nat),.slice vb vo 1 vl vx vs,.int .i64 1,v8],H.set b (.row (fl (ins l i e)) false))) ?_ ?_
    ·rw[sInsXC1Eq cal O N fr (k:=insR) (fun _ _=>rfl)];show Wp (sInsXC1S cal O N fr (lk E 0) (lk E 1) (lk E 2) (lk E 7) (lk E 8) H) _;rw[←b0,←b1,←b2,←b7,ins_c1 hb hl hin hc h1 he hv (by omega)];exact⟨_,rfl,_,rfl⟩
    ·rintro x σ2 H2 r hx ⟨v8,rfl⟩
     cases x with
     | exit id=>cases hx
     | normal=>cases hx
     | ret =>
      have:=insK_ret hx;simp only[Prod.mk.injEq,IV.tuple.injEq,List.cons.injEq]at this;exact⟨[.slice b 0 (n+1) c true 2],by rw[this.1.1];rfl,rfl,this.2.symm⟩
   ·refine⟨_,lopW_q (v:=.bool false) rfl rfl,fun r hr=> ?_⟩;rw[List.mem_singleton]at hr;subst hr;simp only[pput];show lxW cal O N (sInsXC2 fr) _ H _;refine lxK_W (k:=insR) (Q:=fun r=>r=(.tuple [.slice b 0 (n+1) c true 2,.slice b 0 (n+1) c true 2,.int .i64 (i:Nat),.slice vb vo 1 vl vx vs,.int .i64 1,.int .i64 (n:Nat)],H.set b (.row (fl (ins l i e)) false))) ?_ ?_
    ·rw[sInsXC2Eq cal O N fr (k:=insR) (fun _ _=>rfl)];show Wp (sInsXC2S cal O N fr (lk E 0) (lk E 1) (lk E 2) (lk E 7) (lk E 8) H) _;rw[←b0,←b1,←b2,←b7,←b8,ins_c2 hrot hb hl hin hc h1 he hv hn9];exact⟨_,rfl,rfl⟩
    ·rintro x σ2 H2 r hx rfl
     cases x with
     | exit id=>cases hx
     | normal=>cases hx
     | ret =>
      have:=insK_ret hx;simp only[Prod.mk.injEq,IV.tuple.injEq,List.cons.injEq]at this;exact⟨[.slice b 0 (n+1) c true 2],by rw[this.1.1];rfl,rfl,this.2.symm⟩
end
end Go.Shade
namespace Go.Shade
open Go.RowKit
theorem Rel.shrink {B0:Nat}{w0 w:World}{m:Mp}{H:Heap}(h:Rel B0 w0 m H w){b:Nat}{cs:List IV}(hb:H[b]? =some (.row cs false))(k:Nat):Rel B0 w0 m (H.set b (.row (cs.take k) false)) w:=by
 have held_of:∀{a:Nat} {p:IObj},(H.set b (IObj.row (cs.take k) false))[a]? =some p->∃p',H[a]? =some p'/\(p.held=true->p'.held=true):=by
  intro a p ha;rw[List.getElem?_set]at ha;by_cases e:b=a
  ·subst e;exact⟨_,hb,fun _=>rfl⟩
  ·rw[if_neg e]at ha;exact⟨p,ha,id⟩
 refine⟨h.below,h.base,fun i l hi=>by simpa using h.dom i l hi,fun i o hi=> ?_,fun i j p q la lb ha hb' hp hq hne hma hmb=> ?_⟩
 ·rw[List.getElem?_set]at hi;by_cases e:b=i
  ·subst e;have hlt:=(ges hb).1;simp[hlt]at hi;subst hi;obtain⟨l,C,e,fr,g1,g2,g3,g4,g5,g6,g7⟩:=h.good b _ hb;refine⟨l,C,e,fr,g1,g2,g3,by rw[List.length_take];omega,g5,g6,fun j v hj=> ?_⟩;rw[List.getElem?_take]at hj;split at hj
   ·exact g7 j v hj
   ·cases hj
  ·rw[if_neg e]at hi;exact h.good i o hi
 ·obtain⟨p',ha',hp'⟩:=held_of ha;obtain⟨q',hb'',hq'⟩:=held_of hb';exact h.inj i j p' q' la lb ha' hb'' (hp' hp) (hq' hq) hne hma hmb
theorem Rel.anew {B0:Nat}{w0 w:World}{m:Mp}{H:Heap}(h:Rel B0 w0 m H w){b:Nat}{cs:List IV}(hb:H[b]? =some (.row cs false)){l:Loc}(hl:m b=some l):Rel B0 w0 (grow m H.length l) (H.set b .dead++[.row cs false]) w:=by
 obtain⟨l',C,e,fr,g1,g2,g3,g4,g5,g6,g7⟩:=h.good b _ hb;rw[hl]at g1;cases g1
 have:=(h.onward hb hl (o1:=l.co) (old:=cs) (new:=[]) (nus:=[]) (fun j v hj=>by
  obtain⟨a,u,hu,hr⟩:=g7 j v hj;exact⟨a,u,by rw[cell_of g2];exact hu,hr⟩) (VRs.nil m) rfl (by simpa using g4)).2
 rw[List.append_nil]at this;exact this
theorem oneAt_of {H K:Heap}{vb vo vl vs:Nat}{vx:Bool}{e:Pr}(h:K[vb]? =H[vb]?)(hv:lsl H 2 (.slice vb vo 1 vl vx vs) 1=some [e.1,e.2]):OneAt K (.slice vb vo 1 vl vx vs) e:=by
 refine⟨rfl,rfl,?_⟩;simp only[lxcells,lsl,irow]at hv ⊢;rw[h];exact hv
theorem sim_insert {P:Program}{O:Oracle}(hφ:Sound P O)(hm:P.follows .mixedOrders=true){f fr:FuncId}(hlo:LoF P f (insL fr))
  (hrot:∀(H:Heap) (b o n lb r:Nat) (ex:Bool) (l:List Pr),H[b]? =some (.row (fl l) false)->one2 l->1<=r->r<n->n<=lb->o+n<=l.length->n<=1000000->O fr [.slice b (2*o) n lb ex 2,.int .i64 (r:Nat)] H=some (.tuple [],H.set b (.row (fl (rot l o n (n - r))) false)))
  {H:Heap} {b n lb i vb vo vl vs:Nat} {ex vx:Bool} {l:List Pr} {e:Pr} {cs:List IV} (hb:H[b]? =some (.row cs false)) (hcs:cs.take (2*n)=fl l) (hl:l.length=n) (hn0:0<n) (hin:i<=n) (h1:one2 l) (he:e.1.one=true/\e.2.one=true) (hvb:vb≠b) (hv:lsl H 2 (.slice vb vo 1 vl vx vs) 1=some [e.1,e.2]) (hvr:rowThere H[vb]? =true) (hn9:n<1000000) :
  SimCall P f [.slice b 0 n lb ex 2,.int .i64 (i:Nat),.slice vb vo 1 vl vx vs] H (.slice H.length 0 (n+1) (n+1) false 2) (H.set b .dead++[.row (fl (ins l i e)) false]):=by
 intro B0 w0 w m us hR hA;obtain⟨⟨fn,q1,q2⟩,_⟩:=hlo;have hR1:=hR.shrink hb (2*n);rw[hcs]at hR1;have hlt:=(ges hb).1;have hb1:(H.set b (.row (fl l) false))[b]? =some (.row (fl l) false):=setAt hb;have hlen:(H.set b (IObj.row (fl l) false)).length=H.length:=List.length_set;have hdead:(H.set b (IObj.row (fl l) false)).set b .dead=H.set b .dead:=List.set_set ..;have hvb1:(H.set b (IObj.row (fl l) false))[vb]? =H[vb]? :=List.getElem?_set_ne (Ne.symm hvb);have sim:∀{v0:IV} {K:IV->Heap->Prop},lrunW (callable P) O 0 (insL fr) [v0,.int .i64 (i:Nat),.slice vb vo 1 vl vx vs] (H.set b (.row (fl l) false)) K->SimW P f [v0,.int .i64 (i:Nat),.slice vb vo 1 vl vx vs] (H.set b (.row (fl l) false)) K :=
  fun h=>sim_W hφ (fun _ h=>h) hm q1 q2 (nble rfl) h
 have hA':=hA;simp only[VRs]at hA';obtain⟨v,vs',hus,hv0,hrest⟩:=hA';have hv0':=hv0;simp only[VR]at hv0;obtain⟨ll,o',c,sp,hll,rfl,k1,k2,k3,k4,k5⟩:=hv0;have withV:∀{x:IV},VR m x (.slice (some ⟨ll.cb,o',sp⟩) n c)->VRs m [x,.int .i64 (i:Nat),.slice vb vo 1 vl vx vs] us.toList:=by
  intro x hx;rw[hus];simp only[VRs];exact⟨_,_,rfl,hx,hrest⟩
 by_cases hi:i=n
 ·
  subst hi;have hW:=sim (ins_ret_w (v0:=.slice b 0 i i false 2) (hA:=fun v8 v68=>⟨_,ins_end (cal:=callable P) (O:=O) (N:=0) (fr:=fr) (v8:=v8) (v68:=v68) hb1 hl hn0 h1 he (oneAt_of hvb1 hv) (by omega)⟩));refine(hW B0 w0 w m us hR1 (withV (by simp only[VR];exact⟨ll,o',c,sp,hll,rfl,Nat.le_refl _,by omega,fun h=>(by cases h),fun _=>k4 (by omega),k5⟩))).mono ?_;rintro en w' ⟨r,H',m',u,⟨rfl,rfl⟩,rfl,hext,hR',hu⟩;rw[hlen]at hu;rw[hdead]at hR';exact⟨m',u,rfl,hext,hR',hu⟩
 ·have hex:VR m (.slice b 0 n c true 2) (.slice (some ⟨ll.cb,o',sp⟩) n c):=by
   simp only[VR];exact⟨ll,o',c,sp,hll,rfl,by omega,Nat.le_refl _,fun _=>rfl,fun _=>k4 (by omega),k5⟩
  by_cases hc:n<c
  ·
   have hW:=sim (ins_room_w (cal:=callable P) (O:=O) (N:=0) hrot (c:=c) hb1 hl (by omega) hc h1 he (fun cs'=>oneAt_of (by rw[List.set_set];exact List.getElem?_set_ne (Ne.symm hvb)) hv) (by rw[hvb1];exact hvr) hn9);refine(hW B0 w0 w m us hR1 (withV hex)).mono ?_;rintro en w' ⟨r,H',m',u,⟨rfl,rfl⟩,rfl,hext,hR',hu⟩;rw[List.set_set]at hR';have hll':=hext _ _ hll;have hb2:(H.set b (IObj.row (fl (ins l i e)) false))[b]? =some (.row (fl (ins l i e)) false):=setAt hb;have hR2:=hR'.anew hb2 hll';rw[List.set_set,List.length_set]at hR2;simp only[VR]at hu;obtain⟨l2,o2,c2,sp2,t1,rfl,t2,t3,t4,t5,t6⟩:=hu;rw[hll']at t1;cases t1
   have hdm:=grow_ext hR' ll;rw[List.length_set]at hdm;refine⟨_,_,rfl,hext.trans hdm,hR2,?_⟩;simp only[VR];exact⟨ll,o2,c2,sp2,grow_at _ _ _,rfl,Nat.le_refl _,by omega,fun h=>(by cases h),fun _=>t5 (by omega),t6⟩
  ·
   have hcn:c=n:=by omega
   subst hcn;have hW:=sim (ins_ret_w (v0:=.slice b 0 c c true 2) (hA:=fun v8 v68=>⟨_,ins_grow (cal:=callable P) (O:=O) (N:=0) (fr:=fr) (v8:=v8) (v68:=v68) hb1 hl (by omega) h1 he (fun r=>oneAt_of (by rw[List.getElem?_append_left (by rw[hlen];cases hq:H[vb]? with | none=>rw[hq]at hvr;cases hvr | some o=>exact(ges hq).1)];exact hvb1) hv) (by omega)⟩));refine(hW B0 w0 w m us hR1 (withV hex)).mono ?_;rintro en w' ⟨r,H',m',u,⟨rfl,rfl⟩,rfl,hext,hR',hu⟩;have hk:=hR'.kill b;rw[List.set_append_left _ _ (by rw[hlen];exact hlt),hdead]at hk;rw[hlen]at hu;exact⟨m',u,rfl,hext,hk,hu⟩
end Go.Shade
namespace Go.Shade
open Go.RowKit
def unfl :List IV->Option (List Pr)
 | []=>some []
 | x::y::l=>if x.one&&y.one then(unfl l).map fun k=>(x,y)::k else none
 | [_]=>none
theorem unfl_eq :∀{cs:List IV} {l:List Pr},unfl cs=some l->cs=fl l/\one2 l
 | [],l,h=>by cases h;exact⟨rfl,fun p hp=>by cases hp⟩
 | [x],l,h=>by cases h
 | x::y::cs,l,h=>by
  simp only[unfl]at h;split at h
  ·rename_i ho;simp only[Bool.and_eq_true]at ho;obtain⟨k,hk,rfl⟩:=Option.map_eq_some_iff.1 h;obtain⟨h1,h2⟩:=unfl_eq hk;refine⟨by rw[h1];rfl,fun p hp=> ?_⟩;rcases List.mem_cons.1 hp with rfl | hp
   ·exact ho
   ·exact h2 p hp
  ·cases h
def insT (args:List IV)(H:Heap):Option (IV×Heap) :=
 match args with
 | [.slice b 0 n lb ex 2,.int .i64 i,.slice vb vo 1 vl vx vs]=>match H[b]? with
  | some (.row cs false)=>match unfl (cs.take (2*n)),lsl H 2 (.slice vb vo 1 vl vx vs) 1 with
   | some l,some [e1,e2] =>
    if Nat.beq l.length n&&(Nat.blt 0 n&&(decide (0<=i)&&(Nat.ble i.toNat n&&(e1.one&&(e2.one&&(!Nat.beq vb b&&(rowThere H[vb]? &&Nat.blt n 1000000)))))))then
     some (.slice H.length 0 (n+1) (n+1) false 2,H.set b .dead++[.row (fl (ins l i.toNat (e1,e2))) false])
    else if Nat.beq n 0&&(decide (i=0)&&(Nat.blt 0 lb&&(Nat.ble 2 cs.length&&(e1.one&&e2.one))))then some (.slice b 0 1 lb ex 2,H.set b (.row (putAt cs 0 [e1,e2]) false))
    else none
   | _,_=>none
  | _=>none
 | [.nilSlice,.int .i64 0,.slice vb vo 1 vl vx vs]=>match lsl H 2 (.slice vb vo 1 vl vx vs) 1 with
  | some [e1,e2]=>if e1.one&&e2.one then some (.slice H.length 0 1 1 false 2,H++[.row [e1,e2] false])else none
  | _=>none
 | _=>none
theorem ins_zero {cal:FuncId->Bool}{O:Oracle}{N:Nat}{fr:FuncId}{H:Heap}{b lb:Nat}{ex:Bool}{cs:List IV}{v:IV}{e:Pr}{v8 v68:IV}(hb:H[b]? =some (.row cs false))(hlb:0<lb)(hcs:2<=cs.length)(he:e.1.one=true/\e.2.one=true)(hv:OneAt H v e) :
  sInsXC0S cal O N fr gIns (.slice b 0 0 lb ex 2) (.int .i64 0) v v8 v68 H=some (.tuple [.slice b 0 1 lb ex 2,.slice b 0 0 lb ex 2,.int .i64 0,v,.int .i64 1,.int .i64 0],H.set b (.row (putAt cs 0 [e.1,e.2]) false)):=by
 unfold sInsXC0S;have s1:lslice H (.slice 2) (.slice b 0 0 lb ex 2) (some (.int .i64 0)) none none=some (.slice b 0 0 lb ex 2):=by
  simp[lslice,bnd]
 have s2:llen H .slice (.slice b 0 0 lb ex 2)=some (.int .i64 0):=rfl;rw[s1,ob_some,hv.1,ob_some,lbin_eql,ob_some,decide_eq_false (by omega),cnd_false,s2,ob_some,lbin_eql,ob_some,decide_eq_true rfl,cnd_true];have happ:lapp H 2 24 (.slice b 0 0 lb ex 2) v=some (.slice b 0 1 lb ex 2,H.set b (.row (putAt cs 0 [e.1,e.2]) false)):=by
  unfold lapp lappend;simp only[hv.2.1,Option.bind_some];rw[if_neg (by omega),hv.2.2];simp only[Option.bind_some];rw[if_pos ⟨rfl,by simp[he.1,he.2]⟩];simp only[hb];rw[if_pos (by omega),if_pos (by simpa using hcs)]
 rw[happ,ob_some]
theorem sound_insT {P:Program}{O:Oracle}(hφ:Sound P O)(hm:P.follows .mixedOrders=true){f fr:FuncId}(hlo:LoF P f (insL fr))
  (hrot:∀(H:Heap) (b o n lb r:Nat) (ex:Bool) (l:List Pr),H[b]? =some (.row (fl l) false)->one2 l->1<=r->r<n->n<=lb->o+n<=l.length->n<=1000000->O fr [.slice b (2*o) n lb ex 2,.int .i64 (r:Nat)] H=some (.tuple [],H.set b (.row (fl (rot l o n (n - r))) false)))
  (args:List IV) (H:Heap) (r:IV) (H':Heap) (e:insT args H=some (r,H')):SimCall P f args H r H':=by
 unfold insT at e;split at e
 ·rename_i b n lb ex i vb vo vl vx vs;split at e
  ·rename_i cs hb;split at e
   ·rename_i l e1 e2 hl hv;split at e
    ·rename_i hc;simp only[Bool.and_eq_true,Bool.not_eq_true',decide_eq_true_eq]at hc;obtain⟨c1,c2,c3,c4,c5,c6,c7,c8,c9⟩:=hc
     cases e
     obtain⟨u1,u2⟩:=unfl_eq hl;have c2:1<=n:=by simpa[Nat.blt]using c2
     have c9:n<1000000:=by simpa[Nat.blt_eq]using c9
     have:=sim_insert hφ hm hlo hrot (i:=i.toNat) (lb:=lb) (ex:=ex) (e:=(e1,e2)) hb u1 (Nat.eq_of_beq_eq_true c1) c2 (nble c4) u2 ⟨c5,c6⟩ (fun h=>by rw[h,Nat.beq_refl]at c7;cases c7) hv c8 c9;rw[show((i.toNat:Nat):Int)=i by omega]at this;exact this
    ·split at e
     ·rename_i hc;simp only[Bool.and_eq_true,decide_eq_true_eq]at hc;obtain⟨c1,c2,c3,c4,c5,c6⟩:=hc
      cases e
      have c1:=Nat.eq_of_beq_eq_true c1;have c3:1<=lb:=by simpa[Nat.blt]using c3
      subst c1 c2;obtain⟨⟨fn,q1,q2⟩,_⟩:=hlo;have hW:=sim_W hφ (fun _ h=>h) hm q1 q2 (nble rfl) (ins_ret_w (cal:=callable P) (N:=0) (H:=H) (hA:=fun v8 v68=>⟨_,ins_zero (cal:=callable P) (O:=O) (N:=0) (fr:=fr) (v8:=v8) (v68:=v68) (ex:=ex) (e:=(e1,e2)) hb (show 0<lb from c3) (nble c4) ⟨c5,c6⟩ (oneAt_of rfl hv)⟩));intro B0 w0 w m us hR hA;refine(hW B0 w0 w m us hR hA).mono ?_;rintro en w' ⟨r,H',m',u,⟨rfl,rfl⟩,rfl,hext,hR',hu⟩;exact⟨m',u,rfl,hext,hR',hu⟩
     ·cases e
   ·cases e
  ·cases e
 ·rename_i vb vo vl vx vs;split at e
  ·rename_i e1 e2 hv;split at e
   ·rename_i hc;simp only[Bool.and_eq_true]at hc
    cases e
    obtain⟨⟨fn,q1,q2⟩,_⟩:=hlo;have hW:=sim_W hφ (fun _ h=>h) hm q1 q2 (nble rfl) (ins_ret_w (cal:=callable P) (N:=0) (H:=H) (hA:=fun v8 v68=>⟨_,ins_nil (cal:=callable P) (O:=O) (N:=0) (fr:=fr) (v8:=v8) (v68:=v68) (e:=(e1,e2)) hc (oneAt_of rfl hv)⟩));intro B0 w0 w m us hR hA;refine(hW B0 w0 w m us hR hA).mono ?_;rintro en w' ⟨r,H',m',u,⟨rfl,rfl⟩,rfl,hext,hR',hu⟩;exact⟨m',u,rfl,hext,hR',hu⟩
   ·cases e
  ·cases e
 ·cases e
def kcallT (P:Program)(T:Table)(N:Nat):Nat->Oracle
 | 0=>fun _ _ _=>none
 | n+1=>fun f args H=>match T f with
  | some g=>g args H
  | none=>match P.funcs[f]? with
   | none=>none
   | some fn=>match lowF P fn with
    | none=>none
    | some lf=>if Nat.ble args.length lf.n then
      match lrunO (callable P) (kcallT P T N n) N lf args H with
      | none=>none
      | some L=>wpick H.length L
     else none
theorem sound_kcallT {P:Program}{T:Table}(hT:SoundT P T)(hm:P.follows .mixedOrders=true)(N:Nat):∀n,Sound P (kcallT P T N n)
 | 0=>fun f args H r H' e=>by cases e
 | n+1=>fun f args H r H' e=>by
  simp only[kcallT]at e;split at e
  ·rename_i g hg;exact hT f g hg args H r H' e
  ·split at e
   ·cases e
   ·rename_i fn hf;split at e
    ·cases e
    ·rename_i lf hl;split at e
     ·rename_i hlen;split at e
      ·cases e
      ·rename_i L hL;exact sim_pick (sim_W (sound_kcallT hT hm N n) (fun _ h=>h) hm hf hl (nble hlen) (lrunO_W hL)) e
     ·cases e
theorem sim_awakeT {P:Program}{T:Table}(hT:SoundT P T)(hm:P.follows .mixedOrders=true){N n:Nat}{f:FuncId}(h:isT (kcallT P T N n f [] [])=true)(H:Heap):SimCall P f [] H (.bool true) H:=by
 unfold isT at h;split at h
 ·rename_i H' e;exact sim_closed (sound_kcallT hT hm N n f [] [] _ _ e) rfl rfl H
 ·cases h
end Go.Shade
namespace Go.Shade
variable {w : Int}
abbrev Nam :=List UInt8
abbrev cmpB :=Go.Lib.compareBytes
theorem cmpB_self :∀a:Nam,cmpB a a=0
 | []=>rfl
 | x::a=>by
  have:¬x<x:=by simp[UInt8.lt_iff_toNat_lt]
  simp only[cmpB,Go.Lib.compareBytes,this,if_false];exact cmpB_self a
theorem cmpB_eq :∀{a b:Nam},cmpB a b=0->a=b
 | [],[],_=>rfl
 | [],y::b,h=>by simp[cmpB,Go.Lib.compareBytes]at h
 | x::a,[],h=>by simp[cmpB,Go.Lib.compareBytes]at h
 | x::a,y::b,h=>by
  simp only[cmpB,Go.Lib.compareBytes]at h;split at h
  ·cases h
  ·split at h
   ·cases h
   ·rename_i h1 h2;have:x=y:=UInt8.toNat_inj.1 (by simp only[UInt8.lt_iff_toNat_lt]at h1 h2;omega);rw[this,cmpB_eq h]
theorem cmpB_flip :∀(a b:Nam),cmpB b a= - cmpB a b
 | [],[]=>rfl
 | [],y::b=>rfl
 | x::a,[]=>rfl
 | x::a,y::b=>by
  simp only[cmpB,Go.Lib.compareBytes];by_cases h1:x<y
  ·have h2:¬y<x:=by simp only[UInt8.lt_iff_toNat_lt]at *;omega
   simp only[h1,h2,if_true,if_false];rfl
  ·by_cases h2:y<x
   ·simp only[h1,h2,if_true,if_false]
   ·rw[if_neg h1,if_neg h2,if_neg h2,if_neg h1];exact cmpB_flip a b
theorem cmpB_trans :∀{a b c:Nam},cmpB a b<0->cmpB b c<0->cmpB a c<0
 | [],[],_,h,_=>by simp[cmpB,Go.Lib.compareBytes]at h
 | _,_::_,[],_,h=>by simp[cmpB,Go.Lib.compareBytes]at h
 | _,[],[],_,h=>by simp[cmpB,Go.Lib.compareBytes]at h
 | _::_,[],_::_,h,_=>by simp[cmpB,Go.Lib.compareBytes]at h
 | [],y::b,z::c,_,_=>by simp[cmpB,Go.Lib.compareBytes]
 | x::a,y::b,z::c,h,k=>by
  simp only[cmpB,Go.Lib.compareBytes,UInt8.lt_iff_toNat_lt]at *;by_cases h1:x.toNat<y.toNat
  ·by_cases k1:y.toNat<z.toNat
   ·rw[if_pos (by omega)];omega
   ·rw[if_neg k1]at k;by_cases k2:z.toNat<y.toNat
    ·rw[if_pos k2]at k;omega
    ·rw[if_pos (by omega)];omega
  ·rw[if_neg h1]at h;by_cases h2:y.toNat<x.toNat
   ·rw[if_pos h2]at h;omega
   ·rw[if_neg h2]at h;by_cases k1:y.toNat<z.toNat
    ·rw[if_pos (by omega)];omega
    ·rw[if_neg k1]at k;by_cases k2:z.toNat<y.toNat
     ·rw[if_pos k2]at k;omega
     ·rw[if_neg k2]at k;rw[if_neg (by omega),if_neg (by omega)];exact cmpB_trans h k
abbrev Dr :=List (Nam×Int)
def SrtD :Dr->Prop
 | []=>True
 | e::l=>(∀f∈l,cmpB e.1 f.1<0)/\SrtD l
def lookD (s:Nam):Dr->Option Int
 | []=>none
 | e::l=>if e.1=s then some e.2 else lookD s l
def setD (s:Nam)(v:Int):Dr->Dr
 | []=>[(s,v)]
 | e::l=>if cmpB e.1 s<0 then e::setD s v l else if e.1=s then(s,v)::l else(s,v)::e::l
def delD (s:Nam):Dr->Dr
 | []=>[]
 | e::l=>if e.1=s then l else e::delD s l
theorem SrtD.app :∀{a b:Dr},SrtD (a++b)->SrtD a/\SrtD b/\∀e∈a,∀f∈b,cmpB e.1 f.1<0
 | [],b,h=>⟨trivial,h,fun _ h=>by cases h⟩
 | x::a,b,h=>by
  obtain⟨h1,h2⟩:=h;obtain⟨k1,k2,k3⟩:=SrtD.app h2;refine⟨⟨fun f hf=>h1 f (List.mem_append_left _ hf),k1⟩,k2,fun e he f hf=> ?_⟩;rcases List.mem_cons.1 he with rfl | he
  ·exact h1 f (List.mem_append_right _ hf)
  ·exact k3 e he f hf
theorem SrtD.mk :∀{a b:Dr},SrtD a->SrtD b->(∀e∈a,∀f∈b,cmpB e.1 f.1<0)->SrtD (a++b)
 | [],b,_,h,_=>h
 | x::a,b,h,k,hx=>⟨fun f hf=>by
   rcases List.mem_append.1 hf with hf | hf
   ·exact h.1 f hf
   ·exact hx x (by simp) f hf,SrtD.mk h.2 k fun e he=>hx e (List.mem_cons_of_mem _ he)⟩
theorem ltne {a b:Nam}(h:cmpB a b<0):a≠b:=fun e=>by subst e;rw[cmpB_self]at h;omega
theorem lookD_app {s:Nam}:∀{a b:Dr},(∀e∈a,cmpB e.1 s<0)->lookD s (a++b)=lookD s b
 | [],b,_=>rfl
 | x::a,b,h=>by
  show(if x.1=s then _ else _)=_;rw[if_neg (ltne (h x (by simp)))];exact lookD_app fun e he=>h e (List.mem_cons_of_mem _ he)
theorem setD_app {s:Nam}{v:Int}:∀{a b:Dr},(∀e∈a,cmpB e.1 s<0)->setD s v (a++b)=a++setD s v b
 | [],b,_=>rfl
 | x::a,b,h=>by
  show(if cmpB x.1 s<0 then _ else _)=_;rw[if_pos (h x (by simp))];exact congrArg (x:: ·) (setD_app fun e he=>h e (List.mem_cons_of_mem _ he))
theorem delD_app {s:Nam}:∀{a b:Dr},(∀e∈a,cmpB e.1 s<0)->delD s (a++b)=a++delD s b
 | [],b,_=>rfl
 | x::a,b,h=>by
  show(if x.1=s then _ else _)=_;rw[if_neg (ltne (h x (by simp)))];exact congrArg (x:: ·) (delD_app fun e he=>h e (List.mem_cons_of_mem _ he))
theorem lookD_gt {s:Nam}:∀{b:Dr},(∀e∈b,0<cmpB e.1 s)->lookD s b=none
 | [],_=>rfl
 | x::b,h=>by
  show(if x.1=s then _ else _)=_;rw[if_neg (fun e=>by have:=h x (by simp);rw[e,cmpB_self]at this;omega)];exact lookD_gt fun e he=>h e (List.mem_cons_of_mem _ he)
theorem setD_gt {s:Nam}{v:Int}{b:Dr}(h:∀e∈b,0<cmpB e.1 s):setD s v b=(s,v)::b:=by
 cases b with
 | nil=>rfl
 | cons x b =>
  have:=h x (by simp);show(if cmpB x.1 s<0 then _ else _)=_;rw[if_neg (by omega),if_neg (fun e=>by rw[e,cmpB_self]at this;omega)]
theorem setD_at {s:Nam}{v:Int}{b:Dr}:setD s v ((s,w)::b)=(s,v)::b:=by
 show(if cmpB s s<0 then _ else _)=_;rw[cmpB_self,if_neg (by omega),if_pos rfl]
theorem delD_at {s:Nam}{b:Dr}:delD s ((s,w)::b)=b:=if_pos rfl
theorem lookD_at {s:Nam}{b:Dr}:lookD s ((s,w)::b)=some w:=if_pos rfl
structure PosD (s:Nam)(l:Dr)(i:Nat)(found:Bool):Prop where
 le:i<=l.length
 lo:∀e∈l.take i,cmpB e.1 s<0
 hi:if found=true then ∃v,l.drop i=(s,v)::l.drop (i+1)else ∀e∈l.drop i,0<cmpB e.1 s
theorem PosD.split {s:Nam}{l:Dr}{i:Nat}{f:Bool}(h:PosD s l i f):l=l.take i++l.drop i:=(List.take_append_drop i l).symm
theorem PosD.look {s:Nam}{l:Dr}{i:Nat}{f:Bool}(h:PosD s l i f):lookD s l=if f=true then(l[i]?).map (·.2)else none:=by
 rw[h.split,lookD_app h.lo];have:=h.hi
 cases f with
 | true =>
  rw[if_pos rfl]at this ⊢;obtain⟨v,e⟩:=this;rw[←h.split];have h2:l[i]? =some (s,v):=by
   have:=congrArg (fun k=>k[0]?) e
   simpa using this
  rw[e,lookD_at,h2];rfl
 | false =>
  rw[if_neg (by simp)]at this;rw[lookD_gt this];rfl
theorem setD_srt {s:Nam}{v:Int}:∀{l:Dr},SrtD l->SrtD (setD s v l)
 | [],_=>And.intro (fun _ h=>absurd h (by simp)) trivial
 | x::l,h=>by
  show SrtD (if cmpB x.1 s<0 then _ else _);split
  ·rename_i hx;refine⟨fun f hf=> ?_,setD_srt h.2⟩;have:∀{l:Dr} {f},f∈setD s v l->f=(s,v)∨f∈l:=by
    intro l
    induction l with
    | nil=>intro f hf;exact .inl (by simpa[setD]using hf)
    | cons y l ih =>
     intro f hf;unfold setD at hf;split at hf
     ·rcases List.mem_cons.1 hf with rfl | hf
      ·exact .inr (by simp)
      ·rcases ih hf with h | h
       ·exact .inl h
       ·exact .inr (List.mem_cons_of_mem _ h)
     ·split at hf
      ·rcases List.mem_cons.1 hf with rfl | hf
       ·exact .inl rfl
       ·exact .inr (List.mem_cons_of_mem _ hf)
      ·rcases List.mem_cons.1 hf with rfl | hf
       ·exact .inl rfl
       ·exact .inr hf
   rcases this hf with rfl | hf
   ·exact hx
   ·exact h.1 f hf
  ·rename_i hx;split
   ·rename_i e;exact⟨fun f hf=>by have:=h.1 f hf;rw[e]at this;exact this,h.2⟩
   ·rename_i e;have hlt:cmpB s x.1<0:=by
     have h1:=cmpB_flip x.1 s;have h2:cmpB x.1 s≠0:=fun h=>e (cmpB_eq h);omega
    refine⟨fun f hf=> ?_,h⟩;rcases List.mem_cons.1 hf with rfl | hf
    ·exact hlt
    ·exact cmpB_trans hlt (h.1 f hf)
theorem delD_srt {s:Nam}:∀{l:Dr},SrtD l->SrtD (delD s l)
 | [],_=>trivial
 | x::l,h=>by
  show SrtD (if x.1=s then _ else _);split
  ·exact h.2
  ·refine⟨fun f hf=> ?_,delD_srt h.2⟩;have:∀{l:Dr} {f},f∈delD s l->f∈l:=by
    intro l
    induction l with
    | nil=>intro f hf;exact hf
    | cons y l ih =>
     intro f hf;unfold delD at hf;split at hf
     ·exact List.mem_cons_of_mem _ hf
     ·rcases List.mem_cons.1 hf with rfl | hf
      ·simp
      ·exact List.mem_cons_of_mem _ (ih hf)
   exact h.1 f (this hf)
theorem posD_of {s:Nam}{l:Dr}(hs:SrtD l){i:Nat}(hi:i<=l.length)(h1:∀k e,k<i->l[k]? =some e->cmpB e.1 s<0)(h2:∀k e,i<=k->l[k]? =some e->¬cmpB e.1 s<0) :
  PosD s l i (match l[i]? with | some e=>decide (cmpB e.1 s=0) | none=>false):=by
 refine⟨hi,fun e he=> ?_,?_⟩
 ·obtain⟨k,hk,rfl⟩:=List.mem_iff_getElem.1 he;rw[List.length_take]at hk;exact h1 k _ (by omega) (by rw[List.getElem_take];exact List.getElem?_eq_getElem (by omega))
 ·cases hc:l[i]? with
  | none =>
   simp only;rw[if_neg (by simp)];have:=List.getElem?_eq_none_iff.1 hc;rw[List.drop_of_length_le this];intro e he;cases he
  | some x =>
   simp only;have hlt:=(ges hc).1;have hd:l.drop i=x::l.drop (i+1):=by rw[List.drop_eq_getElem_cons hlt,(ges hc).2]
   by_cases h0:cmpB x.1 s=0
   ·rw[if_pos (by simpa using h0)];exact⟨x.2,by rw[hd,←cmpB_eq h0]⟩
   ·rw[if_neg (by simpa using h0),hd];have hx:0<cmpB x.1 s:=by have:=h2 i x (Nat.le_refl _) hc;omega
    have hsd:=(SrtD.app (a:=l.take i) (b:=l.drop i) (by rw[List.take_append_drop];exact hs)).2.1;rw[hd]at hsd;intro e he;rcases List.mem_cons.1 he with rfl | he
    ·exact hx
    ·have a:=hsd.1 e he;have b:=cmpB_flip x.1 s;have c:=cmpB_trans (show cmpB s x.1<0 by omega) a;have d:=cmpB_flip s e.1;omega
end Go.Shade
namespace Go.Shade
variable {H H' : Heap} {P : Nat -> Prop} {e : Nam × Int} {f g : FuncId} {i j : Nat} {l : Dr} {s : Nam} {sv : IV}
def prs (l:Dr):List Pr:=l.map fun e=>(.str e.1,.int .i64 e.2)
theorem prs_length (l:Dr):(prs l).length=l.length:=by simp[prs]
theorem prs_append (a b:Dr):prs (a++b)=prs a++prs b:=by simp[prs]
theorem prs_one (l:Dr):one2 (prs l):=by
 intro p hp;obtain⟨e,_,rfl⟩:=List.mem_map.1 hp;exact⟨rfl,rfl⟩
theorem prs_get (h:l[i]? =some e):(prs l)[i]? =some (.str e.1,.int .i64 e.2):=by simp[prs,h]
theorem fl_set1 :∀{l:List Pr} {j:Nat} {p:Pr} {x:IV},l[j]? =some p->(fl l).set (2*j+1) x=fl (l.set j (p.1,x))
 | [],j,p,x,h=>by simp at h
 | q::l,0,p,x,h=>by simp at h;subst h;rfl
 | q::l,j+1,p,x,h=>by
  rw[show 2*(j+1)+1=(2*j+1)+2 by omega];simp only[fl,List.set_cons_succ];rw[fl_set1 (by simpa using h)]
theorem fl_get1 {l:List Pr}{p:Pr}(h:l[j]? =some p):(fl l)[2*j+1]? =some p.2:=by
 have:=fl_ld h;have h2:(((fl l).drop (2*j)).take 2)[1]? =some p.2:=by rw[this];rfl
 rw[List.getElem?_take,if_pos (by omega),List.getElem?_drop]at h2;exact h2
theorem fl_putl {l B:List Pr}(h:j+B.length<=l.length):putAt (fl l) (2*j) (fl B)=fl (l.take j++B++l.drop (j+B.length)):=by
 apply List.ext_getElem?;intro k;rw[putAt_get (by rw[fl_length,fl_length];omega),fl_append,fl_append,fl_length,←fl_take,←fl_drop];have h1:((fl l).take (2*j)).length=2*j:=by rw[List.length_take,fl_length];omega
 by_cases e1:k<2*j
 ·rw[if_neg (by omega),List.append_assoc,List.getElem?_append_left (by omega),List.getElem?_take,if_pos e1]
 ·rw[List.append_assoc,List.getElem?_append_right (by omega),h1];by_cases e2:k<2*j+2*B.length
  ·rw[if_pos (by omega),List.getElem?_append_left (by rw[fl_length];omega)]
  ·rw[if_neg (by omega),List.getElem?_append_right (by rw[fl_length];omega),fl_length,List.getElem?_drop]
   congr 1;omega
def DSl (P:Nat->Prop)(H:Heap)(sv:IV)(l:Dr):Prop :=
 (sv=.nilSlice/\l=[])∨∃r rest ex,sv=.slice r 0 l.length (l.length+rest.length) ex 2/\P r/\one2 rest/\0<l.length+rest.length/\H[r]? =some (.row (fl (prs l++rest)) false)
theorem DSl.frame {F:Nat->Prop}(h:DSl P H sv l)(k:Frame F H H')(hf:∀i,P i->¬F i):DSl P H' sv l:=by
 rcases h with h | ⟨r,rest,ex,h1,h2,h3,h4,h5⟩
 ·exact .inl h
 ·exact .inr ⟨r,rest,ex,h1,h2,h3,h4,k.get (hf r h2) h5⟩
theorem DSl.kp' (h:DSl P H sv l)(k:Frame NoF H H'):DSl P H' sv l:=h.frame k fun _ _ h=>h
theorem DSl.mono {Q:Nat->Prop}(h:DSl P H sv l)(k:∀i,P i->Q i):DSl Q H sv l:=by
 rcases h with h | ⟨r,rest,ex,h1,h2,h3⟩
 ·exact .inl h
 ·exact .inr ⟨r,rest,ex,h1,k r h2,h3⟩
theorem DSl.len (h:DSl P H sv l):llen H .slice sv=some (.int .i64 (l.length:Nat)):=by
 rcases h with⟨rfl,rfl⟩ | ⟨r,rest,ex,rfl,_⟩<;>rfl
theorem DSl.one {P:Nat->Prop}{H:Heap}{sv:IV}{l:Dr}(h:DSl P H sv l):sv.one=true:=by
 rcases h with⟨rfl,rfl⟩ | ⟨r,rest,ex,rfl,_⟩<;>rfl
theorem DSl.ix (h:DSl P H sv l)(hi:l[i]? =some e):∃r rest ex,sv=.slice r 0 l.length (l.length+rest.length) ex 2/\P r/\one2 rest/\H[r]? =some (.row (fl (prs l++rest)) false)/\lix 2 sv (.int .i64 (i:Nat))=some (.ptr r (2*i))/\lloadn H 2 (.ptr r (2*i))=some (.agg [.str e.1,.int .i64 e.2])/\lload1 H (.ptr r (2*i+1))=some (.int .i64 e.2):=by
 have hlt:=(ges hi).1;rcases h with⟨rfl,rfl⟩ | ⟨r,rest,ex,rfl,h2,h3,h4,h5⟩
 ·simp at hlt
 ·have hg:(prs l++rest)[i]? =some (.str e.1,.int .i64 e.2):=by rw[List.getElem?_append_left (by rw[prs_length];exact hlt)];exact prs_get hi
  exact⟨r,rest,ex,rfl,h2,h3,h5,by rw[lix_slice,if_pos (by omega)];simp;omega,ld2 h5 hg,by rw[ld1 h5];exact fl_get1 hg⟩
structure DirOk (P:Nat->Prop)(H:Heap)(d:Nat)(l:Dr):Prop where
 own:P d
 lt:∀i,P i->i<H.length
 row:∃sv,H[d]? =some (.row [sv] false)/\DSl (fun i=>P i/\i≠d) H sv l
 srt:SrtD l
theorem DirOk.frame {P F:Nat->Prop}{H H':Heap}{d:Nat}{l:Dr}(h:DirOk P H d l)(e:Frame F H H')(hf:∀i,P i->¬F i):DirOk P H' d l:=by
 obtain⟨sv,h3,h4⟩:=h.row;exact⟨h.own,fun i hi=>Nat.lt_of_lt_of_le (h.lt i hi) e.1,⟨sv,e.get (hf d h.own) h3,h4.frame e fun i hi=>hf i hi.1⟩,h.srt⟩
theorem DirOk.kp {d:Nat}(h:DirOk P H d l)(e:Frame NoF H H'):DirOk P H' d l:=h.frame e fun _ _ h=>h
def nameErr (s:Nam):Int:=if s=[]then 2 else if 60<s.length then 36 else if 0<=Go.Lib.indexByte s 0∨0<=Go.Lib.indexByte s 47 then 22 else 0
def setErr (s:Nam):Int:=if nameErr s≠0 then nameErr s else if s=[46]∨s=[46,46]then 22 else 0
section
variable {cal : FuncId -> Bool} {O : Oracle} {N : Nat}
def IbOk (O:Oracle)(f:FuncId):Prop:=∀(H:Heap) (s:Nam) (c:Int),O f [.str s,.int .u8 c] H=some (.int .i64 (Go.Lib.indexByte s c.toNat.toUInt8),H)
theorem ib2_s (H:Heap)(s:Nam)(c:Int):iSibS cal O N (.str s) (.int .u8 c) H=some (.int .i64 (Go.Lib.indexByte s c.toNat.toUInt8),H):=rfl
theorem ib_s (h:IbOk O f)(H:Heap)(s:Nam)(c:Int):stringsIndexByteS cal O N f (.str s) (.int .u8 c) H=some (.int .i64 (Go.Lib.indexByte s c.toNat.toUInt8),H):=by
 unfold stringsIndexByteS;rw[h,ob_some]
def PNameOk (O:Oracle)(f:FuncId):Prop:=∀(H:Heap) (s:Nam),O f [.str s] H=some (.int .i64 (nameErr s),H)
theorem pname_s (h:IbOk O f)(H:Heap)(s:Nam):pathNameS cal O N f (.str s) H=some (.int .i64 (nameErr s),H):=by
 unfold pathNameS nameErr;rw[lbin_seq,ob_some];by_cases h0:s=[]
 ·rw[decide_eq_true h0,cnd_true,if_pos h0]
 ·rw[decide_eq_false h0,cnd_false,if_neg h0,llen_str,ob_some,lbin_gtr,ob_some];by_cases h1:60<s.length
  ·rw[decide_eq_true (by omega),cnd_true,if_pos h1]
  ·rw[decide_eq_false (by omega),cnd_false,if_neg h1,h,ob_some];have e0:(0:Int).toNat.toUInt8=0:=rfl;have e1:(47:Int).toNat.toUInt8=47:=rfl;rw[e0];simp only;rw[lbin_geq,ob_some];by_cases h2:0<=Go.Lib.indexByte s 0
   ·rw[decide_eq_true h2];simp only[isB_tf,gq_false,ge_false,ob_some,lpick_true,cnd_true];rw[if_pos (.inl h2)]
   ·rw[decide_eq_false h2];simp only[isB_ff,gq_true,ge_true,ob_some,lpick_false];rw[h,ob_some,e1];simp only;rw[lbin_geq,ob_some];by_cases h3:0<=Go.Lib.indexByte s 47
    ·rw[decide_eq_true h3,cnd_true,if_pos (.inr h3)]
    ·rw[decide_eq_false h3,cnd_false,if_neg (fun h=>h.elim h2 h3)]
def CmpOk (O:Oracle)(f:FuncId):Prop:=∀(H:Heap) (a b:Nam),O f [.str a,.str b] H=some (.int .i64 (cmpB a b),H)
theorem cmp2_s (H:Heap)(a b:Nam):iBcsS cal O N (.str a) (.str b) H=some (.int .i64 (cmpB a b),H):=rfl
theorem cmp_s (h:CmpOk O f)(H:Heap)(a b:Nam):stringsCompareS cal O N f (.str a) (.str b) H=some (.int .i64 (cmpB a b),H):=by
 unfold stringsCompareS;rw[h,ob_some]
def Find1Ok (O:Oracle)(f:FuncId):Prop:=∀(H:Heap) (a b:Nam) (v:Int),Wp (O f [.agg [.str a,.int .i64 v],.str b] H) fun r=>r.1=.int .i64 (cmpB a b)/\Frame NoF H r.2
theorem find1_s (h:CmpOk O f)(H:Heap)(a b:Nam)(v:Int):Wp (DdFind1S cal O N f (.agg [.str a,.int .i64 v]) (.str b) H) fun r=>r.1=.int .i64 (cmpB a b)/\Frame NoF H r.2:=by
 unfold DdFind1S;rw[lbox_agg rfl,ob_some];simp only;have r1:(H++[IObj.row [.str a,.int .i64 v] false])[H.length]? =some (.row [.str a,.int .i64 v] false):=newRow;rw[loff_ptr,ob_some,ld1 r1];refine Wp.of (a:=.str a) rfl ?_;rw[h,ob_some];exact Wp.ret ⟨rfl,Frame.push _ _ _⟩
def BsOk (O:Oracle)(f g:FuncId):Prop:=∀(P:Nat->Prop) (H:Heap) (sv:IV) (l:Dr) (s:Nam),DSl P H sv l->SrtD l->l.length<=1000000->Wp (O f [sv,.str s,.func (.func g) [] []] H) fun r=>∃i fd,r.1=.tuple [.int .i64 (i:Nat),.bool fd]/\PosD s l i fd/\Frame NoF H r.2
theorem srt_mono (h:SrtD l){f:Nam×Int}(hi:l[i]? =some e)(hj:l[j]? =some f)(hij:i<j):cmpB e.1 f.1<0:=by
 have:=(SrtD.app (a:=l.take (i+1)) (b:=l.drop (i+1)) (by rw[List.take_append_drop];exact h)).2.2;refine this e ?_ f ?_
 ·exact List.mem_iff_getElem?.2 ⟨i,by rw[List.getElem?_take,if_pos (by omega)];exact hi⟩
 ·exact List.mem_iff_getElem?.2 ⟨j - (i+1),by rw[List.getElem?_drop,show i+1+(j - (i+1))=j by omega];exact hj⟩
theorem mid_s (h:i<j)(hj:j<=1000000):ob (lbin .add (.int .i64 (i:Nat)) (.int .i64 (j:Nat))) (fun t19=>ob (lcvt .u64 t19) fun t20=>ob (lbin .shr t20 (.int .u64 1)) fun t21=>lcvt .i64 t21)=some (.int .i64 (((i+j) / 2:Nat):Int)):=by
 rw[lbin_add,ob_some,wrap_i64 (by omega) (by omega),lcvt_int,ob_some];have w1:IntKind.wrap .u64 ((i:Int)+(j:Nat))=((i+j:Nat):Int):=by
  unfold IntKind.wrap;simp[IntKind.bits,IntKind.signed];omega
 rw[w1,lbin_shr (by decide),ob_some,lcvt_int];have w2:((i+j:Nat):Int).fdiv (2 ^ (min (1:Int).toNat IntKind.u64.bits))=(((i+j) / 2:Nat):Int):=by
  have:(2:Int) ^ (min (1:Int).toNat IntKind.u64.bits)=2:=rfl;rw[this,Int.fdiv_eq_ediv_of_nonneg _ (by decide)];omega
 rw[w2,wrap_i64 (by omega) (by omega)]
theorem bs_go (hg:Find1Ok O g)(hc:cal g=true){H0:Heap}(hsl:DSl P H0 sv l)(hs:SrtD l)(hb:l.length<=1000000){gE0:IV->IV->IV->IV->IV->Heap->Option (IV×Heap)}{R:Out->Prop}
  (hk:∀(i:Nat) (H:Heap),i<=l.length->Frame NoF H0 H->(∀k e,k<i->l[k]? =some e->cmpB e.1 s<0)->(∀k e,i<=k->l[k]? =some e->¬cmpB e.1 s<0)->Wp (gE0 sv (.str s) (.func (.func g) [] []) (.int .i64 (l.length:Nat)) (.int .i64 (i:Nat)) H) R) :
  ∀(m i j n:Nat) (H:Heap),j - i<=m->m<n->i<=j->j<=l.length->Frame NoF H0 H->(∀k e,k<i->l[k]? =some e->cmpB e.1 s<0)->(∀k e,j<=k->l[k]? =some e->¬cmpB e.1 s<0) ->
   Wp (sBsfC0S cal O N gE0 n sv (.str s) (.func (.func g) [] []) (.int .i64 (l.length:Nat)) (.int .i64 (i:Nat)) (.int .i64 (j:Nat)) H) R:=by
 intro m
 induction m with
 | zero =>
  intro i j n H hm hn hij hj hF h1 h2;obtain⟨n,rfl⟩:∃j,n=j+1:=⟨n - 1,by omega⟩;rw[sBsfC0S,lbin_lss,ob_some,decide_eq_false (by omega),cnd_false];obtain rfl:i=j:=by omega
  exact hk i H hj hF h1 h2
 | succ m ih =>
  intro i j n H hm hn hij hj hF h1 h2;obtain⟨n,rfl⟩:∃j,n=j+1:=⟨n - 1,by omega⟩;rw[sBsfC0S,lbin_lss,ob_some];by_cases hlt:i<j
  ·rw[decide_eq_true (by omega),cnd_true,jn_eq];have hmid:=mid_s (i:=i) (j:=j) hlt (by omega);have e1:lbin .add (.int .i64 (i:Nat)) (.int .i64 (j:Nat))=some (.int .i64 ((i:Int)+(j:Nat))):=by rw[lbin_add,wrap_i64 (by omega) (by omega)]
   rw[e1,ob_some]at hmid ⊢;rw[lcvt_int,ob_some]at hmid ⊢;rw[lbin_shr (by decide),ob_some]at hmid ⊢;rw[hmid,ob_some];have hh:(i+j) / 2<l.length:=by omega
   obtain⟨r,rest,ex,_,_,_,_,c1,c2,_⟩:=(hsl.frame hF fun _ _ h=>h).ix (i:=(i+j) / 2) (e:=l[(i+j) / 2]) (List.getElem?_eq_getElem hh);rw[c1,ob_some,c2,ob_some,lcallV_func hc];refine Wp.call (hg H l[(i+j) / 2].1 s l[(i+j) / 2].2) ?_;rintro⟨v,H1⟩ ⟨g1,g2⟩;simp only at g1 g2 ⊢;subst g1;rw[lbin_lss,ob_some];have hgm:l[(i+j) / 2]? =some l[(i+j) / 2]:=List.getElem?_eq_getElem hh;refine Wp.dec (fun hp=> ?_) (fun hp=> ?_)
   ·rw[lbin_add,ob_some,wrap_i64 (by omega) (by omega),show(((i+j) / 2:Nat):Int)+1=(((i+j) / 2+1:Nat):Int) by omega];refine ih ((i+j) / 2+1) j n H1 (by omega) (by omega) (by omega) hj (hF.tr g2) (fun k e hk he=> ?_) h2;by_cases ek:k=(i+j) / 2
    ·subst ek;rw[hgm]at he;cases he;exact hp
    ·exact cmpB_trans (srt_mono hs he hgm (by omega)) hp
   ·refine ih i ((i+j) / 2) n H1 (by omega) (by omega) (by omega) (by omega) (hF.tr g2) h1 (fun k e hk he=> ?_);by_cases ek:k=(i+j) / 2
    ·subst ek;rw[hgm]at he;cases he;exact hp
    ·intro hlt2;exact hp (cmpB_trans (srt_mono hs hgm he (by omega)) hlt2)
  ·rw[decide_eq_false (by omega),cnd_false];obtain rfl:i=j:=by omega
   exact hk i H hj hF h1 h2
theorem bs_s (hg:Find1Ok O g)(hc:cal g=true)(hsl:DSl P H sv l)(hs:SrtD l)(hb:l.length<=1000000)(hN:1000001<N):Wp (sBsfS cal O N sv (.str s) (.func (.func g) [] []) H) fun r=>∃i fd,r.1=.tuple [.int .i64 (i:Nat),.bool fd]/\PosD s l i fd/\Frame NoF H r.2:=by
 unfold sBsfS sBsfC5S sBsfC4S;rw[hsl.len,ob_some];unfold sBsfC3S sBsfC2S sBsfC1S;refine bs_go hg hc hsl hs hb ?_ l.length 0 l.length N H (by omega) (by omega) (by omega) (by omega) (Frame.refl _ _) (fun k e h=>absurd h (by omega)) (fun k e h he=>by have:=(ges he).1;omega);intro i H1 hi hF h1 h2;simp only;have hp:=posD_of hs hi h1 h2;rw[lbin_lss,ob_some];by_cases hlt:i<l.length
 ·rw[decide_eq_true (by omega)];obtain⟨r,rest,ex,_,_,_,_,c1,c2,_⟩:=(hsl.frame hF fun _ _ h=>h).ix (i:=i) (e:=l[i]) (List.getElem?_eq_getElem hlt);simp only[isB_tt,gq_true,ge_true,ob_some,c1,c2];rw[lcallV_func hc];refine Wp.call (hg H1 l[i].1 s l[i].2) ?_;rintro⟨v,H2⟩ ⟨g1,g2⟩;simp only at g1 g2 ⊢;subst g1;rw[lbin_eql,ob_some,lpick_true,ob_some];rw[List.getElem?_eq_getElem hlt]at hp;exact Wp.ret ⟨i,_,rfl,hp,hF.tr g2⟩
 ·rw[decide_eq_false (by omega)];simp only[isB_ft,gq_false,ge_false,ob_some,lpick_false];rw[List.getElem?_eq_none (by omega)]at hp;exact Wp.ret ⟨i,false,rfl,hp,hF⟩
def FindOk (O:Oracle)(f:FuncId):Prop:=∀(P:Nat->Prop) (H:Heap) (d:Nat) (l:Dr) (s:Nam),DirOk P H d l->l.length<=1000000->Wp (O f [.ptr d 0,.str s] H) fun r=>∃i fd,r.1=.tuple [.int .i64 (i:Nat),.bool fd]/\PosD s l i fd/\Frame NoF H r.2
theorem find_s {fb:FuncId}(hb:BsOk O fb g){d:Nat}(h:DirOk P H d l)(hl:l.length<=1000000):Wp (DdFindS cal O N fb g (.ptr d 0) (.str s) H) fun r=>∃i fd,r.1=.tuple [.int .i64 (i:Nat),.bool fd]/\PosD s l i fd/\Frame NoF H r.2:=by
 obtain⟨sv,h3,h4⟩:=h.row;unfold DdFindS;have e1:lload1 H (.ptr d 0)=some sv:=ld1 h3;rw[lchk_ptr,ob_some,loff_ptr,ob_some,Nat.zero_add,e1,ob_some];refine Wp.call (hb _ H sv l s h4 h.srt hl) ?_;rintro⟨v,H1⟩ ⟨i,fd,g1,g2,g3⟩;simp only at g1 g3 ⊢;subst g1;rw[iextract_tuple,iextract_tuple];exact Wp.ret ⟨i,fd,rfl,g2,g3⟩
end
end Go.Shade
namespace Go.Shade
variable {H : Heap} {P : Nat -> Prop} {d : Nat} {l : Dr} {s : Nam}
section
variable {cal : FuncId -> Bool} {O : Oracle} {N : Nat}
def DGetOk (O:Oracle)(f:FuncId):Prop:=∀(P:Nat->Prop) (H:Heap) (d:Nat) (l:Dr) (s:Nam),DirOk P H d l->l.length<=1000000->Wp (O f [.ptr d 0,.str s] H) fun r=>r.1=(match lookD s l with | some v=>.tuple [.int .i64 v,.int .i64 0] | none=>.tuple [.int .i64 0,.int .i64 2])/\Frame NoF H r.2
theorem dget_s {ff:FuncId}(hf:FindOk O ff)(h:DirOk P H d l)(hl:l.length<=1000000):Wp (DdGetS cal O N ff (.ptr d 0) (.str s) H) fun r=>r.1=(match lookD s l with | some v=>.tuple [.int .i64 v,.int .i64 0] | none=>.tuple [.int .i64 0,.int .i64 2])/\Frame NoF H r.2:=by
 unfold DdGetS;refine Wp.call (hf P H d l s h hl) ?_;rintro⟨v,H1⟩ ⟨i,fd,g1,g2,g3⟩;simp only at g1 g3 ⊢;subst g1;rw[iextract_tuple,iextract_tuple];simp only[List.getElem?_cons_zero,List.getElem?_cons_succ,ob_some,iun_not];have hk:=g2.look
 cases fd with
 | false =>
  rw[if_neg (by simp)]at hk;rw[hk,Bool.not_false,cnd_true];exact Wp.ret ⟨rfl,g3⟩
 | true =>
  obtain⟨v,hv⟩:=g2.hi;have hi:l[i]? =some (s,v):=by have:=congrArg (fun k=>k[0]?) hv;simpa using this
  rw[if_pos rfl,hi]at hk;obtain⟨sv,q1,q2⟩:=(h.kp g3).row;have e1:lload1 H1 (.ptr d 0)=some sv:=ld1 q1;obtain⟨r,rest,ex,_,_,_,_,c1,c2,c3⟩:=q2.ix hi;rw[hk,Bool.not_true,cnd_false];simp only[lchk_ptr,loff_ptr,ob_some,Nat.zero_add,e1,c1,c3];exact Wp.ret ⟨rfl,g3⟩
def DLenOk (O:Oracle)(f:FuncId):Prop:=∀(P:Nat->Prop) (H:Heap) (d:Nat) (l:Dr),DirOk P H d l->O f [.ptr d 0] H=some (.int .i64 (l.length:Nat),H)
theorem dlen_s (h:DirOk P H d l):DdLenS cal O N (.ptr d 0) H=some (.int .i64 (l.length:Nat),H):=by
 obtain⟨sv,q1,q2⟩:=h.row;unfold DdLenS;have e1:lload1 H (.ptr d 0)=some sv:=ld1 q1;simp only[lchk_ptr,loff_ptr,ob_some,Nat.zero_add,e1,q2.len]
theorem unfl_fl :∀{l:List Pr},one2 l->unfl (fl l)=some l
 | [],_=>rfl
 | p::l,h=>by
  have h1:=h p (by simp);simp only[fl,unfl,h1.1,h1.2,Bool.and_self,if_true,unfl_fl (l:=l) fun q hq=>h q (List.mem_cons_of_mem _ hq)];rfl
def InsOk (O:Oracle)(f:FuncId):Prop:=∀args H,O f args H=insT args H
theorem ins_at {K:Heap}{fi:FuncId}(hins:InsOk O fi){sv:IV}{i vb:Nat}{w:Int}(h:DSl P K sv l)(hP:∀j,P j->j<K.length)(hl:l.length<1000000)(hi:i<=l.length)(hv:K[vb]? =some (.row [.str s,.int .i64 w] false))(hvP:¬P vb) :
  Wp (O fi [sv,.int .i64 (i:Nat),.slice vb 0 1 1 true 2] K) fun r=>Frame P K r.2/\DSl (fun j=>P j∨(K.length<=j/\j<r.2.length)) r.2 r.1 (l.take i++(s,w)::l.drop i):=by
 rw[hins];have hls:lsl K 2 (.slice vb 0 1 1 true 2) 1=some [.str s,.int .i64 w]:=by simp[lsl,irow,hv]
 rcases h with⟨rfl,rfl⟩ | ⟨r,rest,ex,rfl,h2,h3,h4,h5⟩
 ·obtain rfl:i=0:=by simpa using hi
  have:insT [.nilSlice,.int .i64 ((0:Nat):Int),.slice vb 0 1 1 true 2] K=some (.slice K.length 0 1 1 false 2,K++[.row [.str s,.int .i64 w] false]):=by
   show(match lsl K 2 (.slice vb 0 1 1 true 2) 1 with | some [e1,e2]=>if e1.one&&e2.one then some (IV.slice K.length 0 1 1 false 2,K++[IObj.row [e1,e2] false])else none | _=>none)=_;rw[hls];rfl
  rw[this];exact Wp.ret ⟨Frame.push _ _ _,.inr ⟨K.length,[],false,rfl,.inr ⟨Nat.le_refl _,by simp⟩,fun p hp=>(by cases hp),(by simp),newRow⟩⟩
 ·have hrv:r≠vb:=fun e=>hvP (e▸h2);by_cases h0:l.length=0
  ·have hl0:l=[]:=List.length_eq_zero_iff.1 h0;subst hl0;obtain rfl:i=0:=by simpa using hi
   cases rest with
   | nil=>simp at h4
   | cons y rest =>
    have:insT [.slice r 0 ([]:Dr).length (([]:Dr).length+(y::rest).length) ex 2,.int .i64 ((0:Nat):Int),.slice vb 0 1 1 true 2] K=some (.slice r 0 1 (0+(y::rest).length) ex 2,K.set r (.row (putAt (fl (prs []++y::rest)) 0 [.str s,.int .i64 w]) false)):=by
     unfold insT;simp only[h5,hls,List.length_nil,Nat.mul_zero,List.take_zero,unfl];rw[if_neg (by simp[Nat.blt]),if_pos (by simp[Nat.blt,fl_length,one_str,one_int,prs];omega)]
    rw[this];refine Wp.ret ⟨Frame.set _ _ h2,.inr ⟨r,rest,ex,?_,.inl h2,fun p hp=>h3 p (List.mem_cons_of_mem _ hp),by simp;omega,?_⟩⟩
    ·simp;omega
    ·rw[setAt h5];rfl
  ·have hpr:(fl (prs l++rest)).take (2*l.length)=fl (prs l):=by rw[fl_take,List.take_append_of_le_length (by rw[prs_length];omega),List.take_of_length_le (by rw[prs_length];omega)]
   have:insT [.slice r 0 l.length (l.length+rest.length) ex 2,.int .i64 (i:Nat),.slice vb 0 1 1 true 2] K=some (.slice K.length 0 (l.length+1) (l.length+1) false 2,K.set r .dead++[.row (fl (ins (prs l) i (.str s,.int .i64 w))) false]):=by
    unfold insT;simp only[h5,hls,hpr,unfl_fl (prs_one l),Int.toNat_natCast];rw[if_pos];simp only[Bool.and_eq_true,Bool.not_eq_true',decide_eq_true_eq,prs_length,Nat.beq_refl,hv,true_and];refine⟨by simp[Nat.blt];omega,by omega,Nat.ble_eq_true_of_le hi,rfl,rfl,?_,rfl,by simp[Nat.blt];omega⟩
    cases hb:Nat.beq vb r with
    | false=>rfl
    | true=>exact absurd (Nat.eq_of_beq_eq_true hb).symm hrv
   rw[this];have hdl:(l.take i++(s,w)::l.drop i).length=l.length+1:=by simp;omega
   refine Wp.ret ⟨(Frame.set _ _ h2).tr (Frame.push _ _ _),.inr ⟨(K.set r .dead).length,[],false,by rw[hdl];simp,.inr ⟨by simp,by simp⟩,fun p hp=>(by cases hp),by omega,?_⟩⟩;rw[newRow,List.append_nil,prs_append];unfold ins;simp[prs,List.map_take,List.map_drop]
def DSetOk (O:Oracle)(f:FuncId):Prop:=∀(P:Nat->Prop) (H:Heap) (d:Nat) (l:Dr) (s:Nam) (v:Int),DirOk P H d l->l.length<1000000->setErr s=0->1<=v->Wp (O f [.ptr d 0,.str s,.int .i64 v] H) fun r=>r.1=.int .i64 0/\Frame P H r.2/\∃P',DirOk P' r.2 d (setD s v l)/\∀i,P' i->P i∨H.length<=i
theorem setErr_ok (h:setErr s=0):nameErr s=0/\s≠ [46]/\s≠ [46,46]:=by
 unfold setErr at h;split at h
 ·rename_i h1;exact absurd h h1
 ·rename_i h1;split at h
  ·cases h
  ·rename_i h2;exact⟨by omega,fun e=>h2 (.inl e),fun e=>h2 (.inr e)⟩
theorem dset_s {fp ff fi:FuncId}(hp:PNameOk O fp)(hf:FindOk O ff)(hins:InsOk O fi){v:Int}(h:DirOk P H d l)(hl:l.length<1000000)(hs:setErr s=0)(hv:1<=v) :
  Wp (DdSetS cal O N fp ff fi (.ptr d 0) (.str s) (.int .i64 v) H) fun r=>r.1=.int .i64 0/\Frame P H r.2/\∃P',DirOk P' r.2 d (setD s v l)/\∀i,P' i->P i∨H.length<=i:=by
 obtain⟨n1,n2,n3⟩:=setErr_ok hs;unfold DdSetS;rw[hp,n1,ob_some];simp only;have e0:lbin .neq (.int .i64 0) (.int .i64 0)=some (.bool false):=rfl;rw[e0,ob_some,cnd_false,lbin_seq,ob_some,decide_eq_false n2];simp only[isB_ff,gq_true,ob_some,lbin_seq,decide_eq_false n3,lpick_false,lbin_lss,decide_eq_false (show ¬v<1 by omega),cnd_false];refine Wp.call (hf P H d l s h (by omega)) ?_;rintro⟨w,H1⟩ ⟨i,fd,g1,g2,g3⟩;simp only at g1 g3 ⊢;subst g1;rw[iextract_tuple,iextract_tuple];simp only[List.getElem?_cons_zero,List.getElem?_cons_succ,ob_some,iun_not,jn_eq];have h1:=h.kp g3;have fin:∀(Q:Nat->Prop) (K:Heap) (w:Int) (l':Dr),Frame P H K->(∀j,Q j->P j∨H.length<=j)->Q d->(∀j,Q j->j<K.length)->l'.length=l.length∨True->(∃sv,K[d]? =some (.row [sv] false)/\DSl (fun j=>Q j/\j≠d) K sv l')->l'[i]? =some (s,w)->l'.set i (s,v)=setD s v l ->
   Wp (ob (lchk (.ptr d 0)) fun t29=>ob (loff t29 0) fun t30=>ob (lload1 K t30) fun t31=>ob (lix 2 t31 (.int .i64 (i:Nat))) fun t32=>ob (loff t32 1) fun t33=>ob (lstV K 1 t33 (.int .i64 v)) fun r34=>some ((IV.int .i64 0),r34.2)) fun r=>r.1=.int .i64 0/\Frame P H r.2/\∃P',DirOk P' r.2 d (setD s v l)/\∀i,P' i->P i∨H.length<=i:=by
  rintro Q K w l' k1 k2 k3 k4 _ ⟨sv,k5,k6⟩ k7 k8;have e1:lload1 K (.ptr d 0)=some sv:=ld1 k5;obtain⟨r,rest,ex,hsv,c0,c1,c2,c3,_,_⟩:=k6.ix k7;simp only[lchk_ptr,loff_ptr,ob_some,Nat.zero_add,e1,c3];have hlt:=(ges k7).1;rw[st1 c2 (by simp only[one_int]) (by rw[fl_length,List.length_append,prs_length];omega),ob_some];have hg:(prs l'++rest)[i]? =some (.str s,.int .i64 w):=by rw[List.getElem?_append_left (by rw[prs_length];exact hlt)];exact prs_get k7
  have hrow:(fl (prs l'++rest)).set (2*i+1) (.int .i64 v)=fl (prs (setD s v l)++rest):=by
   rw[fl_set1 hg,List.set_append_left _ _ (by rw[prs_length];exact hlt),←k8];simp[prs,List.map_set]
  have hkr:Frame (fun j=>j=r) K (K.set r (.row ((fl (prs l'++rest)).set (2*i+1) (.int .i64 v)) false)):=Frame.set _ _ rfl;have hlen:(setD s v l).length=l'.length:=by rw[←k8];simp
  refine Wp.ret ⟨rfl,?_,Q,⟨k3,fun j hj=>by simpa using k4 j hj,⟨sv,hkr.get (fun e=>c0.2 e.symm) k5,.inr ⟨r,rest,ex,by rw[hlen];exact hsv,c0,c1,by omega,by rw[setAt c2,hrow]⟩⟩,setD_srt h.srt⟩,k2⟩;refine k1.trans hkr fun j hj e=> ?_;subst e;rcases k2 j c0.1 with h | h
  ·exact h
  ·omega
 cases fd with
 | true =>
  obtain⟨w,hw⟩:=g2.hi;have hi:l[i]? =some (s,w):=by have:=congrArg (fun k=>k[0]?) hw;simpa using this
  rw[Bool.not_true,cnd_false];refine fin P H1 w l g3.no (fun j h=>.inl h) h1.own h1.lt (.inl rfl) h1.row hi ?_;rw[List.set_eq_take_append_cons_drop,if_pos (ges hi).1]
  conv=>rhs;rw[g2.split,setD_app g2.lo,hw,setD_at]
 | false =>
  rw[Bool.not_false,cnd_true];obtain⟨sv,q1,q2⟩:=h1.row;have e1:lload1 H1 (.ptr d 0)=some sv:=ld1 q1;simp only[lchk_ptr,loff_ptr,ob_some,Nat.zero_add,e1];have e2:lbld [(.str []),(.int .i64 0)] [(0,1,.str s)]=some (.agg [.str s,.int .i64 0]):=rfl;have e3:lbldS H1 2 1 [(.str []),(.int .i64 0)] [(0,.agg [.str s,.int .i64 0])]=some (.slice H1.length 0 1 1 true 2,H1++[.row [.str s,.int .i64 0] false]):=rfl;rw[e2,ob_some,e3,ob_some];simp only;have k1:Frame NoF H1 (H1++[IObj.row [.str s,.int .i64 0] false]):=Frame.push _ _ _;have r1:(H1++[IObj.row [.str s,.int .i64 0] false])[H1.length]? =some (.row [.str s,.int .i64 0] false):=newRow;have l1:(H1++[IObj.row [.str s,.int .i64 0] false]).length=H1.length+1:=by simp
  generalize H1++[IObj.row [.str s,.int .i64 0] false]=K at *;have hPK:∀j,P j->j<H1.length:=h1.lt;refine Wp.call (ins_at hins (w:=0) (s:=s) (i:=i) (q2.kp' k1) (fun j hj=>by have:=hPK j hj.1;omega) hl g2.le r1 (fun h=>by have:=hPK _ h.1;omega)) ?_;rintro⟨nv,K2⟩ ⟨m1,m2⟩;simp only at m1 m2 ⊢;have q3:=m1.get (fun h=>h.2 rfl) (k1.get (fun h=>h) q1);rw[st1 q3 m2.one (by simp),ob_some];have hd:=h1.own;have hdl:=hPK d hd;have kd:Frame (fun j=>j=d) K2 (K2.set d (.row ([sv].set 0 nv) false)):=Frame.set _ _ rfl;have hlo:=g2.hi;rw[if_neg (by simp)]at hlo;have:=g2.le;refine fin (fun j=>P j∨(K.length<=j/\j<K2.length)) _ 0 (l.take i++(s,0)::l.drop i) ?_ ?_ (.inl hd) ?_ (.inr trivial) ⟨nv,by rw[setAt q3];rfl,?_⟩ ?_ ?_
  ·refine((g3.tr k1).no.tr (m1.mono fun j hj=>hj.1)).tr (kd.mono fun j hj=>by subst hj;exact hd)
  ·intro j hj;rcases hj with h | h
   ·exact .inl h
   ·exact .inr (by have:=g3.1;omega)
  ·intro j hj;rw[List.length_set];rcases hj with h | h
   ·have:=hPK j h;have:=m1.1;omega
   ·exact h.2
  ·refine(m2.frame kd fun j hj e=> ?_).mono fun j hj=> ?_
   ·subst e;rcases hj with h | h
    ·exact h.2 rfl
    ·omega
   ·rcases hj with h | h
    ·exact⟨.inl h.1,h.2⟩
    ·exact⟨.inr h,by omega⟩
  ·rw[List.getElem?_append_right (by rw[List.length_take];omega),List.length_take,show i - min i l.length=0 by omega];rfl
  ·rw[List.set_append_right _ _ (by rw[List.length_take];omega),List.length_take,show i - min i l.length=0 by omega,List.set_cons_zero]
   conv=>rhs;rw[g2.split,setD_app g2.lo,setD_gt hlo]
end
end Go.Shade
namespace Go.Shade
section
variable {cal : FuncId -> Bool} {O : Oracle} {N : Nat}
def SDelOk (O:Oracle)(f:FuncId):Prop:=∀(P:Nat->Prop) (H:Heap) (sv:IV) (l:Dr) (i:Nat),DSl P H sv l->l.length<=1000000->i<l.length->Wp (O f [sv,.int .i64 (i:Nat),.int .i64 ((i+1:Nat):Int)] H) fun r=>Frame P H r.2/\DSl P r.2 r.1 (l.take i++l.drop (i+1))
theorem sdel_s {P:Nat->Prop}{H:Heap}{sv:IV}{l:Dr}{i:Nat}(h:DSl P H sv l)(hl:l.length<=1000000)(hi:i<l.length):Wp (sDelS cal O N sv (.int .i64 (i:Nat)) (.int .i64 ((i+1:Nat):Int)) H) fun r=>Frame P H r.2/\DSl P r.2 r.1 (l.take i++l.drop (i+1)):=by
 unfold sDelS;rw[h.len,ob_some];rcases h with⟨rfl,rfl⟩ | ⟨r,rest,ex,rfl,h2,h3,h4,h5⟩
 ·simp at hi
 ·have b1:∀(K:Heap) (n m:Nat),lslice K (.slice 2) (.slice r 0 l.length (l.length+rest.length) ex 2) (some (.int .i64 (i:Nat))) (some (.int .i64 ((i+1:Nat):Int))) (some (.int .i64 (l.length:Nat)))=some (.slice r (0+i*2) (i+1 - i) (l.length - i) true 2):=by
   intro K n m;simp only[lslice,bnd];rw[if_pos (by omega),if_pos (by omega)];simp only[Option.bind_some,Int.toNat_natCast];rw[if_neg (by simp),if_pos (by omega)];simp only[Option.bind_some];rw[if_pos (by simp;omega)]
  rw[b1 H 0 0,ob_some,lbin_eql,ob_some,decide_eq_false (by omega),cnd_false];rw[ob_some];have b2:∀(K:Heap),lslice K (.slice 2) (.slice r 0 l.length (l.length+rest.length) ex 2) none (some (.int .i64 (i:Nat))) none=some (.slice r 0 i (l.length+rest.length) ex 2):=by
   intro K;simp only[lslice,bnd];rw[if_pos (by omega)];simp only[Option.bind_some,Int.toNat_natCast];rw[if_neg (by simp),if_pos (by omega)];simp
  have b3:∀(K:Heap),lslice K (.slice 2) (.slice r 0 l.length (l.length+rest.length) ex 2) (some (.int .i64 ((i+1:Nat):Int))) none none=some (.slice r (2*(i+1)) (l.length - (i+1)) (l.length+rest.length - (i+1)) ex 2):=by
   intro K;simp only[lslice,bnd];rw[if_pos (by omega)];simp only[Option.bind_some,Int.toNat_natCast];rw[if_neg (by simp),if_pos (by omega)];simp[Nat.mul_comm]
  rw[b2,ob_some,b3,ob_some];have hL:(prs l++rest).length=l.length+rest.length:=by simp[prs_length]
  have happ:lapp H 2 24 (.slice r 0 i (l.length+rest.length) ex 2) (.slice r (2*(i+1)) (l.length - (i+1)) (l.length+rest.length - (i+1)) ex 2)=some (.slice r 0 (l.length - 1) (l.length+rest.length) ex 2,H.set r (.row (fl ((prs l).take i++(prs l).drop (i+1)++(prs l++rest).drop (l.length - 1))) false)):=by
   have hsplit:prs l=(prs l).take i++(prs l).drop i:=(List.take_append_drop i _).symm;unfold lapp lappend;simp only[xlen,Option.bind_some];by_cases h0:l.length - (i+1)=0
   ·rw[if_pos h0];simp only;have hn:l.length - 1=i:=by omega
    have:(prs l).take i++(prs l).drop (i+1)++(prs l++rest).drop (l.length - 1)=prs l++rest:=by
     have e2:(prs l).drop (i+1)=[]:=List.drop_of_length_le (by rw[prs_length];omega);rw[e2,hn,List.append_nil]
     conv=>rhs;rw[←List.take_append_drop i (prs l++rest)]
     rw[List.take_append_of_le_length (by rw[prs_length];omega)]
    rw[this,List.set_getElem?_self' h5,hn]
   ·rw[if_neg h0];have hx:lxcells H 2 (.slice r (2*(i+1)) (l.length - (i+1)) (l.length+rest.length - (i+1)) ex 2) (l.length - (i+1))=some (fl ((prs l).drop (i+1))):=by
     simp only[lxcells,lsl,Nat.le_refl,if_true];rw[if_neg h0];simp only[irow,h5];rw[if_pos (by rw[fl_length,hL];omega),fl_drop,Nat.mul_comm,fl_take,List.drop_append_of_le_length (by rw[prs_length];omega),List.take_append_of_le_length (by rw[List.length_drop,prs_length];omega),List.take_of_length_le (by rw[List.length_drop,prs_length];omega)]
    rw[hx];simp only[Option.bind_some];have h1:one2 ((prs l).drop (i+1)):=fun p hp=>prs_one l p (List.mem_of_mem_drop hp);rw[if_pos ⟨by rw[fl_length,List.length_drop,prs_length];omega,fl_one h1⟩,if_pos (by omega),h5];simp only;rw[if_pos (by rw[fl_length,fl_length,hL,List.length_drop,prs_length];omega),show 0+i*2=2*i by omega,fl_putl (by rw[List.length_drop,hL,prs_length];omega),List.length_drop,prs_length,List.take_append_of_le_length (by rw[prs_length];omega),show i+(l.length - (i+1))=l.length - 1 by omega]
  rw[happ,ob_some];simp only;have hlen2:∀K,llen K .slice (.slice r 0 (l.length - 1) (l.length+rest.length) ex 2)=some (.int .i64 ((l.length - 1:Nat):Int)):=fun _=>rfl;rw[hlen2,ob_some];have b4:∀(K:Heap),lslice K (.slice 2) (.slice r 0 (l.length - 1) (l.length+rest.length) ex 2) (some (.int .i64 ((l.length - 1:Nat):Int))) (some (.int .i64 (l.length:Nat))) none=some (.slice r (2*(l.length - 1)) 1 (l.length+rest.length - (l.length - 1)) ex 2):=by
   intro K;simp only[lslice,bnd];rw[if_pos (by omega),if_pos (by omega)];simp only[Option.bind_some,Int.toNat_natCast];rw[if_neg (by simp),if_pos (by omega)]
   congr 2<;>omega
  rw[b4,ob_some];have hr:=setAt (o':=IObj.row (fl ((prs l).take i++(prs l).drop (i+1)++(prs l++rest).drop (l.length - 1))) false) h5;have hA:((prs l).take i++(prs l).drop (i+1)).length=l.length - 1:=by rw[List.length_append,List.length_take,List.length_drop,prs_length];omega
  have hB:((prs l++rest).drop (l.length - 1)).length=rest.length+1:=by rw[List.length_drop,hL];omega
  have hz:zrep 1 [(.str []),(.int .i64 0)]=fl [(.str [],.int .i64 0)]:=rfl;simp only[lclrS];rw[if_neg (by omega),hr];simp only;rw[hz,if_pos (by rw[fl_length,fl_length,List.length_append,hA,hB];simp;omega),ob_some,List.set_set,fl_putl (by rw[List.length_append,hA,hB];simp)];have hfin:(((prs l).take i++(prs l).drop (i+1)++(prs l++rest).drop (l.length - 1)).take (l.length - 1)++[(IV.str [],IV.int .i64 0)]++((prs l).take i++(prs l).drop (i+1)++(prs l++rest).drop (l.length - 1)).drop (l.length - 1+[(IV.str [],IV.int .i64 0)].length))=prs (l.take i++l.drop (i+1))++(IV.str [],IV.int .i64 0)::rest:=by
   have t1:((prs l).take i++(prs l).drop (i+1)++(prs l++rest).drop (l.length - 1)).take (l.length - 1)=(prs l).take i++(prs l).drop (i+1):=by rw[←hA];exact List.take_left
   have t2:((prs l).take i++(prs l).drop (i+1)++(prs l++rest).drop (l.length - 1)).drop (l.length - 1)=(prs l++rest).drop (l.length - 1):=by
    have:∀(A B:List Pr) (n:Nat),A.length=n->(A++B).drop n=B:=fun A B n h=>by rw[←h];exact List.drop_left
    exact this _ _ _ hA
   have t3:((prs l).take i++(prs l).drop (i+1)++(prs l++rest).drop (l.length - 1)).drop (l.length - 1+[(IV.str [],IV.int IntKind.i64 0)].length)=rest:=by
    rw[←List.drop_drop,t2,List.drop_drop];rw[show l.length - 1+[(IV.str [],IV.int IntKind.i64 0)].length=(prs l).length by rw[prs_length];simp;omega];exact List.drop_left
   rw[t1,t3];simp[prs,List.map_take,List.map_drop]
  rw[hfin];have hd:(l.take i++l.drop (i+1)).length=l.length - 1:=by rw[List.length_append,List.length_take,List.length_drop];omega
  refine Wp.ret ⟨Frame.set _ _ h2,.inr ⟨r,(.str [],.int .i64 0)::rest,ex,?_,h2,fun p hp=> ?_,by simp only[List.length_cons];omega,?_⟩⟩
  ·rw[hd];congr 1;simp;omega
  ·rcases List.mem_cons.1 hp with rfl | hp
   ·exact⟨rfl,rfl⟩
   ·exact h3 p hp
  ·rw[setAt h5]
def DDelOk (O:Oracle)(f:FuncId):Prop:=∀(P:Nat->Prop) (H:Heap) (d:Nat) (l:Dr) (s:Nam) (v:Int),DirOk P H d l->l.length<=1000000->lookD s l=some v->Wp (O f [.ptr d 0,.str s] H) fun r=>r.1=.tuple [.int .i64 v,.int .i64 0]/\Frame P H r.2/\DirOk P r.2 d (delD s l)
theorem ddel_s {ff fs:FuncId}(hf:FindOk O ff)(hd:SDelOk O fs){P:Nat->Prop}{H:Heap}{d:Nat}{l:Dr}{s:Nam}{v:Int}(h:DirOk P H d l)(hl:l.length<=1000000)(hlk:lookD s l=some v) :
  Wp (DdDelS cal O N ff fs (.ptr d 0) (.str s) H) fun r=>r.1=.tuple [.int .i64 v,.int .i64 0]/\Frame P H r.2/\DirOk P r.2 d (delD s l):=by
 unfold DdDelS;refine Wp.call (hf P H d l s h hl) ?_;rintro⟨w,H1⟩ ⟨i,fd,g1,g2,g3⟩;simp only at g1 g3 ⊢;subst g1;rw[iextract_tuple,iextract_tuple];simp only[List.getElem?_cons_zero,List.getElem?_cons_succ,ob_some,iun_not];have hk:=g2.look
 cases fd with
 | false=>rw[if_neg (by simp),hlk]at hk;cases hk
 | true =>
  obtain⟨w,hv⟩:=g2.hi;have hi:l[i]? =some (s,w):=by have:=congrArg (fun k=>k[0]?) hv;simpa using this
  rw[if_pos rfl,hi,hlk]at hk
  cases hk
  have hlt:=(ges hi).1;have h1:=h.kp g3;obtain⟨sv,q1,q2⟩:=h1.row;have e1:lload1 H1 (.ptr d 0)=some sv:=ld1 q1;obtain⟨r,rest,ex,_,_,_,_,c1,c2,c3⟩:=q2.ix hi;rw[Bool.not_true,cnd_false];have e2:lbin .add (.int .i64 (i:Nat)) (.int .i64 1)=some (.int .i64 ((i+1:Nat):Int)):=by rw[lbin_add,wrap_i64 (by omega) (by omega)];rfl
  simp only[lchk_ptr,loff_ptr,ob_some,Nat.zero_add,e1,c1,c3,e2];refine Wp.call (hd _ H1 sv l i q2 hl hlt) ?_;rintro⟨nv,K2⟩ ⟨m1,m2⟩;simp only at m1 m2 ⊢;have q3:=m1.get (fun h=>h.2 rfl) q1;rw[st1 q3 m2.one (by simp),ob_some];have kd:Frame (fun j=>j=d) K2 (K2.set d (.row ([sv].set 0 nv) false)):=Frame.set _ _ rfl;refine Wp.ret ⟨rfl,(g3.no.tr (m1.mono fun j hj=>hj.1)).tr (kd.mono fun j hj=>by subst hj;exact h.own),h.own,fun j hj=> ?_,⟨nv,by rw[setAt q3];rfl,?_⟩,delD_srt h.srt⟩
  ·rw[List.length_set];have:=h1.lt j hj;have:=m1.1;omega
  ·have:delD s l=l.take i++l.drop (i+1):=by
    conv=>lhs;rw[g2.split,delD_app g2.lo,hv,delD_at]
   rw[this];exact m2.frame kd fun j hj e=>hj.2 e
end
end Go.Shade
namespace Go.Shade
def BsBodyS (cal:CB)(O:Oracle)(N:Nat)(v0:IV)(H:Heap):OH :=
 ob (lmkM H) fun r1 =>ob (lbld [(.int .i64 0),.nilMap] [(1,1,r1.1)]) fun t2 =>ob (lbox r1.2 t2) fun r3 =>some (r3.1,r3.2)
def X1K0 :LC:=.seq (.seq (.reg [ qM 34 11,qM 35 3,qO 36 (.len .slice (.t 35)),qO 37 (.bin .lss (.t 34) (.t 36))]) (.cond (.t 37) .skip (.exit 1))) (.block 2 (.seq (.reg [ qM 38 10,qM 39 11,qO 40 (.bin .add (.t 38) (.t 39)),qO 41 (.bin .quo (.t 40) (k6 16)),qM 42 10,qM 43 11,qO 44 (.bin .add (.t 42) (.t 43)),qO 45 (.bin .rem (.t 44) (k6 16)),qM 12 41,qM 13 45]) (.seq (.reg [ qM 47 1,qO 48 (.chk (.t 47)),qO 49 (.off (.t 48) 1),qO 50 (.ld1 (.t 49)),qM 51 12,qO 52 (.lkp .int (.agg [(.int .u8 0),(.int .u8 0),(.int .u8 0),(.int .u8 0),(.int .u8 0),(.int .u8 0),(.int .u8 0),(.int .u8 0),(.int .u8 0),(.int .u8 0),(.int .u8 0),(.int .u8 0),(.int .u8 0),(.int .u8 0),(.int .u8 0),(.int .u8 0)]) true (.t 50) (.t 51)),qM 46 52,qO 53 (.ext (.t 46) 0),qO 54 (.ext (.t 46) 1),qO 14 (.zbox (.agg [(.int .u8 0),(.int .u8 0),(.int .u8 0),(.int .u8 0),(.int .u8 0),(.int .u8 0),(.int .u8 0),(.int .u8 0),(.int .u8 0),(.int .u8 0),(.int .u8 0),(.int .u8 0),(.int .u8 0),(.int .u8 0),(.int .u8 0),(.int .u8 0)])),⟨none,(.st 16 (.t 14) (.t 53)),none⟩,qM 15 54]) (.seq (.seq (.reg [ qM 55 15,qO 56 (.un .not (.t 55))]) (.cond (.t 56) (.seq (.seq (.drw [ qM 57 0,qO 58 (.chk (.t 57)),qO 59 (.off (.t 58) 1),qO 60 (.ld1 (.t 59)),qM 61 0,qO 62 (.chk (.t 61)),qO 63 (.off (.t 62) 0),qO 64 (.ld1 (.t 63)),qO 65 (.bin .eql (.t 60) (.t 64))] []) (.cond (.t 65) (.exit 1) .skip)) (.reg [ qM 66 0,qO 67 (.chk (.t 66)),qO 68 (.off (.t 67) 1),qO 69 (.ld1 (.t 68)),qO 70 (.bin .add (.t 69) (k6 1)),qO 71 (.chk (.t 66)),qO 72 (.off (.t 71) 1),⟨none,(.st 1 (.t 72) (.t 70)),none⟩])) .skip)) (.seq (.drw [ qM 73 11,qM 74 13,qO 75 (.slc (.arr 16 1) (.t 14) (some (.t 74)) none none),qM 76 3,qM 77 11,qO 78 (.slc (.slice 1) (.t 76) (some (.t 77)) none none),qO 79 (.cpy 1 (.t 75) (.t 78)),qO 80 (.bin .add (.t 73) (.t 79)),qM 11 80] []) (.drw [ qM 81 1,qO 82 (.chk (.t 81)),qO 83 (.off (.t 82) 1),qO 84 (.ld1 (.t 83)),qM 85 12,qO 86 (.ldn 16 (.t 14)),⟨none,(.upd .int (.t 84) (.t 85) (.t 86)),none⟩] []))))))
def BsWriteC0 :LC:=.loop X1K0
def BsWriteC1 :LC:=.block 1 BsWriteC0
def X1K2 :LC:=.seq (.seq (.reg [ qM 87 11,qO 88 (.bin .eql (.t 87) (k6 0))]) (.cond (.t 88) (.seq (.reg [ qO 8 (.mv (k6 0)),qO 9 (.mv (k6 28))]) .ret) .skip)) (.seq (.reg [ qM 89 1,qM 90 1,qO 91 (.chk (.t 90)),qO 92 (.off (.t 91) 0),qO 93 (.ld1 (.t 92)),qM 94 10,qM 95 11,qO 96 (.bin .add (.t 94) (.t 95)),qO 97 (.fold true (.t 93) [(.t 96)]),qO 98 (.chk (.t 89)),qO 99 (.off (.t 98) 0),⟨none,(.st 1 (.t 99) (.t 97)),none⟩]) (.seq (.reg [ qM 100 11,qM 8 100,qO 9 (.mv (k6 0))]) .ret))
def BsWriteC2 :LC:=.seq BsWriteC1 X1K2
def BsWriteC3 :LC:=.seq (.reg [ qO 11 (.mv (k6 0))]) BsWriteC2
def X1K3 :LC:=.reg [ qM 27 3,qM 28 3,qO 29 (.len .slice (.t 28)),qM 30 10,qO 31 (.bin .sub (k6 65536) (.t 30)),qO 32 (.fold false (.t 29) [(.t 31)]),qO 33 (.slc (.slice 1) (.t 27) none (some (.t 32)) none),qM 3 33]
def BsWriteC4 :LC:=.seq X1K3 BsWriteC3
def BsWriteC5 :LC:=.seq (.reg [ qM 26 2,qM 10 26]) BsWriteC4
def X1K4 :LC:=.reg [ qO 8 (.mv (k6 0)),qO 9 (.mv (k6 0))]
def X1K1 :LC:=.block 0 (.seq (.reg [ qM 17 2,qO 18 (.bin .lss (.t 17) (k6 0)),qM 16 18]) (.cond (.t 16) (.seq (.reg [ qO 8 (.mv (k6 0)),qO 9 (.mv (k6 22))]) .ret) (.seq (.reg [ qM 20 3,qO 21 (.len .slice (.t 20)),qO 22 (.bin .eql (.t 21) (k6 0)),qM 19 22]) (.cond (.t 19) (.seq X1K4 .ret) (.seq (.reg [ qM 24 2,qO 25 (.bin .geq (.t 24) (k6 65536)),qM 23 25]) (.cond (.t 23) (.seq (.reg [ qO 8 (.mv (k6 0)),qO 9 (.mv (k6 27))]) .ret) .skip))))))
def BsWriteC6 :LC:=.seq X1K1 BsWriteC5
def BsWriteC7 :LC:=.seq X1K4 BsWriteC6
def BsWriteC0S (cal:CB)(O:Oracle)(N:Nat)(gE1:IV->IV->IV->Heap->OH):Nat->IV->IV->IV->IV->IV->Heap->OH
 | 0,_,_,_,_,_,_=>none
 | n+1,v0,v1,v3,v10,v11,H =>ob (llen H .slice v3) fun t1 =>ob (lbin .lss v11 t1) fun t2 =>cnd t2
  (ob (lbin .add v10 v11) fun t3 =>ob (lbin .quo t3 (.int .i64 16)) fun t4 =>ob (lbin .add v10 v11) fun t5 =>ob (lbin .rem t5 (.int .i64 16)) fun t6 =>ob (lchk v1) fun t7 =>ob (loff t7 1) fun t8 =>ob (lload1 H t8) fun t9 =>ob (llookup H .int (.agg [(.int .u8 0),(.int .u8 0),(.int .u8 0),(.int .u8 0),(.int .u8 0),(.int .u8 0),(.int .u8 0),(.int .u8 0),(.int .u8 0),(.int .u8 0),(.int .u8 0),(.int .u8 0),(.int .u8 0),(.int .u8 0),(.int .u8 0),(.int .u8 0)]) true t9 t4) fun t10 =>ob (iextract t10 0) fun t11 =>ob (iextract t10 1) fun t12 =>ob (lzbox H (.agg [(.int .u8 0),(.int .u8 0),(.int .u8 0),(.int .u8 0),(.int .u8 0),(.int .u8 0),(.int .u8 0),(.int .u8 0),(.int .u8 0),(.int .u8 0),(.int .u8 0),(.int .u8 0),(.int .u8 0),(.int .u8 0),(.int .u8 0),(.int .u8 0)])) fun r13 =>ob (lstV r13.2 16 r13.1 t11) fun r14 =>jn (fun(H34:Heap) =>ob (lslice H34 (.arr 16 1) r13.1 (some t6) none none) fun t35 =>ob (lslice H34 (.slice 1) v3 (some v11) none none) fun t36 =>ob (lcpy H34 1 t35 t36) fun r37 =>ob (lbin .add v11 r37.1) fun t38 =>ob (lchk v1) fun t39 =>ob (loff t39 1) fun t40 =>ob (lload1 r37.2 t40) fun t41 =>ob (lloadn r37.2 16 r13.1) fun t42 =>ob (lupdV r37.2 .int t41 t4 t42) fun r43 =>
   BsWriteC0S cal O N gE1 n v0 v1 v3 v10 t38 r43.2) fun J15 =>ob (iun .not t12) fun t44 =>cnd t44
  (ob (lchk v0) fun t45 =>ob (loff t45 1) fun t46 =>ob (lload1 r14.2 t46) fun t47 =>ob (lchk v0) fun t48 =>ob (loff t48 0) fun t49 =>ob (lload1 r14.2 t49) fun t50 =>ob (lbin .eql t47 t50) fun t51 =>cnd t51
  (gE1 v1 v10 v11 r14.2)
  (ob (lchk v0) fun t52 =>ob (loff t52 1) fun t53 =>ob (lload1 r14.2 t53) fun t54 =>ob (lbin .add t54 (.int .i64 1)) fun t55 =>ob (lchk v0) fun t56 =>ob (loff t56 1) fun t57 =>ob (lstV r14.2 1 t57 t55) fun r58 =>J15 r58.2))
  (J15 r14.2))
  (gE1 v1 v10 v11 H)
theorem BsWriteC0Eq (cal:CB)(O:Oracle)(N:Nat){k:KT (IV×Heap)}(gE1:IV->IV->IV->Heap->OH)(hgE1:∀E H,k (.exit 1) E H=gE1 (lk E 1) (lk E 10) (lk E 11) H):∀(n:Nat) (E:Sg) (H:Heap),itK (lxK cal O N X1K0) n E H k=BsWriteC0S cal O N gE1 n (lk E 0) (lk E 1) (lk E 3) (lk E 10) (lk E 11) H:=by
 have hk:k=(kE 1 (fun E H=>gE1 (lk E 1) (lk E 10) (lk E 11) H) k):=(kE_mk hgE1 rfl);intro n
 induction n with
 | zero=>intro E H;rfl
 | succ n ih =>
  intro E H;rw[itK_succ,seqK_mk (g:=fun E H=>BsWriteC0S cal O N gE1 n (lk E 0) (lk E 1) (lk E 3) (lk E 10) (lk E 11) H) ih,hk];kernel_rfl
def BsWriteC1S (cal:CB)(O:Oracle)(N:Nat)(gN:IV->IV->IV->Heap->OH)(v0 v1 v3 v10 v11:IV)(H:Heap):OH :=
  BsWriteC0S cal O N (fun v1 v10 v11 H=>gN v1 v10 v11 H) N v0 v1 v3 v10 v11 H
theorem BsWriteC1Eq (cal:CB)(O:Oracle)(N:Nat){k:KT (IV×Heap)}(gN:IV->IV->IV->Heap->OH)(hgN:∀E H,k .normal E H=gN (lk E 1) (lk E 10) (lk E 11) H):∀(E:Sg) (H:Heap),lxK cal O N BsWriteC1 E H k=BsWriteC1S cal O N gN (lk E 0) (lk E 1) (lk E 3) (lk E 10) (lk E 11) H:=by
 have hk:k=(kN (fun E H=>gN (lk E 1) (lk E 10) (lk E 11) H) k):=(kN_mk hgN rfl);intro E H;rw[hk];show lxK cal O N BsWriteC0 E H (blockK 1 (kN (fun E H=>gN (lk E 1) (lk E 10) (lk E 11) H) k))=_;exact BsWriteC0Eq cal O N (k:=(blockK 1 (kN (fun E H=>gN (lk E 1) (lk E 10) (lk E 11) H) k))) gN (fun _ _=>rfl) N E H
def BsWriteC2S (cal:CB)(O:Oracle)(N:Nat)(v0 v1 v3 v10 v11:IV)(H:Heap):OH :=
  BsWriteC1S cal O N (fun v1 v10 v11 H=>ob (lbin .eql v11 (.int .i64 0)) fun t1 =>cnd t1
 (some ((.tuple [(.int .i64 0),(.int .i64 28)]),H))
 (ob (lchk v1) fun t2 =>ob (loff t2 0) fun t3 =>ob (lload1 H t3) fun t4 =>ob (lbin .add v10 v11) fun t5 =>ob (ifold imax2 t4 [t5]) fun t6 =>ob (lchk v1) fun t7 =>ob (loff t7 0) fun t8 =>ob (lstV H 1 t8 t6) fun r9 =>some ((.tuple [v11,(.int .i64 0)]),r9.2))) v0 v1 v3 v10 v11 H
theorem BsWriteC2Eq (cal:CB)(O:Oracle)(N:Nat){k:KT (IV×Heap)}(hR:∀E H,k .ret E H=resK [(.tmp 8),(.tmp 9)] [] E H):∀(E:Sg) (H:Heap),lxK cal O N BsWriteC2 E H k=BsWriteC2S cal O N (lk E 0) (lk E 1) (lk E 3) (lk E 10) (lk E 11) H:=by
 have hk:k=(kR (resK [(.tmp 8),(.tmp 9)] []) k):=(kR_mk hR rfl);intro E H;rw[hk];show lxK cal O N BsWriteC1 E H (seqK (lxK cal O N X1K2) (kR (resK [(.tmp 8),(.tmp 9)] []) k))=_;exact BsWriteC1Eq cal O N (k:=(seqK (lxK cal O N X1K2) (kR (resK [(.tmp 8),(.tmp 9)] []) k))) (fun v1 v10 v11 H=>ob (lbin .eql v11 (.int .i64 0)) fun t1 =>cnd t1
(some ((.tuple [(.int .i64 0),(.int .i64 28)]),H))
(ob (lchk v1) fun t2 =>ob (loff t2 0) fun t3 =>ob (lload1 H t3) fun t4 =>ob (lbin .add v10 v11) fun t5 =>ob (ifold imax2 t4 [t5]) fun t6 =>ob (lchk v1) fun t7 =>ob (loff t7 0) fun t8 =>ob (lstV H 1 t8 t6) fun r9 =>some ((.tuple [v11,(.int .i64 0)]),r9.2))) (fun _ _=>rfl) E H
def BsWriteC3S (cal:CB)(O:Oracle)(N:Nat)(v0 v1 v3 v10:IV)(H:Heap):OH :=
  BsWriteC2S cal O N v0 v1 v3 v10 (.int .i64 0) H
theorem BsWriteC3Eq (cal:CB)(O:Oracle)(N:Nat){k:KT (IV×Heap)}(hR:∀E H,k .ret E H=resK [(.tmp 8),(.tmp 9)] [] E H):∀(E:Sg) (H:Heap),lxK cal O N BsWriteC3 E H k=BsWriteC3S cal O N (lk E 0) (lk E 1) (lk E 3) (lk E 10) H:=by
 have hk:k=(kR (resK [(.tmp 8),(.tmp 9)] []) k):=(kR_mk hR rfl);intro E H;rw[hk];show lxK cal O N (.reg [ qO 11 (.mv (k6 0))]) E H (seqK (lxK cal O N BsWriteC2) (kR (resK [(.tmp 8),(.tmp 9)] []) k))=_;rw[seqK_mk (g:=fun E H=>BsWriteC2S cal O N (lk E 0) (lk E 1) (lk E 3) (lk E 10) (lk E 11) H) (BsWriteC2Eq cal O N (k:=(kR (resK [(.tmp 8),(.tmp 9)] []) k)) (fun _ _=>rfl))];kernel_rfl
def BsWriteC4S (cal:CB)(O:Oracle)(N:Nat)(v0 v1 v3 v10:IV)(H:Heap):OH :=
 ob (llen H .slice v3) fun t1 =>ob (lbin .sub (.int .i64 65536) v10) fun t2 =>ob (ifold imin2 t1 [t2]) fun t3 =>ob (lslice H (.slice 1) v3 none (some t3) none) fun t4 =>
  BsWriteC3S cal O N v0 v1 t4 v10 H
theorem BsWriteC4Eq (cal:CB)(O:Oracle)(N:Nat){k:KT (IV×Heap)}(hR:∀E H,k .ret E H=resK [(.tmp 8),(.tmp 9)] [] E H):∀(E:Sg) (H:Heap),lxK cal O N BsWriteC4 E H k=BsWriteC4S cal O N (lk E 0) (lk E 1) (lk E 3) (lk E 10) H:=by
 have hk:k=(kR (resK [(.tmp 8),(.tmp 9)] []) k):=(kR_mk hR rfl);intro E H;rw[hk];show lxK cal O N X1K3 E H (seqK (lxK cal O N BsWriteC3) (kR (resK [(.tmp 8),(.tmp 9)] []) k))=_;rw[seqK_mk (g:=fun E H=>BsWriteC3S cal O N (lk E 0) (lk E 1) (lk E 3) (lk E 10) H) (BsWriteC3Eq cal O N (k:=(kR (resK [(.tmp 8),(.tmp 9)] []) k)) (fun _ _=>rfl))];kernel_rfl
def BsWriteC5S (cal:CB)(O:Oracle)(N:Nat)(v0 v1 v2 v3:IV)(H:Heap):OH :=
  BsWriteC4S cal O N v0 v1 v3 v2 H
theorem BsWriteC5Eq (cal:CB)(O:Oracle)(N:Nat){k:KT (IV×Heap)}(hR:∀E H,k .ret E H=resK [(.tmp 8),(.tmp 9)] [] E H):∀(E:Sg) (H:Heap),lxK cal O N BsWriteC5 E H k=BsWriteC5S cal O N (lk E 0) (lk E 1) (lk E 2) (lk E 3) H:=by
 have hk:k=(kR (resK [(.tmp 8),(.tmp 9)] []) k):=(kR_mk hR rfl);intro E H;rw[hk];show lxK cal O N (.reg [ qM 26 2,qM 10 26]) E H (seqK (lxK cal O N BsWriteC4) (kR (resK [(.tmp 8),(.tmp 9)] []) k))=_;rw[seqK_mk (g:=fun E H=>BsWriteC4S cal O N (lk E 0) (lk E 1) (lk E 3) (lk E 10) H) (BsWriteC4Eq cal O N (k:=(kR (resK [(.tmp 8),(.tmp 9)] []) k)) (fun _ _=>rfl))];kernel_rfl
def BsWriteC6S (cal:CB)(O:Oracle)(N:Nat)(v0 v1 v2 v3:IV)(H:Heap):OH :=
 ob (lbin .lss v2 (.int .i64 0)) fun t1 =>cnd t1
 (some ((.tuple [(.int .i64 0),(.int .i64 22)]),H))
 (ob (llen H .slice v3) fun t2 =>ob (lbin .eql t2 (.int .i64 0)) fun t3 =>cnd t3
 (some ((.tuple [(.int .i64 0),(.int .i64 0)]),H))
 (ob (lbin .geq v2 (.int .i64 65536)) fun t4 =>cnd t4
 (some ((.tuple [(.int .i64 0),(.int .i64 27)]),H))
  (BsWriteC5S cal O N v0 v1 v2 v3 H)))
theorem BsWriteC6Eq (cal:CB)(O:Oracle)(N:Nat){k:KT (IV×Heap)}(hR:∀E H,k .ret E H=resK [(.tmp 8),(.tmp 9)] [] E H):∀(E:Sg) (H:Heap),lxK cal O N BsWriteC6 E H k=BsWriteC6S cal O N (lk E 0) (lk E 1) (lk E 2) (lk E 3) H:=by
 have hk:k=(kR (resK [(.tmp 8),(.tmp 9)] []) k):=(kR_mk hR rfl);intro E H;rw[hk];show lxK cal O N X1K1 E H (seqK (lxK cal O N BsWriteC5) (kR (resK [(.tmp 8),(.tmp 9)] []) k))=_;rw[seqK_mk (g:=fun E H=>BsWriteC5S cal O N (lk E 0) (lk E 1) (lk E 2) (lk E 3) H) (BsWriteC5Eq cal O N (k:=(kR (resK [(.tmp 8),(.tmp 9)] []) k)) (fun _ _=>rfl))];kernel_rfl
def BsWriteC7S (cal:CB)(O:Oracle)(N:Nat)(v0 v1 v2 v3:IV)(H:Heap):OH :=
  BsWriteC6S cal O N v0 v1 v2 v3 H
theorem BsWriteC7Eq (cal:CB)(O:Oracle)(N:Nat){k:KT (IV×Heap)}(hR:∀E H,k .ret E H=resK [(.tmp 8),(.tmp 9)] [] E H):∀(E:Sg) (H:Heap),lxK cal O N BsWriteC7 E H k=BsWriteC7S cal O N (lk E 0) (lk E 1) (lk E 2) (lk E 3) H:=by
 have hk:k=(kR (resK [(.tmp 8),(.tmp 9)] []) k):=(kR_mk hR rfl);intro E H;rw[hk];show lxK cal O N X1K4 E H (seqK (lxK cal O N BsWriteC6) (kR (resK [(.tmp 8),(.tmp 9)] []) k))=_;rw[seqK_mk (g:=fun E H=>BsWriteC6S cal O N (lk E 0) (lk E 1) (lk E 2) (lk E 3) H) (BsWriteC6Eq cal O N (k:=(kR (resK [(.tmp 8),(.tmp 9)] []) k)) (fun _ _=>rfl))];kernel_rfl
def BsWrite :LFun:=⟨BsWriteC7,[(.tmp 8),(.tmp 9)],101⟩
def BsWriteS (cal:CB)(O:Oracle)(N:Nat)(v0 v1 v2 v3:IV)(H:Heap):OH :=
  BsWriteC7S cal O N v0 v1 v2 v3 H
theorem BsWriteEq (cal:CB)(O:Oracle)(N:Nat)(v0 v1 v2 v3:IV)(H:Heap):lrunK cal O N (BsWrite) [v0,v1,v2,v3] H=BsWriteS cal O N v0 v1 v2 v3 H:=by
 show lxK cal O N BsWriteC7 (initFrom 0 [v0,v1,v2,v3]) H (endK [(.tmp 8),(.tmp 9)])=_;exact BsWriteC7Eq cal O N (k:=(endK [(.tmp 8),(.tmp 9)])) (fun _ _=>rfl) (initFrom 0 [v0,v1,v2,v3]) H
def BsFreeS (cal:CB)(O:Oracle)(N:Nat)(f0:FuncId)(v0 v1:IV)(H:Heap):OH :=
 ob (O f0 [v0,v1,(.int .i64 0)] H) fun r1 =>some ((.tuple []),r1.2)
end Go.Shade
