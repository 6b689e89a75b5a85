/- The law MergeNames, part 4. -/
import Derived.Test.YtmkjmfegaalcoaaGreatM3
import Derived.Test.YtmkjmfegaalcoaaGreatM2
set_option linter.all false
namespace Go.Shade
variable {H : Heap} {c : Nat} {es : List Ent}
structure ChOk (es:List Ent)(c:Nat):Prop where
 key:∀e∈es,∃k:Int,e.1=.int .i64 k/\0<=k/\k<=65536
 val:∀e∈es,∃cs,e.2.1=.agg cs/\cs.length=16/\cs.all IV.one=true
 id:∀e∈es,e.2.2<c
 nodup:(es.map (·.1)).Nodup
 idup:(es.map (·.2.2)).Nodup
theorem ChOk.keyI (h:ChOk es c):∀e∈es,∃k:Int,e.1=.int .i64 k:=fun e he=>by obtain⟨k,h,_⟩:=h.key e he;exact⟨k,h⟩
theorem wrap_wrap (x:Int):IntKind.wrap .i64 (IntKind.wrap .i64 x)=IntKind.wrap .i64 x:=by
 have h:∀x:Int,IntKind.wrap .i64 x=if x % 18446744073709551616 ≥ 9223372036854775808 then x % 18446744073709551616 - 18446744073709551616 else x % 18446744073709551616:=by
  intro x;unfold IntKind.wrap;simp[IntKind.bits,IntKind.signed]
 rw[h (IntKind.wrap .i64 x),h x];split<;>split<;>omega
def SOk (H:Heap)(s:Nat):Prop:=∃room used:Int,IntKind.wrap .i64 used=used/\H[s]? =some (.row [.int .i64 room,.int .i64 used] false)
def BodyOk (P:Nat->Prop)(H:Heap)(p:Nat):Prop:=P p/\(∀i,P i->i<H.length)/\∃(sz:Int) (m:Nat) (es:List Ent) (c:Nat),H[p]? =some (.row [.int .i64 sz,.map m] false)/\P m/\m≠p/\H[m]? =some (.map es c)/\ChOk es c
theorem SOk.frame {F:Nat->Prop}{H':Heap}{s:Nat}(h:SOk H s)(k:Frame F H H')(hs:¬F s):SOk H' s:=by
 obtain⟨a,b,c,h⟩:=h;exact⟨a,b,c,k.get hs h⟩
theorem BodyOk.frame {P F:Nat->Prop}{H':Heap}{p:Nat}(h:BodyOk P H p)(k:Frame F H H')(hf:∀i,P i->¬F i):BodyOk P H' p:=by
 obtain⟨h1,h2,sz,m,es,c,h3,h4,h5,h6,h7⟩:=h;exact⟨h1,fun i hi=>Nat.lt_of_lt_of_le (h2 i hi) k.1,sz,m,es,c,k.get (hf p h1) h3,h4,h5,k.get (hf m h4) h6,h7⟩
theorem ifind_int :∀{es:List Ent} (x:Int) (i:Nat),(∀e∈es,∃k:Int,e.1=.int .i64 k)->(ifind (.int .i64 x) es i=some none/\∀e∈es,e.1≠ .int .i64 x)∨∃j e,es[j]? =some e/\e.1=.int .i64 x/\ifind (.int .i64 x) es i=some (some (i+j,e.2.1))
 | [],x,i,_=>.inl ⟨rfl,fun _ h=>by cases h⟩
 | (k,v,d)::es,x,i,h=>by
  obtain⟨k',hk⟩:=h (k,v,d) (by simp);simp only at hk;subst hk;simp only[ifind,cellEq,if_true];by_cases e:x=k'
  ·subst e;exact .inr ⟨0,_,rfl,rfl,by simp⟩
  ·have hb:(x==k')=false:=by simp only[beq_eq_false_iff_ne,ne_eq];exact e
   rw[hb];rcases ifind_int x (i+1) (fun e he=>h e (List.mem_cons_of_mem _ he))with⟨h1,h2⟩ | ⟨j,q,h1,h2,h3⟩
   ·refine .inl ⟨h1,fun q hq=> ?_⟩;rcases List.mem_cons.1 hq with rfl | hq
    ·simp only[ne_eq,IV.int.injEq,true_and];exact fun h=>e h.symm
    ·exact h2 q hq
   ·exact .inr ⟨j+1,q,by simpa using h1,h2,by rw[h3,show i+1+j=i+(j+1) by omega]⟩
theorem ChOk.set {es:List Ent}{c j:Nat}{e:Ent}{cs:List IV}(h:ChOk es c)(hj:es[j]? =some e)(hl:cs.length=16)(h1:cs.all IV.one=true):ChOk (es.set j (e.1,.agg cs,e.2.2)) c:=by
 have hm:=List.mem_of_getElem? hj;have hmem:∀q∈es.set j (e.1,.agg cs,e.2.2),q∈es∨q=(e.1,.agg cs,e.2.2):=fun q hq=>List.mem_or_eq_of_mem_set hq;refine⟨fun q hq=> ?_,fun q hq=> ?_,fun q hq=> ?_,?_,?_⟩
 ·rcases hmem q hq with h' | rfl
  ·exact h.key q h'
  ·exact h.key e hm
 ·rcases hmem q hq with h' | rfl
  ·exact h.val q h'
  ·exact⟨cs,rfl,hl,h1⟩
 ·rcases hmem q hq with h' | rfl
  ·exact h.id q h'
  ·exact h.id e hm
 ·have:(es.set j (e.1,.agg cs,e.2.2)).map (·.1)=es.map (·.1):=by
   rw[List.map_set];refine List.ext_getElem? fun k=> ?_;rw[List.getElem?_set];split
   ·rename_i e;subst e;have:=(ges hj).1;rw[if_pos (by simpa using this)];simp[hj]
   ·rfl
  rw[this];exact h.nodup
 ·have:(es.set j (e.1,.agg cs,e.2.2)).map (·.2.2)=es.map (·.2.2):=by
   rw[List.map_set];refine List.ext_getElem? fun k=> ?_;rw[List.getElem?_set];split
   ·rename_i e;subst e;have:=(ges hj).1;rw[if_pos (by simpa using this)];simp[hj]
   ·rfl
  rw[this];exact h.idup
theorem ChOk.add {k:Int}{cs:List IV}(h:ChOk es c)(hk:0<=k/\k<=65536)(hn:∀e∈es,e.1≠ .int .i64 k)(hl:cs.length=16)(h1:cs.all IV.one=true):ChOk (es++[(.int .i64 k,.agg cs,c)]) (c+1):=by
 refine⟨fun q hq=> ?_,fun q hq=> ?_,fun q hq=> ?_,?_,?_⟩
 ·rcases List.mem_append.1 hq with h' | h'
  ·exact h.key q h'
  ·rw[List.mem_singleton]at h';subst h';exact⟨k,rfl,hk⟩
 ·rcases List.mem_append.1 hq with h' | h'
  ·exact h.val q h'
  ·rw[List.mem_singleton]at h';subst h';exact⟨cs,rfl,hl,h1⟩
 ·rcases List.mem_append.1 hq with h' | h'
  ·have:=h.id q h';omega
  ·rw[List.mem_singleton]at h';subst h';simp
 ·rw[List.map_append];refine List.nodup_append.2 ⟨h.nodup,by simp,fun a ha b hb=> ?_⟩;simp at hb;subst hb;obtain⟨e,he,rfl⟩:=List.mem_map.1 ha;exact hn e he
 ·rw[List.map_append];refine List.nodup_append.2 ⟨h.idup,by simp,fun a ha b hb=> ?_⟩;simp at hb;subst hb;obtain⟨e,he,rfl⟩:=List.mem_map.1 ha;have:=h.id e he;omega
theorem upd_ch {P:Nat->Prop}{H:Heap}{p m:Nat}{es:List Ent}{c:Nat}{sz k:Int}{cs:List IV}(hp:P p)(hlt:∀i,P i->i<H.length)(hr:H[p]? =some (.row [.int .i64 sz,.map m] false))(hm:P m)(hne:m≠p)(hM:H[m]? =some (.map es c))(hc:ChOk es c)(hk:0<=k/\k<=65536)(hl:cs.length=16)(h1:cs.all IV.one=true) :
  Wp (lupdV H .int (.map m) (.int .i64 k) (.agg cs)) fun r=>Frame P H r.2/\BodyOk P r.2 p/\r.2.length=H.length:=by
 have fin:∀es' c',ChOk es' c'->Frame P H (H.set m (.map es' c'))/\BodyOk P (H.set m (.map es' c')) p/\(H.set m (.map es' c')).length=H.length:=by
  intro es' c' h';exact⟨Frame.set _ _ hm,⟨hp,fun i hi=>by simpa using hlt i hi,sz,m,es',c',by rw[List.getElem?_set_ne hne];exact hr,hm,hne,setAt hM,h'⟩,by simp⟩
 unfold lupdV lupdate;simp only[hM,isLS,if_true];rcases ifind_int k 0 hc.keyI with⟨g1,g2⟩ | ⟨j,e,g1,g2,g3⟩
 ·rw[g1];simp only[Option.bind_some];exact⟨_,rfl,fin _ _ (hc.add hk g2 hl h1)⟩
 ·rw[g3];simp only[Option.bind_some,Nat.zero_add,g1,Option.map_some,Option.getD_some];refine⟨_,rfl,fin _ _ ?_⟩;rw[←g2];exact hc.set g1 hl h1
def z16 :List IV:=[(.int .u8 0),(.int .u8 0),(.int .u8 0),(.int .u8 0),(.int .u8 0),(.int .u8 0),(.int .u8 0),(.int .u8 0),(.int .u8 0),(.int .u8 0),(.int .u8 0),(.int .u8 0),(.int .u8 0),(.int .u8 0),(.int .u8 0),(.int .u8 0)]
theorem lookup_ch {m:Nat}{k:Int}(hM:H[m]? =some (.map es c))(hc:ChOk es c):∃cs b,llookup H .int (.agg z16) true (.map m) (.int .i64 k)=some (.tuple [.agg cs,.bool b])/\cs.length=16/\cs.all IV.one=true:=by
 unfold llookup;simp only[iment,hM,Option.bind_some,isLS,if_true];rcases ifind_int k 0 hc.keyI with⟨g1,g2⟩ | ⟨j,e,g1,g2,g3⟩
 ·rw[g1];exact⟨z16,false,rfl,rfl,rfl⟩
 ·rw[g3];obtain⟨cs,e1,e2,e3⟩:=hc.val e (List.mem_of_getElem? g1);exact⟨cs,true,by rw[e1];rfl,e2,e3⟩
section
variable {cal : FuncId -> Bool} {O : Oracle} {N : Nat}
def SBodyOk (O:Oracle)(f:FuncId):Prop:=∀(H:Heap) (v:IV),Wp (O f [v] H) fun r=>∃p,r.1=.ptr p 0/\H.length<=p/\Frame NoF H r.2/\BodyOk (fun i=>H.length<=i/\i<r.2.length) r.2 p
theorem sbody_s (H:Heap)(v:IV):Wp (BsBodyS cal O N v H) fun r=>∃p,r.1=.ptr p 0/\H.length<=p/\Frame NoF H r.2/\BodyOk (fun i=>H.length<=i/\i<r.2.length) r.2 p:=by
 unfold BsBodyS;rw[lmkM_eq,ob_some];have e1:lbld [(.int .i64 0),.nilMap] [(1,1,.map H.length)]=some (.agg [.int .i64 0,.map H.length]):=rfl;simp only;rw[e1,ob_some,lbox_agg rfl,ob_some];refine Wp.ret ⟨H.length+1,by simp,by omega,⟨by simp,fun i hi _=>by rw[List.append_assoc];exact List.getElem?_append_left hi⟩,⟨by omega,by simp⟩,fun i hi=>hi.2,0,H.length,[],0,by simp,⟨Nat.le_refl _,by simp⟩,by omega,by simp,⟨(fun _ h=>absurd h (by simp)),(fun _ h=>absurd h (by simp)),(fun _ h=>absurd h (by simp)),List.nodup_nil,List.nodup_nil⟩⟩
def WrP (P:Nat->Prop)(H:Heap)(s p:Nat)(r:Out):Prop:=(∃a e:Int,r.1=.tuple [.int .i64 a,.int .i64 e])/\Frame (fun i=>P i∨i=s) H r.2/\BodyOk P r.2 p/\SOk r.2 s
def SWriteOk (O:Oracle)(f:FuncId):Prop:=∀(P:Nat->Prop) (H:Heap) (s p:Nat) (off:Int) (dv:IV) (n:Nat) (cs:List IV),SOk H s->BodyOk P H p->¬P s->Sl 1 H dv n cs->cs.all IV.one=true->At (fun i=>¬P i/\i≠s) dv->n<=1000000->Wp (O f [.ptr s 0,.ptr p 0,.int .i64 off,dv] H) (WrP P H s p)
theorem swrite_go {P:Nat->Prop}{H0:Heap}{s p at' n:Nat}{dv:IV}{cs:List IV}(hs0:¬P s)(hsl0:Sl 1 H0 dv n cs)(h1:cs.all IV.one=true)(hat:At (fun i=>¬P i/\i≠s) dv)(hb:at'+n<=65536){gE:IV->IV->IV->Heap->Option (IV×Heap)}{R:Out->Prop}
  (hk:∀(d:Nat) (H:Heap),d<=n->SOk H s->BodyOk P H p->Frame (fun i=>P i∨i=s) H0 H->Wp (gE (.ptr p 0) (.int .i64 (at':Nat)) (.int .i64 (d:Nat)) H) R) :
  ∀(m d f:Nat) (H:Heap),n - d<=m->m<f->d<=n->SOk H s->BodyOk P H p->Frame (fun i=>P i∨i=s) H0 H ->
   Wp (BsWriteC0S cal O N gE f (.ptr s 0) (.ptr p 0) dv (.int .i64 (at':Nat)) (.int .i64 (d:Nat)) H) R:=by
 intro m
 induction m with
 | zero =>
  intro d f H hm hf hd hS hB hF;obtain⟨f,rfl⟩:∃j,f=j+1:=⟨f - 1,by omega⟩;have hsl:=hsl0.frame hF (hat.mono fun i hi h=>h.elim hi.1 hi.2);rw[BsWriteC0S,hsl.len,ob_some,lbin_lss,ob_some,decide_eq_false (by omega),cnd_false];exact hk d H hd hS hB hF
 | succ m ih =>
  intro d f H hm hf hd hS hB hF;obtain⟨f,rfl⟩:∃j,f=j+1:=⟨f - 1,by omega⟩;have hsl:=hsl0.frame hF (hat.mono fun i hi h=>h.elim hi.1 hi.2);rw[BsWriteC0S,hsl.len,ob_some,lbin_lss,ob_some];by_cases hlt:d<n
  ·rw[decide_eq_true (by omega),cnd_true];have e1:lbin .add (.int .i64 (at':Nat)) (.int .i64 (d:Nat))=some (.int .i64 ((at'+d:Nat):Int)):=by rw[lbin_add,wrap_i64 (by omega) (by omega)];rfl
   have e2:lbin .quo (.int .i64 ((at'+d:Nat):Int)) (.int .i64 16)=some (.int .i64 (((at'+d) / 16:Nat):Int)):=by
    rw[lbin_quo (by decide),Int.tdiv_eq_ediv_of_nonneg (by omega),wrap_i64 (by omega) (by omega)];congr 2
   have e3:lbin .rem (.int .i64 ((at'+d:Nat):Int)) (.int .i64 16)=some (.int .i64 (((at'+d) % 16:Nat):Int)):=by
    rw[lbin_rem (by decide),Int.tmod_eq_emod_of_nonneg (by omega)];congr 2
   obtain⟨q1,q2,sz,mm,es,c,q3,q4,q5,q6,q7⟩:=id hB;have e4:lload1 H (.ptr p 1)=some (.map mm):=ld1 q3;obtain⟨ch,bb,l1,l2,l3⟩:=lookup_ch (k:=(((at'+d) / 16:Nat):Int)) q6 q7;simp only[e1,ob_some,e2,e3,lchk_ptr,loff_ptr,Nat.zero_add,e4];show Wp (ob (llookup H .int (.agg z16) true (.map mm) (.int .i64 (((at'+d) / 16:Nat):Int))) _) R;rw[l1,ob_some,iextract_tuple,iextract_tuple];simp only[List.getElem?_cons_zero,List.getElem?_cons_succ,ob_some,lzbox_eq,cells_agg];rw[stn (n:=16) newRow l3 l2 rfl,ob_some,setRow];simp only[jn_eq];have k1:Frame NoF H (H++[IObj.row ch false]):=Frame.push _ _ _;have r1:(H++[IObj.row ch false])[H.length]? =some (.row ch false):=newRow;have len1:(H++[IObj.row ch false]).length=H.length+1:=by simp
   generalize H++[IObj.row ch false]=K at *;have fin:∀(K2:Heap),SOk K2 s->BodyOk P K2 p->Frame (fun i=>P i∨i=s) H0 K2->K2[H.length]? =some (.row ch false)->(¬P H.length)->H.length≠s ->
     Wp (ob (lslice K2 (.arr 16 1) (.ptr H.length 0) (some (.int .i64 (((at'+d) % 16:Nat):Int))) none none) fun t35 =>
      ob (lslice K2 (.slice 1) dv (some (.int .i64 (d:Nat))) none none) fun t36 =>
      ob (lcpy K2 1 t35 t36) fun r37 =>
      ob (lbin .add (.int .i64 (d:Nat)) r37.1) fun t38 =>
      ob (lload1 r37.2 (.ptr p 1)) fun t41 =>
      ob (lloadn r37.2 16 (.ptr H.length 0)) fun t42 =>
      ob (lupdV r37.2 .int t41 (.int .i64 (((at'+d) / 16:Nat):Int)) t42) fun r43 =>
      BsWriteC0S cal O N gE f (.ptr s 0) (.ptr p 0) dv (.int .i64 (at':Nat)) t38 r43.2) R:=by
    intro K2 s1 s2 s3 s4 s5 s6;have hsl2:=hsl0.frame s3 (hat.mono fun i hi h=>h.elim hi.1 hi.2);have a1:lslice K2 (.arr 16 1) (.ptr H.length 0) (some (.int .i64 (((at'+d) % 16:Nat):Int))) none none=some (.slice H.length ((at'+d) % 16) (16 - (at'+d) % 16) (16 - (at'+d) % 16) true 1):=by
     simp only[lslice,bnd];rw[if_pos (by omega)];simp only[Option.bind_some,Int.toNat_natCast,s4];rw[if_pos ⟨rfl,by omega,by omega,by omega⟩]
     congr 2;omega
    obtain⟨dv2,a2,a3⟩:=hsl2.drop (show d<=n by omega);rw[a1,ob_some,a2,ob_some];have hmin:0<min (n - d) (16 - (at'+d) % 16):=by omega
    obtain⟨dv3,b1,b2⟩:=a3.take (k:=min (n - d) (16 - (at'+d) % 16)) (by omega);have hnew:lxcells K2 1 dv2 (min (n - d) (16 - (at'+d) % 16))=some (((cs.drop (d*1))).take (min (n - d) (16 - (at'+d) % 16))):=by
     obtain⟨z1,⟨rfl,z2⟩ | ⟨b,o,lb,ex,sz',rfl,z2,z3,z4⟩⟩:=a3
     ·omega
     ·simp only[lxcells,lsl];rw[if_pos (by omega),if_neg (by omega)];obtain⟨row,ro,w1,w2,w3⟩:=z4 (by omega);simp only[irow,w1];rw[if_pos (by omega),←w3,List.take_take,Nat.mul_one,Nat.mul_one]
      congr 2;omega
    have hone:(((cs.drop (d*1))).take (min (n - d) (16 - (at'+d) % 16))).all IV.one=true:=by
     rw[List.all_eq_true]at h1 ⊢;exact fun x hx=>h1 x (List.mem_of_mem_drop (List.mem_of_mem_take hx))
    have hcl:cs.length=n:=by have:=hsl0.1;omega
    have hnl:(((cs.drop (d*1))).take (min (n - d) (16 - (at'+d) % 16))).length=min (n - d) (16 - (at'+d) % 16):=by rw[List.length_take,List.length_drop];omega
    have hcp:lcpy K2 1 (.slice H.length ((at'+d) % 16) (16 - (at'+d) % 16) (16 - (at'+d) % 16) true 1) dv2=some (.int .i64 ((min (n - d) (16 - (at'+d) % 16):Nat):Int),K2.set H.length (.row (putAt ch ((at'+d) % 16) (((cs.drop (d*1))).take (min (n - d) (16 - (at'+d) % 16)))) false)):=by
     unfold lcpy lcopy;rw[a3.xlen];simp only[xlen,Option.bind_some];rw[if_neg (by omega),hnew];simp only[Option.bind_some,s4];rw[if_pos ⟨hone,by omega⟩];unfold cpyRow;rw[if_pos (by rw[hnl];omega)];rfl
    rw[hcp,ob_some];simp only;have hpl:(putAt ch ((at'+d) % 16) (((cs.drop (d*1))).take (min (n - d) (16 - (at'+d) % 16)))).length=16:=by rw[putAt_length (by rw[hnl];omega)];exact l2
    have hpo:(putAt ch ((at'+d) % 16) (((cs.drop (d*1))).take (min (n - d) (16 - (at'+d) % 16)))).all IV.one=true:=by
     rw[List.all_eq_true]at l3 hone ⊢;intro x hx;obtain⟨j,hj⟩:=List.mem_iff_getElem?.1 hx;rw[putAt_get (by rw[hnl];omega)]at hj;split at hj
     ·exact hone x (List.mem_of_getElem? hj)
     ·exact l3 x (List.mem_of_getElem? hj)
    have r5:=setAt (o':=IObj.row (putAt ch ((at'+d) % 16) (((cs.drop (d*1))).take (min (n - d) (16 - (at'+d) % 16)))) false) s4;have k5:Frame (fun i=>i=H.length) K2 (K2.set H.length (.row (putAt ch ((at'+d) % 16) (((cs.drop (d*1))).take (min (n - d) (16 - (at'+d) % 16)))) false)):=Frame.set _ _ rfl;have S5:=s1.frame k5 (fun e=>s6 e.symm);have B5:=s2.frame k5 (fun i hi e=>s5 (e▸hi));have F5:Frame (fun i=>P i∨i=s) H0 (K2.set H.length (.row (putAt ch ((at'+d) % 16) (((cs.drop (d*1))).take (min (n - d) (16 - (at'+d) % 16)))) false)):=s3.trans k5 fun i hi e=>by subst e;have:=hF.1;omega
    generalize K2.set H.length (.row (putAt ch ((at'+d) % 16) (((cs.drop (d*1))).take (min (n - d) (16 - (at'+d) % 16)))) false)=K5 at *;have e6:lbin .add (.int .i64 (d:Nat)) (.int .i64 ((min (n - d) (16 - (at'+d) % 16):Nat):Int))=some (.int .i64 ((d+min (n - d) (16 - (at'+d) % 16):Nat):Int)):=by rw[lbin_add,wrap_i64 (by omega) (by omega)];rfl
    obtain⟨t1,t2,sz',mm',es',c',t3,t4,t5,t6,t7⟩:=id B5;have e7:lload1 K5 (.ptr p 1)=some (.map mm'):=ld1 t3;rw[e6,ob_some,e7,ob_some,ldn r5 hpl,ob_some];refine Wp.call (upd_ch t1 t2 t3 t4 t5 t6 t7 (k:=(((at'+d) / 16:Nat):Int)) (by omega) hpl hpo) ?_;rintro⟨v,K6⟩ ⟨u1,u2,u3⟩;simp only at u1 u2 ⊢;exact ih (d+min (n - d) (16 - (at'+d) % 16)) f K6 (by omega) (by omega) (by omega) (S5.frame u1 hs0) u2 (F5.tr (u1.mono fun i hi=>.inl hi))
   have hnP:¬P H.length:=fun h=>by have:=q2 _ h;omega
   have hns:H.length≠s:=fun e=>by obtain⟨a,b,_,h⟩:=hS;have:=(ges h).1;omega
   have S1:=hS.frame k1 (fun h=>h);have B1:=hB.frame k1 (fun _ _ h=>h);have F1:=hF.tr k1.no
   cases bb with
   | true =>
    rw[iun_not,ob_some,Bool.not_true,cnd_false];exact fin K S1 B1 F1 r1 hnP hns
   | false =>
    rw[iun_not,ob_some,Bool.not_false,cnd_true];obtain⟨room,used,hwu,hrow⟩:=id S1;have e5:lload1 K (.ptr s 1)=some (.int .i64 used):=ld1 hrow;have e6:lload1 K (.ptr s 0)=some (.int .i64 room):=ld1 hrow;rw[e5,ob_some,e6,ob_some,lbin_eql,ob_some];refine Wp.dec (fun _=>hk d K hd S1 B1 F1) (fun _=> ?_);rw[ob_some,lbin_add,ob_some,st1 hrow (by simp only[one_int]) (by simp),ob_some];simp only;have k5:Frame (fun i=>i=s) K (K.set s (.row ([.int .i64 room,.int .i64 used].set 1 (.int .i64 (IntKind.wrap .i64 (used+1)))) false)):=Frame.set _ _ rfl;refine fin _ ⟨room,_,wrap_wrap _,setAt hrow⟩ (B1.frame k5 fun i hi e=>hs0 (e▸hi)) (F1.tr (k5.mono fun i hi=>.inr hi)) (k5.get hns r1) hnP hns
  ·rw[decide_eq_false (by omega),cnd_false];exact hk d H hd hS hB hF
end
end Go.Shade
namespace Go.Shade
open Go.RowKit
variable {K : Heap} {P : Program} {g : FuncId}
def nodN :List Nat->Bool
 | []=>true
 | i::l=>(l.all fun j=> !Nat.beq i j)&&nodN l
def gcRows (n:Nat)(f:Nat->Nat)(H1:Heap):Heap->List Nat->Bool
 | [],[]=>true
 | o::K,i::fl=>inBO n o&&((match H1[i]? with | some p=>iob (renO f o) p | none=>false)&&gcRows n f H1 K fl)
 | _,_=>false
def idN :Nat->Nat->List Nat->Bool
 | 0,_,_=>true
 | n+1,i,j::l=>Nat.beq i j&&idN n (i+1) l
 | _+1,_,[]=>false
def gcF (fl:List Nat)(i:Nat):Nat:=fl.getD i 0
def gcOk (H H1 K:Heap)(fl:List Nat)(r r':IV):Bool :=
 Nat.ble H.length K.length&&(idN H.length 0 fl&&(nodN fl&&(gcRows K.length (gcF fl) H1 K fl&&(ivb (ren (gcF fl) r') r&&inB K.length r'))))
theorem gcRows_at {n:Nat}{f:Nat->Nat}{H1:Heap}:∀{K:Heap} {fl:List Nat},gcRows n f H1 K fl=true->fl.length=K.length/\∀(i:Nat) o,K[i]? =some o->inBO n o=true/\∃j,fl[i]? =some j/\H1[j]? =some (renO f o)
 | [],[],_=>⟨rfl,fun i o h=>by simp at h⟩
 | o::K,j::fl,h=>by
  simp only[gcRows,Bool.and_eq_true]at h;obtain⟨h1,h2,h3⟩:=h;obtain⟨k1,k2⟩:=gcRows_at h3;refine⟨by simp[k1],fun i p hi=> ?_⟩
  cases i with
  | zero =>
   simp at hi;subst hi;refine⟨h1,j,rfl,?_⟩;split at h2
   ·rename_i p hp;rw[hp,iob_eq h2]
   ·cases h2
  | succ i=>exact k2 i p (by simpa using hi)
 | [],_::_,h=>by cases h
 | _::_,[],h=>by cases h
theorem idN_at :∀{n k:Nat} {fl:List Nat},idN n k fl=true->∀i,i<n->fl[i]? =some (k+i)
 | 0,_,_,_,i,hi=>by omega
 | n+1,k,[],h,_,_=>by cases h
 | n+1,k,j::l,h,i,hi=>by
  simp only[idN,Bool.and_eq_true]at h
  cases i with
  | zero=>simp[Nat.eq_of_beq_eq_true h.1]
  | succ i =>
   have:=idN_at h.2 i (by omega);simp only[List.getElem?_cons_succ];rw[this];congr 1;omega
theorem nodN_at :∀{fl:List Nat},nodN fl=true->∀(i j a b:Nat),fl[i]? =some a->fl[j]? =some b->i≠j->a≠b
 | [],_,i,j,a,b,h,_,_=>by simp at h
 | x::fl,h,i,j,a,b,hi,hj,hne=>by
  simp only[nodN,Bool.and_eq_true,List.all_eq_true,Bool.not_eq_true']at h
  cases i with
  | zero =>
   cases j with
   | zero=>exact absurd rfl hne
   | succ j =>
    simp at hi hj;subst hi;intro e;have:=h.1 b (List.mem_of_getElem? hj);rw[e,Nat.beq_refl]at this;cases this
  | succ i =>
   cases j with
   | zero =>
    simp at hi hj;subst hj;intro e;have:=h.1 a (List.mem_of_getElem? hi);rw[e,Nat.beq_refl]at this;cases this
   | succ j=>exact nodN_at h.2 i j a b (by simpa using hi) (by simpa using hj) (by omega)
theorem sim_gc {args:List IV}{H H1:Heap}{r r':IV}{fl:List Nat}(h:SimCall P g args H r H1)(hc:gcOk H H1 K fl r r'=true):SimCall P g args H r' K:=by
 simp only[gcOk,Bool.and_eq_true]at hc;obtain⟨c1,c2,c3,c4,c5,c6⟩:=hc;obtain⟨d1,d2⟩:=gcRows_at c4;have hg:∀i j,fl[i]? =some j->gcF fl i=j:=fun i j h=>by unfold gcF;rw[List.getD_eq_getElem?_getD,h];rfl
 refine h.gc (gcF fl) (fun i hi=>by have:=hg _ _ (idN_at c2 i hi);omega) (nble c1) (fun i o hi=> ?_) (fun i j hi hj hne=> ?_) (ivb_eq _ _ c5).symm c6
 ·obtain⟨e1,j,e2,e3⟩:=d2 i o hi;exact⟨e1,by rw[hg i j e2];exact e3⟩
 ·have a:=List.getElem?_eq_getElem (l:=fl) (i:=i) (by omega);have b:=List.getElem?_eq_getElem (l:=fl) (i:=j) (by omega);rw[hg _ _ a,hg _ _ b];exact nodN_at c3 i j _ _ a b hne
def stage (o:Option (IV×Heap))(H K:Heap)(fl:List Nat)(r':IV):Bool:=match o with
 | some (r,H1)=>gcOk H H1 K fl r r'
 | none=>false
theorem sim_stage {T:Table}(hT:SoundT P T)(hm:P.follows .mixedOrders=true){N n:Nat}{args:List IV}{H:Heap}{r':IV}{fl:List Nat}(h:stage (kcallT P T N n g args H) H K fl r'=true):SimCall P g args H r' K:=by
 unfold stage at h;split at h
 ·rename_i r H1 e;exact sim_gc (sound_kcallT hT hm N n _ _ _ _ _ e) h
 ·cases h
def atT (A:List IV)(H0:Heap)(R:IV)(K:Heap)(args:List IV)(H:Heap):Option (IV×Heap):=if ivbs args A&&hpb H H0 then some (R,K)else none
theorem sound_atT {A:List IV}{H0:Heap}{R:IV}(h:SimCall P g A H0 R K)(args:List IV)(H:Heap)(r:IV)(H':Heap)(e:atT A H0 R K args H=some (r,H')):SimCall P g args H r H':=by
 unfold atT at e;split at e
 ·rename_i hc;simp only[Bool.and_eq_true]at hc
  cases e
  rw[ivbs_eq _ _ hc.1,hpb_eq hc.2];exact h
 ·cases e
end Go.Shade
namespace Go.Shade
section
variable {cal : FuncId -> Bool} {O : Oracle} {N : Nat}
theorem swrite_s (hN:65537<N){P:Nat->Prop}{H:Heap}{s p:Nat}{off:Int}{dv:IV}{n:Nat}{cs:List IV}(hS:SOk H s)(hB:BodyOk P H p)(hs:¬P s)(hsl:Sl 1 H dv n cs)(h1:cs.all IV.one=true)(hat:At (fun i=>¬P i/\i≠s) dv)(hn:n<=1000000) :
  Wp (BsWriteS cal O N (.ptr s 0) (.ptr p 0) (.int .i64 off) dv H) (WrP P H s p):=by
 have done:∀a e:Int,Wp (some ((IV.tuple [.int .i64 a,.int .i64 e]),H)) (WrP P H s p):=fun a e=>Wp.ret ⟨⟨a,e,rfl⟩,Frame.refl _ _,hB,hS⟩;unfold BsWriteS BsWriteC7S BsWriteC6S;rw[lbin_lss,ob_some];refine Wp.dec (fun _=>done _ _) (fun h0=> ?_);rw[hsl.len,ob_some,lbin_eql,ob_some];refine Wp.dec (fun _=>done _ _) (fun hn0=> ?_);rw[lbin_geq,ob_some];refine Wp.dec (fun _=>done _ _) (fun h2=> ?_);obtain⟨o,rfl⟩:∃o:Nat,off=(o:Nat):=⟨off.toNat,by omega⟩;unfold BsWriteC5S BsWriteC4S;have e1:lbin .sub (.int .i64 65536) (.int .i64 (o:Nat))=some (.int .i64 ((65536 - o:Nat):Int)):=by rw[lbin_sub,wrap_i64 (by omega) (by omega)];congr 2;omega
 have e2:ifold imin2 (.int .i64 (n:Nat)) [.int .i64 ((65536 - o:Nat):Int)]=some (.int .i64 ((min n (65536 - o):Nat):Int)):=by
  simp only[ifold,imin2,if_true,Option.bind_some]
  congr 2
  split<;>omega
 obtain⟨dv2,a1,a2⟩:=hsl.take (k:=min n (65536 - o)) (by omega);rw[hsl.len,ob_some,e1,ob_some,e2,ob_some,a1,ob_some];unfold BsWriteC3S BsWriteC2S BsWriteC1S;have hat2:At (fun i=>¬P i/\i≠s) dv2:=by
  intro b o' n' lb ex sz e hp;rcases hsl with⟨z1,⟨rfl,z2⟩ | ⟨b',o'',lb',ex',sz',rfl,z2,z3,z4⟩⟩
  ·exact absurd z2 (by omega)
  ·have:dv2=.slice b' (o''+0*1) (min n (65536 - o) - 0) (lb' - 0) ex' sz':=by
    simp only[lslice,bnd]at a1;rw[if_pos (by omega)]at a1;simp only[Option.bind_some,Int.toNat_natCast]at a1;rw[if_neg (fun h=>by rcases z3 with e | e;exact h.1 e;exact h.2 e),if_pos (by clear z4;omega)]at a1;injection a1 with a1
    exact a1.symm
   rw[e]at this;injection this with i1 i2 i3 i4 i5 i6
   rw[i1];exact hat b' o'' n lb' ex' sz' rfl (by omega)
 have h1':(cs.take (min n (65536 - o)*1)).all IV.one=true:=by
  rw[List.all_eq_true]at h1 ⊢;exact fun x hx=>h1 x (List.mem_of_mem_take hx)
 refine swrite_go (P:=P) (s:=s) hs a2 h1' hat2 (by omega) ?_ (min n (65536 - o)) 0 N H (by omega) (by omega) (by omega) hS hB (Frame.refl _ _);intro d K hd kS kB kF;simp only;rw[lbin_eql,ob_some];refine Wp.dec (fun _=>Wp.ret ⟨⟨_,_,rfl⟩,kF,kB,kS⟩) (fun _=> ?_);obtain⟨q1,q2,sz,m,es,c,q3,q4,q5,q6,q7⟩:=id kB;have e3:lload1 K (.ptr p 0)=some (.int .i64 sz):=ld1 q3;have e4:∃z,ob (lbin .add (.int .i64 (o:Nat)) (.int .i64 (d:Nat))) (fun t5=>ifold imax2 (.int .i64 sz) [t5])=some (.int .i64 z):=by
  rw[lbin_add,ob_some];simp only[ifold,imax2,if_true,Option.bind_some];exact⟨_,rfl⟩
 obtain⟨z,e4⟩:=e4;rw[lbin_add,ob_some]at e4;simp only[lchk_ptr,loff_ptr,ob_some,Nat.zero_add,e3,lbin_add,e4];rw[st1 q3 (by simp only[one_int]) (by simp),ob_some];have k5:Frame (fun i=>i=p) K (K.set p (.row ([.int .i64 sz,.map m].set 0 (.int .i64 z)) false)):=Frame.set _ _ rfl;refine Wp.ret ⟨⟨_,_,rfl⟩,kF.tr (k5.mono fun i hi=>.inl (by subst hi;exact q1)),⟨q1,fun i hi=>by simpa using q2 i hi,z,m,es,c,setAt q3,q4,q5,k5.get q5 q6,q7⟩,kS.frame k5 fun e=>hs (e▸q1)⟩
theorem nbeq {a b:Nat}(h:a≠b):Nat.beq a b=false:=by
 cases hb:Nat.beq a b with
 | false=>rfl
 | true=>exact absurd (Nat.eq_of_beq_eq_true hb) h
theorem nodN_of :∀{l:List Nat},l.Nodup->nodN l=true
 | [],_=>rfl
 | i::l,h=>by
  simp only[List.nodup_cons]at h;simp only[nodN,Bool.and_eq_true,List.all_eq_true,Bool.not_eq_true'];exact⟨fun j hj=>nbeq fun e=>h.1 (e▸hj),nodN_of h.2⟩
def SFreeOk (O:Oracle)(f:FuncId):Prop:=∀(P:Nat->Prop) (H:Heap) (s p:Nat),SOk H s->BodyOk P H p->¬P s->Wp (O f [.ptr s 0,.ptr p 0] H) fun r=>r.1=.tuple []/\Frame (fun i=>P i∨i=s) H r.2/\BodyOk P r.2 p/\SOk r.2 s
def keysI :List Ent->Bool
 | []=>true
 | (.int .i64 k,_,_)::es=>decide (0<=k/\k<=65536)&&keysI es
 | _=>false
def intIn (k:Int):List Ent->Bool
 | []=>false
 | (.int .i64 j,_,_)::es=>decide (j=k)||intIn k es
 | _::es=>intIn k es
def keysD :List Ent->Bool
 | []=>true
 | (.int .i64 k,_,_)::es=> !intIn k es&&keysD es
 | _=>false
def cutT (args:List IV)(H:Heap):Option (IV×Heap):=match args with
 | [.ptr s 0,.ptr p 0,.int .i64 0]=>match H[s]?,H[p]? with
  | some (.row [.int .i64 room,.int .i64 used] false),some (.row [.int .i64 sz,.map m] false)=>match H[m]? with
   | some (.map es c)=>if decide (IntKind.wrap .i64 used=used)&&(keysI es&&(keysD es&&(es.all (fun e=>Nat.blt e.2.2 c)&&(es.all (fun e=>match e.2.1 with | .agg cs=>Nat.beq cs.length 16&&cs.all IV.one | _=>false)&&(nodN (es.map (·.2.2))&&(!Nat.beq s p&&(!Nat.beq m s&& !Nat.beq m p)))))))then
     some (.int .i64 0,((H.set s (.row [.int .i64 room,.int .i64 (IntKind.wrap .i64 (used - es.length))] false)).set m (.map [] c)).set p (.row [.int .i64 0,.map m] false))
    else none
   | _=>none
  | _,_=>none
 | _=>none
def CutTOk (O:Oracle)(f:FuncId):Prop:=∀args H,O f args H=cutT args H
theorem sfree_s {fc:FuncId}(hc:CutTOk O fc){P:Nat->Prop}{H:Heap}{s p:Nat}(hS:SOk H s)(hB:BodyOk P H p)(hs:¬P s):Wp (BsFreeS cal O N fc (.ptr s 0) (.ptr p 0) H) fun r=>r.1=.tuple []/\Frame (fun i=>P i∨i=s) H r.2/\BodyOk P r.2 p/\SOk r.2 s:=by
 obtain⟨q1,q2,sz,m,es,c,q3,q4,q5,q6,q7⟩:=id hB;obtain⟨room,used,hwu,hrow⟩:=id hS;unfold BsFreeS;have kI:∀{es:List Ent},(∀e∈es,∃k:Int,e.1=.int .i64 k/\0<=k/\k<=65536)->keysI es=true:=by
  intro es
  induction es with
  | nil=>intro _;rfl
  | cons e es ih =>
   intro h;obtain⟨k,v,d⟩:=e;obtain⟨k',hk,hr⟩:=h (k,v,d) (by simp);simp only at hk;subst hk;simp only[keysI,decide_eq_true hr,Bool.true_and];exact ih fun e he=>h e (List.mem_cons_of_mem _ he)
 have kN:∀{es:List Ent} {k:Int},(∀e∈es,∃k:Int,e.1=.int .i64 k)-> .int .i64 k ∉ es.map (·.1)->intIn k es=false:=by
  intro es k
  induction es with
  | nil=>intro _ _;rfl
  | cons e es ih =>
   intro h hn;obtain⟨k0,v,d⟩:=e;obtain⟨k',hk⟩:=h (k0,v,d) (by simp);simp only at hk;subst hk;simp only[intIn];simp only[List.map_cons,List.mem_cons,not_or]at hn;rw[decide_eq_false (fun e=>hn.1 (by rw[e])),Bool.false_or];exact ih (fun e he=>h e (List.mem_cons_of_mem _ he)) hn.2
 have kD:∀{es:List Ent},(∀e∈es,∃k:Int,e.1=.int .i64 k)->(es.map (·.1)).Nodup->keysD es=true:=by
  intro es
  induction es with
  | nil=>intro _ _;rfl
  | cons e es ih =>
   intro h hn;obtain⟨k0,v,d⟩:=e;obtain⟨k',hk⟩:=h (k0,v,d) (by simp);simp only at hk;subst hk;simp only[List.map_cons,List.nodup_cons]at hn;simp only[keysD];rw[kN (fun e he=>h e (List.mem_cons_of_mem _ he)) hn.1,Bool.not_false,Bool.true_and];exact ih (fun e he=>h e (List.mem_cons_of_mem _ he)) hn.2
 have hcut:cutT [.ptr s 0,.ptr p 0,.int .i64 0] H=some (.int .i64 0,((H.set s (.row [.int .i64 room,.int .i64 (IntKind.wrap .i64 (used - es.length))] false)).set m (.map [] c)).set p (.row [.int .i64 0,.map m] false)):=by
  simp only[cutT,hrow,q3,q6];rw[if_pos];simp only[Bool.and_eq_true,Bool.not_eq_true',List.all_eq_true];refine⟨decide_eq_true hwu,kI q7.key,kD q7.keyI q7.nodup,fun e he=>by have:=q7.id e he;simp[Nat.blt];omega,fun e he=> ?_,nodN_of q7.idup,?_,?_,?_⟩
  ·obtain⟨cs,a,b,d⟩:=q7.val e he;rw[a];simp only[b,d];rfl
  ·exact nbeq (fun e=>hs (e▸q1))
  ·exact nbeq (fun e=>hs (e▸q4))
  ·exact nbeq q5
 rw[hc,hcut,ob_some];have hsp:s≠p:=fun e=>hs (e▸q1);have hsm:s≠m:=fun e=>hs (e▸q4);refine Wp.ret ⟨rfl,?_,⟨q1,fun i hi=>by simpa using q2 i hi,0,m,[],c,?_,q4,q5,?_,⟨(fun _ h=>absurd h (by simp)),(fun _ h=>absurd h (by simp)),(fun _ h=>absurd h (by simp)),List.nodup_nil,List.nodup_nil⟩⟩,room,IntKind.wrap .i64 (used - es.length),wrap_wrap _,?_⟩
 ·exact((Frame.set _ _ (.inr rfl)).tr (Frame.set _ _ (.inl q4))).tr (Frame.set _ _ (.inl q1))
 ·have:=q2 p q1;rw[List.getElem?_set_self (by simpa using this)]
 ·have:=q2 m q4;rw[List.getElem?_set_ne (fun e=>q5 e.symm),List.getElem?_set_self (by simpa using this)]
 ·rw[List.getElem?_set_ne (fun e=>hsp e.symm),List.getElem?_set_ne (fun e=>hsm e.symm),setAt hrow]
end
end Go.Shade
namespace Go.Shade
variable {H : Heap} {P Q : Nat -> Prop} {cs : List IV} {i n t : Nat} {own : Nat -> Nat} {q s : IV}
structure Nod where
 p:Nat
 q:Nat
 kind:Int
 links:Int
 holds:Int
 marks:Int
 parent:Int
 body:Bool
 dir:Option Dr
 target:Nam
def Nod.c (x:Nod):List IV:=[.int .i64 x.kind,.int .i64 x.links,.int .i64 x.holds,.int .i64 x.marks,.int .i64 x.parent,(if x.body=true then .ptr x.q 0 else .nilPtr),(if x.dir.isSome=true then .ptr x.q 0 else .nilPtr),.str x.target]
theorem Nod.c_length (x:Nod):x.c.length=8:=rfl
theorem Nod.c_one (x:Nod):x.c.all IV.one=true:=by
 unfold Nod.c
 cases x.body<;>cases x.dir<;>rfl
structure NodOk (P:Nat->Prop)(H:Heap)(x:Nod):Prop where
 own:P x.p
 lt:∀j,P j->j<H.length
 row:H[x.p]? =some (.row x.c false)
 bod:x.body=true->BodyOk (fun j=>P j/\j≠x.p) H x.q
 dir:∀l,x.dir=some l->DirOk (fun j=>P j/\j≠x.p) H x.q l
 one:x.body=true->x.dir=none
theorem BodyOk.iff {p:Nat}(h:BodyOk P H p)(k:∀j,P j↔Q j):BodyOk Q H p:=by
 have:P=Q:=funext fun j=>propext (k j);rw[←this];exact h
theorem NodOk.iff {x:Nod}(h:NodOk P H x)(k:∀j,P j↔Q j):NodOk Q H x:=by
 have:P=Q:=funext fun j=>propext (k j);rw[←this];exact h
theorem QOk.iff {q:Nat}{l:List It}{k':Int}(h:QOk P H q l k')(k:∀j,P j↔Q j):QOk Q H q l k':=by
 have:P=Q:=funext fun j=>propext (k j);rw[←this];exact h
theorem NodOk.frame {P F:Nat->Prop}{H H':Heap}{x:Nod}(h:NodOk P H x)(k:Frame F H H')(hf:∀j,P j->¬F j):NodOk P H' x :=
 ⟨h.own,fun j hj=>Nat.lt_of_lt_of_le (h.lt j hj) k.1,k.get (hf _ h.own) h.row,fun e=>(h.bod e).frame k fun j hj=>hf j hj.1,fun l e=>(h.dir l e).frame k fun j hj=>hf j hj.1,h.one⟩
structure Brs where
 s:Nat
 q:Nat
 k:Int
 free:List It
 nod:Nat->Option Nod
def Brs.cell (st:Brs)(i:Nat):IV:=match st.nod i with
 | none=>.nilPtr
 | some x=>.ptr x.p 0
def Brs.cells (st:Brs):List IV:=(List.range 201).map st.cell
theorem Brs.cells_length (st:Brs):st.cells.length=201:=by simp[Brs.cells]
theorem Brs.cells_get (st:Brs)(h:i<201):st.cells[i]? =some (st.cell i):=by simp[Brs.cells,h]
def Brs.put (st:Brs)(i:Nat)(o:Option Nod):Brs:= { st with nod:=fun k=>if k=i then o else st.nod k }
theorem Brs.put_same (st:Brs)(i:Nat)(o:Option Nod):(st.put i o).nod i=o:=if_pos rfl
theorem Brs.put_ne (st:Brs){k:Nat}(o:Option Nod)(h:k≠i):(st.put i o).nod k=st.nod k:=if_neg h
theorem Brs.cell_put (st:Brs)(i:Nat)(o:Option Nod)(k:Nat):(st.put i o).cell k=if k=i then(match o with | none=>.nilPtr | some x=>.ptr x.p 0)else st.cell k:=by
 by_cases e:k=i
 ·subst e;unfold Brs.cell;rw[Brs.put_same,if_pos rfl]
 ·unfold Brs.cell;rw[Brs.put_ne _ _ e,if_neg e]
theorem Brs.cells_put (st:Brs)(o:Option Nod)(h:i<201):(st.put i o).cells=st.cells.set i (match o with | none=>.nilPtr | some x=>.ptr x.p 0):=by
 refine List.ext_getElem? fun k=> ?_;rw[List.getElem?_set];by_cases hk:k<201
 ·rw[Brs.cells_get _ hk,Brs.cell_put];by_cases e:i=k
  ·subst e;rw[if_pos rfl,if_pos rfl,if_pos (by rw[Brs.cells_length];exact h)]
  ·rw[if_neg (fun h=>e h.symm),if_neg e,Brs.cells_get _ hk]
 ·have h1:(st.put i o).cells[k]? =none:=List.getElem?_eq_none (by rw[Brs.cells_length];omega);have h2:st.cells[k]? =none:=List.getElem?_eq_none (by rw[Brs.cells_length];omega);rw[h1,h2,if_neg (by omega)]
theorem Brs.cells_put_same (st:Brs){x x':Nod}(hx:st.nod i=some x)(hp:x'.p=x.p):(st.put i (some x')).cells=st.cells:=by
 unfold Brs.cells;refine List.map_congr_left fun k _=> ?_;rw[Brs.cell_put];split
 ·rename_i e;subst e;unfold Brs.cell;rw[hx];simp only[hp]
 ·rfl
structure BrOk (own:Nat->Nat)(H:Heap)(b:Nat)(st:Brs):Prop where
 ob:own b=203
 os:own st.s=201
 row:H[b]? =some (.row (brC (.ptr st.s 0) st.cells (.ptr st.q 0)) false)
 sto:SOk H st.s
 que:QOk (fun j=>own j=202) H st.q st.free st.k
 nod:∀i x,st.nod i=some x->1<=i/\i<=200/\NodOk (fun j=>own j=i) H x
 lt:∀j,own j≠0->j<H.length
theorem BrOk.frame {own:Nat->Nat}{H H':Heap}{b:Nat}{st:Brs}(h:BrOk own H b st){F:Nat->Prop}(k:Frame F H H')(hf:∀j,own j≠0->¬F j):BrOk own H' b st :=
 ⟨h.ob,h.os,k.get (hf b (by rw[h.ob];decide)) h.row,h.sto.frame k (hf _ (by rw[h.os];decide)),h.que.frame k fun j hj=>hf j (by rw[hj];decide),fun i x hx=>by
  obtain⟨a,b,c⟩:=h.nod i x hx;exact⟨a,b,c.frame k fun j hj=>hf j (by rw[hj];omega)⟩,fun j hj=>Nat.lt_of_lt_of_le (h.lt j hj) k.1⟩
theorem BrOk.kp {H':Heap}{b:Nat}{st:Brs}(h:BrOk own H b st)(k:Frame NoF H H'):BrOk own H' b st:=h.frame k fun _ _ h=>h
open Classical in
noncomputable def ownSet (own:Nat->Nat)(t:Nat)(P:Nat->Prop):Nat->Nat:=fun j=>if P j then t else if own j=t then 0 else own j
theorem ownSet_same (ht:t≠0)(j:Nat):P j↔ownSet own t P j=t:=by
 unfold ownSet;by_cases hp:P j
 ·rw[if_pos hp];simp[hp]
 ·rw[if_neg hp];by_cases e:own j=t
  ·rw[if_pos e];simp[hp];omega
  ·rw[if_neg e];simp[hp,e]
theorem ownSet_ne {u:Nat}(hP:∀j,P j->own j=t∨own j=0)(hu:u≠t)(hu0:u≠0)(j:Nat):own j=u↔ownSet own t P j=u:=by
 unfold ownSet;by_cases hp:P j
 ·rw[if_pos hp];rcases hP j hp with h | h<;>omega
 ·rw[if_neg hp];by_cases e:own j=t
  ·rw[if_pos e];omega
  ·rw[if_neg e]
theorem ownSet_lt (h:∀j,own j≠0->j<n)(hP:∀j,P j->j<n)(j:Nat)(hj:ownSet own t P j≠0):j<n:=by
 unfold ownSet at hj;by_cases hp:P j
 ·exact hP j hp
 ·rw[if_neg hp]at hj;by_cases e:own j=t
  ·rw[if_pos e]at hj;exact absurd rfl hj
  ·rw[if_neg e]at hj;exact h j hj
theorem ownSet_ok (hP:∀j,P j->own j=t∨n<=j)(j:Nat)(hj:ownSet own t P j≠0)(ht:t≠0):own j≠0∨n<=j:=by
 unfold ownSet at hj;by_cases hp:P j
 ·rcases hP j hp with h | h
  ·exact .inl (by omega)
  ·exact .inr h
 ·rw[if_neg hp]at hj;by_cases e:own j=t
  ·rw[if_pos e]at hj;exact absurd rfl hj
  ·rw[if_neg e]at hj;exact .inl hj
theorem BrOk.new0 {b:Nat}{st:Brs}(h:BrOk own H b st){j:Nat}(hj:H.length<=j):own j=0:=by
 cases e:own j with
 | zero=>rfl
 | succ n=>have:=h.lt j (by omega);omega
section
variable {own : Nat -> Nat} {H H' : Heap} {b i : Nat} {st : Brs} {x x' : Nod} {P' : Nat -> Prop}
theorem BrOk.upd (h:BrOk own H b st)(hx:st.nod i=some x)(hF:Frame (fun j=>own j=i∨own j=201) H H')(hs:SOk H' st.s)(hP:∀j,P' j->own j=i∨H.length<=j)(hn:NodOk P' H' x')(hp:x'.p=x.p):BrOk (ownSet own i P') H' b (st.put i (some x')):=by
 obtain⟨i1,i2,i3⟩:=h.nod i x hx;have hP0:∀j,P' j->own j=i∨own j=0:=fun j hj=>(hP j hj).imp (fun h=>h) fun h'=>h.new0 h';refine⟨(ownSet_ne hP0 (by omega) (by decide) b).1 h.ob,(ownSet_ne hP0 (by omega) (by decide) _).1 h.os,?_,hs,?_,fun k y hy=> ?_,ownSet_lt (fun j hj=>Nat.lt_of_lt_of_le (h.lt j hj) hF.1) hn.lt⟩
 ·rw[st.cells_put_same hx hp];exact hF.get (by rw[h.ob];omega) h.row
 ·exact(h.que.frame hF fun j hj e=>by omega).iff fun j=>ownSet_ne hP0 (by omega) (by decide) j
 ·by_cases e:k=i
  ·subst e;rw[Brs.put_same]at hy
   cases hy
   exact⟨i1,i2,hn.iff fun j=>ownSet_same (by omega) j⟩
  ·rw[Brs.put_ne _ _ e]at hy;obtain⟨a,b',c⟩:=h.nod k y hy;exact⟨a,b',(c.frame hF fun j hj e=>by omega).iff fun j=>ownSet_ne hP0 e (by omega) j⟩
theorem BrOk.free' (h:BrOk own H b st){l:List It}{k:Int}(hF:Frame (fun j=>own j=202) H H')(hP:∀j,P' j->own j=202∨H.length<=j)(hq:QOk P' H' st.q l k):BrOk (ownSet own 202 P') H' b { st with free:=l,k:=k }:=by
 have hP0:∀j,P' j->own j=202∨own j=0:=fun j hj=>(hP j hj).imp (fun h=>h) fun h'=>h.new0 h';refine⟨(ownSet_ne hP0 (by decide) (by decide) b).1 h.ob,(ownSet_ne hP0 (by decide) (by decide) _).1 h.os,hF.get (by rw[h.ob];decide) h.row,h.sto.frame hF (by rw[h.os];decide),hq.iff fun j=>ownSet_same (by decide) j,fun k y hy=> ?_,ownSet_lt (fun j hj=>Nat.lt_of_lt_of_le (h.lt j hj) hF.1) hq.2.1⟩;obtain⟨a,b',c⟩:=h.nod k y hy;exact⟨a,b',(c.frame hF fun j hj e=>by omega).iff fun j=>ownSet_ne hP0 (by omega) (by omega) j⟩
theorem BrOk.newNod (h:BrOk own H b st)(h0:st.nod i=none)(h1:1<=i/\i<=200)(hP:∀j,P' j->own j=0)(hn:NodOk P' H x'):BrOk (ownSet own i P') (H.set b (.row (brC (.ptr st.s 0) (st.cells.set i (.ptr x'.p 0)) (.ptr st.q 0)) false)) b (st.put i (some x')):=by
 have hP0:∀j,P' j->own j=i∨own j=0:=fun j hj=>.inr (hP j hj);have hF:Frame (fun j=>j=b) H (H.set b (.row (brC (.ptr st.s 0) (st.cells.set i (.ptr x'.p 0)) (.ptr st.q 0)) false)):=Frame.set _ _ rfl;have hbP:¬P' b:=fun h'=>by have:=hP b h';rw[h.ob]at this;cases this
 refine⟨(ownSet_ne hP0 (by omega) (by decide) b).1 h.ob,(ownSet_ne hP0 (by omega) (by decide) _).1 h.os,?_,h.sto.frame hF (fun e=>by have:=h.os;rw[e,h.ob]at this;cases this),?_,fun k y hy=> ?_,ownSet_lt (fun j hj=>Nat.lt_of_lt_of_le (h.lt j hj) hF.1) (fun j hj=>by rw[List.length_set];exact hn.lt j hj)⟩
 ·rw[setAt h.row,st.cells_put _ (by omega)];rfl
 ·exact(h.que.frame hF fun j hj e=>by subst e;rw[h.ob]at hj;cases hj).iff fun j=>ownSet_ne hP0 (by omega) (by decide) j
 ·by_cases e:k=i
  ·subst e;rw[Brs.put_same]at hy
   cases hy
   exact⟨h1.1,h1.2,(hn.frame hF fun j hj e=>hbP (e▸hj)).iff fun j=>ownSet_same (by omega) j⟩
  ·rw[Brs.put_ne _ _ e]at hy;obtain⟨a,b',c⟩:=h.nod k y hy;exact⟨a,b',(c.frame hF fun j hj e=>by subst e;rw[h.ob]at hj;omega).iff fun j=>ownSet_ne hP0 e (by omega) j⟩
theorem BrOk.delNod (h:BrOk own H b st)(h1:1<=i/\i<=200):BrOk (ownSet own i (fun _=>False)) (H.set b (.row (brC (.ptr st.s 0) (st.cells.set i .nilPtr) (.ptr st.q 0)) false)) b (st.put i none):=by
 have hP0:∀j,(fun _=>False) j->own j=i∨own j=0:=fun j hj=>hj.elim;have hF:Frame (fun j=>j=b) H (H.set b (.row (brC (.ptr st.s 0) (st.cells.set i .nilPtr) (.ptr st.q 0)) false)):=Frame.set _ _ rfl;refine⟨(ownSet_ne hP0 (by omega) (by decide) b).1 h.ob,(ownSet_ne hP0 (by omega) (by decide) _).1 h.os,?_,h.sto.frame hF (fun e=>by have:=h.os;rw[e,h.ob]at this;cases this),?_,fun k y hy=> ?_,ownSet_lt (fun j hj=>Nat.lt_of_lt_of_le (h.lt j hj) hF.1) (fun j hj=>hj.elim)⟩
 ·rw[setAt h.row,st.cells_put _ (by omega)];rfl
 ·exact(h.que.frame hF fun j hj e=>by subst e;rw[h.ob]at hj;cases hj).iff fun j=>ownSet_ne hP0 (by omega) (by decide) j
 ·by_cases e:k=i
  ·subst e;rw[Brs.put_same]at hy
   cases hy
  ·rw[Brs.put_ne _ _ e]at hy;obtain⟨a,b',c⟩:=h.nod k y hy;exact⟨a,b',(c.frame hF fun j hj e=>by subst e;rw[h.ob]at hj;omega).iff fun j=>ownSet_ne hP0 e (by omega) j⟩
end
theorem brC_s (s q:IV)(cs:List IV):(brC s cs q)[0]? =some s:=rfl
theorem brC_at (h:i<cs.length):(brC s cs q)[i+1]? =cs[i]? :=by
 unfold brC;rw[List.getElem?_cons_succ,List.getElem?_append_left h]
theorem brC_q (h:cs.length=n):(brC s cs q)[n+1]? =some q:=by
 unfold brC;rw[List.getElem?_cons_succ,List.getElem?_append_right (by omega),h,Nat.sub_self];rfl
theorem brC_set {v:IV}(h:i<cs.length):(brC s cs q).set (i+1) v=brC s (cs.set i v) q:=by
 unfold brC;rw[List.set_cons_succ,List.set_append_left _ _ h]
theorem brC_length :(brC s cs q).length=cs.length+2:=by simp[brC]
end Go.Shade
namespace Go.Shade
variable {H : Heap} {b : Nat} {fa fg : FuncId} {i : Int} {own : Nat -> Nat} {s : Nam} {st : Brs} {x : Nod}
def nodI (st:Brs)(i:Int):Option Nod:=if 1<=i/\i<=200 then st.nod i.toNat else none
def kindOf (st:Brs)(i:Int):Int:=match nodI st i with
 | some x=>x.kind
 | none=>0
def marksOf (st:Brs)(i:Int):Int:=match nodI st i with
 | some x=>x.marks
 | none=>0
theorem nodI_at (h:nodI st i=some x):∃n:Nat,i=(n:Nat)/\st.nod n=some x:=by
 unfold nodI at h;split at h
 ·exact⟨i.toNat,by omega,h⟩
 ·cases h
theorem nodI_nat (h:BrOk own H b st){n:Nat}(hx:st.nod n=some x):nodI st (n:Nat)=some x:=by
 obtain⟨a,b,_⟩:=h.nod n x hx;unfold nodI;rw[if_pos (by omega)];simpa using hx
structure KInv (st:Brs):Prop where
 dir:∀i x,st.nod i=some x->(x.kind=2↔x.dir.isSome=true)
 body:∀i x,st.nod i=some x->(x.kind=1↔x.body=true)
 kind:∀i x,st.nod i=some x->1<=x.kind/\x.kind<=4
def LenInv (c:Nat)(st:Brs):Prop:=∀i x l,st.nod i=some x->x.dir=some l->l.length<=c
section
variable {cal : FuncId -> Bool} {O : Oracle} {N : Nat}
def AtOk (O:Oracle)(f:FuncId):Prop:=∀(own:Nat->Nat) (H:Heap) (b:Nat) (st:Brs) (i:Int),BrOk own H b st->O f [.ptr b 0,.int .i64 i] H=some ((match nodI st i with | some x=>.ptr x.p 0 | none=>.nilPtr),H)
theorem at_s (h:BrOk own H b st):BbAtS cal O N (.ptr b 0) (.int .i64 i) H=some ((match nodI st i with | some x=>.ptr x.p 0 | none=>.nilPtr),H):=by
 unfold BbAtS nodI;rw[lbin_lss,ob_some];by_cases h1:i<1
 ·rw[decide_eq_true h1];simp only[isB_tf,gq_false,ob_some,lpick_true,cnd_true];rw[if_neg (by omega)]
 ·rw[decide_eq_false h1];simp only[isB_ff,gq_true,ob_some,lpick_false,lbin_gtr];by_cases h2:200<i
  ·rw[decide_eq_true h2,cnd_true,if_neg (by omega)]
  ·rw[decide_eq_false h2,cnd_false,if_pos (by omega)];obtain⟨n,rfl⟩:∃n:Nat,i=(n:Nat):=⟨i.toNat,by omega⟩;have e1:lload1 H (.ptr b (0+1+Int.toNat (n:Nat)*1))=some (st.cell n):=by
    rw[ld1 h.row,Int.toNat_natCast,show 0+1+n*1=n+1 by omega,brC_at (by rw[st.cells_length];omega),st.cells_get (by omega)]
   rw[lchk_ptr,ob_some,loff_ptr,ob_some,lixa_ptr,if_pos (by omega),ob_some,e1,ob_some,Int.toNat_natCast];unfold Brs.cell
   cases st.nod n<;>rfl
theorem eqv_nil {p o:Nat}:leqv false (leq .ptr (.ptr p o) .nilPtr)=some (.bool false):=id rfl
theorem eqv_nn :leqv false (leq .ptr .nilPtr .nilPtr)=some (.bool true):=id rfl
theorem nev_nil {p o:Nat}:leqv true (leq .ptr (.ptr p o) .nilPtr)=some (.bool true):=id rfl
theorem nev_nn :leqv true (leq .ptr .nilPtr .nilPtr)=some (.bool false):=id rfl
theorem nod_row (h:BrOk own H b st)(hx:nodI st i=some x):H[x.p]? =some (.row x.c false):=by
 obtain⟨n,rfl,hn⟩:=nodI_at hx;exact(h.nod n x hn).2.2.row
def KindOk (O:Oracle)(f:FuncId):Prop:=∀(own:Nat->Nat) (H:Heap) (b:Nat) (st:Brs) (i:Int),BrOk own H b st->O f [.ptr b 0,.int .i64 i] H=some (.int .i64 (kindOf st i),H)
theorem kind_s (ha:AtOk O fa)(h:BrOk own H b st):BbKindS cal O N fa (.ptr b 0) (.int .i64 i) H=some (.int .i64 (kindOf st i),H):=by
 unfold BbKindS kindOf;rw[ha own H b st i h,ob_some]
 cases hx:nodI st i with
 | none=>simp only[nev_nn,ob_some,cnd_false]
 | some x =>
  have e1:lload1 H (.ptr x.p 0)=some (.int .i64 x.kind):=ld1 (nod_row h hx);simp only[nev_nil,ob_some,cnd_true,lchk_ptr,loff_ptr,Nat.zero_add,e1]
def MarksOk (O:Oracle)(f:FuncId):Prop:=∀(own:Nat->Nat) (H:Heap) (b:Nat) (st:Brs) (i:Int),BrOk own H b st->O f [.ptr b 0,.int .i64 i] H=some (.int .i64 (marksOf st i),H)
theorem marks_s (ha:AtOk O fa)(h:BrOk own H b st):BbMarksS cal O N fa (.ptr b 0) (.int .i64 i) H=some (.int .i64 (marksOf st i),H):=by
 unfold BbMarksS marksOf;rw[ha own H b st i h,ob_some]
 cases hx:nodI st i with
 | none=>simp only[nev_nn,ob_some,cnd_false]
 | some x =>
  have e1:lload1 H (.ptr x.p 3)=some (.int .i64 x.marks):=ld1 (nod_row h hx);simp only[nev_nil,ob_some,cnd_true,lchk_ptr,loff_ptr,Nat.zero_add,e1]
def dirOf (st:Brs)(i:Int):Nod ⊕ Int:=match nodI st i with
 | none=>.inr 2
 | some x=>if x.kind=2 then .inl x else .inr 20
def dirV :Nod ⊕ Int->IV
 | .inl x=>.tuple [.ptr x.p 0,.int .i64 0]
 | .inr e=>.tuple [.nilPtr,.int .i64 e]
def BDirOk (O:Oracle)(f:FuncId):Prop:=∀(own:Nat->Nat) (H:Heap) (b:Nat) (st:Brs) (i:Int),BrOk own H b st->O f [.ptr b 0,.int .i64 i] H=some (dirV (dirOf st i),H)
theorem bdir_s (ha:AtOk O fa)(h:BrOk own H b st):BbDirS cal O N fa (.ptr b 0) (.int .i64 i) H=some (dirV (dirOf st i),H):=by
 unfold BbDirS dirOf;rw[ha own H b st i h,ob_some]
 cases hx:nodI st i with
 | none=>simp only[eqv_nn,ob_some,cnd_true,dirV]
 | some x =>
  have e1:lload1 H (.ptr x.p 0)=some (.int .i64 x.kind):=ld1 (nod_row h hx);simp only[eqv_nil,ob_some,cnd_false,lchk_ptr,loff_ptr,Nat.zero_add,e1,lbin_neq];by_cases hk:x.kind=2
  ·rw[decide_eq_true hk,if_pos hk,Bool.not_true,cnd_false];rfl
  ·rw[decide_eq_false hk,if_neg hk,Bool.not_false,cnd_true];rfl
def chgOf (st:Brs)(i:Int):Nod ⊕ Int:=match dirOf st i with
 | .inl x=>if x.links=0 then .inr 2 else .inl x
 | .inr e=>.inr e
def ChgOk (O:Oracle)(f:FuncId):Prop:=∀(own:Nat->Nat) (H:Heap) (b:Nat) (st:Brs) (i:Int),BrOk own H b st->O f [.ptr b 0,.int .i64 i] H=some (dirV (chgOf st i),H)
theorem dirOf_inl (h:dirOf st i=.inl x):nodI st i=some x/\x.kind=2:=by
 unfold dirOf at h;split at h
 ·cases h
 ·rename_i y hy;split at h
  ·rename_i hk;cases h;exact⟨hy,hk⟩
  ·cases h
theorem dirOf_inr {e:Int}(h:dirOf st i=.inr e):e=2∨e=20:=by
 unfold dirOf at h;split at h
 ·cases h;exact .inl rfl
 ·split at h
  ·cases h
  ·cases h;exact .inr rfl
theorem chgOf_inl (h:chgOf st i=.inl x):nodI st i=some x/\x.kind=2/\x.links≠0:=by
 unfold chgOf at h;split at h
 ·rename_i y hy;split at h
  ·cases h
  ·rename_i hl;cases h;exact⟨(dirOf_inl hy).1,(dirOf_inl hy).2,hl⟩
 ·cases h
theorem chgOf_inr {e:Int}(h:chgOf st i=.inr e):e=2∨e=20:=by
 unfold chgOf at h;split at h
 ·split at h
  ·cases h;exact .inl rfl
  ·cases h
 ·rename_i e' he;cases h;exact dirOf_inr he
theorem chg_s {fd:FuncId}(hd:BDirOk O fd)(h:BrOk own H b st):BbChangedS cal O N fd (.ptr b 0) (.int .i64 i) H=some (dirV (chgOf st i),H):=by
 unfold BbChangedS chgOf;rw[hd own H b st i h,ob_some]
 cases hx:dirOf st i with
 | inr e =>
  simp only[dirV,iextract_tuple,List.getElem?_cons_zero,List.getElem?_cons_succ,ob_some,lbin_eql];have he:e≠0:=by rcases dirOf_inr hx with h | h<;>omega
  rw[decide_eq_false he];simp only[isB_ft,gq_false,ob_some,lpick_false,cnd_false]
 | inl x =>
  have e1:lload1 H (.ptr x.p 1)=some (.int .i64 x.links):=ld1 (nod_row h (dirOf_inl hx).1);simp only[dirV,iextract_tuple,List.getElem?_cons_zero,List.getElem?_cons_succ,ob_some,lbin_eql];rw[decide_eq_true trivial];simp only[isB_tt,gq_true,ob_some,lchk_ptr,loff_ptr,Nat.zero_add,e1,lbin_eql,lpick_true];by_cases hl:x.links=0
  ·rw[decide_eq_true hl,if_pos hl,cnd_true]
  ·rw[decide_eq_false hl,if_neg hl,cnd_false]
def SettOk (O:Oracle)(f:FuncId):Prop:=∀(H:Heap) (s:Nam),O f [.str s] H=some (.int .i64 (setErr s),H)
theorem sett_s {fp:FuncId}(hp:PNameOk O fp)(H:Heap)(s:Nam):branchSettableS cal O N fp (.str s) H=some (.int .i64 (setErr s),H):=by
 unfold branchSettableS setErr;rw[hp,ob_some];simp only;rw[lbin_neq,ob_some];by_cases h0:nameErr s=0
 ·rw[decide_eq_true h0,Bool.not_true,cnd_false,if_neg (fun h=>h h0),lbin_seq,ob_some];by_cases h1:s=[46]
  ·rw[decide_eq_true h1];simp only[isB_tf,gq_false,ob_some,lpick_true,cnd_true];rw[if_pos (.inl h1)]
  ·rw[decide_eq_false h1];simp only[isB_ff,gq_true,ob_some,lbin_seq,lpick_false];by_cases h2:s=[46,46]
   ·rw[decide_eq_true h2,cnd_true,if_pos (.inr h2)]
   ·rw[decide_eq_false h2,cnd_false,if_neg (fun h=>h.elim h1 h2)]
 ·rw[decide_eq_false h0,Bool.not_false,cnd_true,if_pos h0]
def entOf (x:Nod)(s:Nam):Option Int:=match x.dir with
 | some l=>lookD s l
 | none=>none
def getOf (st:Brs)(i:Int)(s:Nam):Int×Int:=match dirOf st i with
 | .inr e=>(0,e)
 | .inl x=>match entOf x s with
  | some v=>(v,0)
  | none=>(0,2)
theorem dir_of (h:BrOk own H b st)(hK:KInv st)(hx:nodI st i=some x)(hk:x.kind=2):∃l n,i=(n:Nat)/\st.nod n=some x/\x.dir=some l/\DirOk (fun j=>own j=n/\j≠x.p) H x.q l/\H[x.p]? =some (.row x.c false)/\lload1 H (.ptr x.p 6)=some (.ptr x.q 0):=by
 obtain⟨n,rfl,hn⟩:=nodI_at hx;have hd:=(hK.dir n x hn).1 hk;obtain⟨l,hl⟩:=Option.isSome_iff_exists.1 hd;obtain⟨_,_,h3⟩:=h.nod n x hn;refine⟨l,n,rfl,hn,hl,h3.dir l hl,h3.row,?_⟩;rw[ld1 h3.row];unfold Nod.c;rw[hl];rfl
def BGetOk (O:Oracle)(f:FuncId):Prop:=∀(own:Nat->Nat) (H:Heap) (b:Nat) (st:Brs) (i:Int) (s:Nam),BrOk own H b st->KInv st->LenInv 1000000 st->Wp (O f [.ptr b 0,.int .i64 i,.str s] H) fun r=>r.1=.tuple [.int .i64 (getOf st i s).1,.int .i64 (getOf st i s).2]/\Frame NoF H r.2
theorem bget_s {fd:FuncId}(hd:BDirOk O fd)(hg:DGetOk O fg)(h:BrOk own H b st)(hK:KInv st)(hL:LenInv 1000000 st):Wp (BbGetS cal O N fd fg (.ptr b 0) (.int .i64 i) (.str s) H) fun r=>r.1=.tuple [.int .i64 (getOf st i s).1,.int .i64 (getOf st i s).2]/\Frame NoF H r.2:=by
 unfold BbGetS getOf;rw[hd own H b st i h,ob_some]
 cases hx:dirOf st i with
 | inr e =>
  simp only[dirV,iextract_tuple,List.getElem?_cons_zero,List.getElem?_cons_succ,ob_some,lbin_neq];have he:e≠0:=by rcases dirOf_inr hx with h | h<;>omega
  rw[decide_eq_false he,Bool.not_false,cnd_true];exact Wp.ret ⟨rfl,Frame.refl _ _⟩
 | inl x =>
  obtain⟨hx1,hx2⟩:=dirOf_inl hx;obtain⟨l,n,rfl,hn,hl,hD,_,e6⟩:=dir_of h hK hx1 hx2;simp only[dirV,iextract_tuple,List.getElem?_cons_zero,List.getElem?_cons_succ,ob_some,lbin_neq];rw[decide_eq_true trivial,Bool.not_true,cnd_false];simp only[lchk_ptr,loff_ptr,ob_some,Nat.zero_add,e6];refine Wp.call (hg _ H x.q l s hD (hL n x l hn hl)) ?_;rintro⟨v,H1⟩ ⟨g1,g2⟩;simp only at g1 g2 ⊢;subst g1;unfold entOf;rw[hl];simp only
  cases lookD s l with
  | none=>exact Wp.ret ⟨rfl,g2⟩
  | some w=>exact Wp.ret ⟨rfl,g2⟩
def vacOf (st:Brs)(i:Int)(s:Nam):Nod ⊕ Int:=match chgOf st i with
 | .inr e=>.inr e
 | .inl x=>if setErr s≠0 then .inr (setErr s)else match entOf x s with
  | some _=>.inr 17
  | none=>.inl x
def VacOk (O:Oracle)(f:FuncId):Prop:=∀(own:Nat->Nat) (H:Heap) (b:Nat) (st:Brs) (i:Int) (s:Nam),BrOk own H b st->KInv st->LenInv 1000000 st->Wp (O f [.ptr b 0,.int .i64 i,.str s] H) fun r=>r.1=dirV (vacOf st i s)/\Frame NoF H r.2
theorem vac_s {fc fs:FuncId}(hc:ChgOk O fc)(hs:SettOk O fs)(hg:DGetOk O fg)(h:BrOk own H b st)(hK:KInv st)(hL:LenInv 1000000 st):Wp (BbVacantS cal O N fc fs fg (.ptr b 0) (.int .i64 i) (.str s) H) fun r=>r.1=dirV (vacOf st i s)/\Frame NoF H r.2:=by
 unfold BbVacantS vacOf;rw[hc own H b st i h,ob_some]
 cases hx:chgOf st i with
 | inr e =>
  simp only[dirV,iextract_tuple,List.getElem?_cons_zero,List.getElem?_cons_succ,ob_some,lbin_neq];have he:e≠0:=by rcases chgOf_inr hx with h | h<;>omega
  rw[decide_eq_false he,Bool.not_false,cnd_true];exact Wp.ret ⟨rfl,Frame.refl _ _⟩
 | inl x =>
  obtain⟨hx1,hx2,_⟩:=chgOf_inl hx;obtain⟨l,n,rfl,hn,hl,hD,_,e6⟩:=dir_of h hK hx1 hx2;simp only[dirV,iextract_tuple,List.getElem?_cons_zero,List.getElem?_cons_succ,ob_some,lbin_neq];rw[decide_eq_true trivial,Bool.not_true,cnd_false,hs,ob_some];simp only;rw[lbin_neq,ob_some];by_cases h0:setErr s=0
  ·rw[decide_eq_true h0,Bool.not_true,cnd_false,if_neg (fun h=>h h0)];simp only[lchk_ptr,loff_ptr,ob_some,Nat.zero_add,e6];refine Wp.call (hg _ H x.q l s hD (hL n x l hn hl)) ?_;rintro⟨v,H1⟩ ⟨g1,g2⟩;simp only at g1 g2 ⊢;subst g1;unfold entOf;rw[hl];simp only
   cases lookD s l with
   | none=>exact Wp.ret ⟨rfl,g2⟩
   | some w=>exact Wp.ret ⟨rfl,g2⟩
  ·rw[decide_eq_false h0,Bool.not_false,cnd_true,if_pos h0];exact Wp.ret ⟨rfl,Frame.refl _ _⟩
def namOf (st:Brs)(i:Int)(s:Nam):(Nod×Int) ⊕ (IV×Int×Int):=match chgOf st i with
 | .inr e=>.inr (.nilPtr,0,e)
 | .inl x=>match entOf x s with
  | some v=>.inl (x,v)
  | none=>.inr (.ptr x.p 0,0,2)
def namV :(Nod×Int) ⊕ (IV×Int×Int)->IV
 | .inl (x,v)=>.tuple [.ptr x.p 0,.int .i64 v,.int .i64 0]
 | .inr (p,a,e)=>.tuple [p,.int .i64 a,.int .i64 e]
def NamedOk (O:Oracle)(f:FuncId):Prop:=∀(own:Nat->Nat) (H:Heap) (b:Nat) (st:Brs) (i:Int) (s:Nam),BrOk own H b st->KInv st->LenInv 1000000 st->Wp (O f [.ptr b 0,.int .i64 i,.str s] H) fun r=>r.1=namV (namOf st i s)/\Frame NoF H r.2
theorem named_s {fc:FuncId}(hc:ChgOk O fc)(hg:DGetOk O fg)(h:BrOk own H b st)(hK:KInv st)(hL:LenInv 1000000 st):Wp (BbNamedS cal O N fc fg (.ptr b 0) (.int .i64 i) (.str s) H) fun r=>r.1=namV (namOf st i s)/\Frame NoF H r.2:=by
 unfold BbNamedS namOf;rw[hc own H b st i h,ob_some]
 cases hx:chgOf st i with
 | inr e =>
  simp only[dirV,iextract_tuple,List.getElem?_cons_zero,List.getElem?_cons_succ,ob_some,lbin_neq];have he:e≠0:=by rcases chgOf_inr hx with h | h<;>omega
  rw[decide_eq_false he,Bool.not_false,cnd_true];exact Wp.ret ⟨rfl,Frame.refl _ _⟩
 | inl x =>
  obtain⟨hx1,hx2,_⟩:=chgOf_inl hx;obtain⟨l,n,rfl,hn,hl,hD,_,e6⟩:=dir_of h hK hx1 hx2;simp only[dirV,iextract_tuple,List.getElem?_cons_zero,List.getElem?_cons_succ,ob_some,lbin_neq];rw[decide_eq_true trivial,Bool.not_true,cnd_false];simp only[lchk_ptr,loff_ptr,ob_some,Nat.zero_add,e6];refine Wp.call (hg _ H x.q l s hD (hL n x l hn hl)) ?_;rintro⟨v,H1⟩ ⟨g1,g2⟩;simp only at g1 g2 ⊢;subst g1;unfold entOf;rw[hl];simp only
  cases lookD s l with
  | none=>exact Wp.ret ⟨rfl,g2⟩
  | some w=>exact Wp.ret ⟨rfl,g2⟩
end
end Go.Shade
namespace Go.Shade
variable {H : Heap} {b : Nat} {i : Int} {own : Nat -> Nat} {s : Nam} {st : Brs}
section
variable {own : Nat -> Nat} {H H' : Heap} {b i : Nat} {st : Brs} {x x' : Nod} {P' : Nat -> Prop}
theorem BrOk.rowUpd (h:BrOk own H b st)(hx:st.nod i=some x)(hp:x'.p=x.p)(hq:x'.q=x.q)(hb:x'.body=x.body)(hd:x'.dir=x.dir):BrOk own (H.set x.p (.row x'.c false)) b (st.put i (some x')):=by
 obtain⟨i1,i2,i3⟩:=h.nod i x hx;have hF:Frame (fun j=>j=x.p) H (H.set x.p (.row x'.c false)):=Frame.set _ _ rfl;have hox:=i3.own;refine⟨h.ob,h.os,?_,h.sto.frame hF (fun e=>by have:=h.os;rw[e]at this;omega),h.que.frame hF (fun j hj e=>by subst e;omega),fun k y hy=> ?_,fun j hj=>by rw[List.length_set];exact h.lt j hj⟩
 ·rw[st.cells_put_same hx hp];exact hF.get (fun e=>by have:=h.ob;rw[e]at this;omega) h.row
 ·by_cases e:k=i
  ·subst e;rw[Brs.put_same]at hy
   cases hy
   refine⟨i1,i2,by rw[hp];exact hox,fun j hj=>by rw[List.length_set];exact i3.lt j hj,by rw[hp];exact setAt i3.row,(fun hbt=> ?_),(fun l hl=> ?_),fun hbt=>by rw[hd];exact i3.one (by rw[←hb];exact hbt)⟩
   ·rw[hq,hp];exact(i3.bod (by rw[←hb];exact hbt)).frame hF fun j hj e=>hj.2 e
   ·rw[hq,hp];exact(i3.dir l (by rw[←hd];exact hl)).frame hF fun j hj e=>hj.2 e
  ·rw[Brs.put_ne _ _ e]at hy;obtain⟨a,b',c⟩:=h.nod k y hy;exact⟨a,b',c.frame hF fun j hj e'=>by subst e';omega⟩
theorem BrOk.free_same (h:BrOk own H b st){l:List It}{k:Int}(hF:Frame (fun j=>own j=202) H H')(hq:QOk (fun j=>own j=202) H' st.q l k):BrOk own H' b { st with free:=l,k:=k }:=by
 refine⟨h.ob,h.os,hF.get (by rw[h.ob];decide) h.row,h.sto.frame hF (by rw[h.os];decide),hq,fun k y hy=> ?_,fun j hj=>Nat.lt_of_lt_of_le (h.lt j hj) hF.1⟩;obtain⟨a,b',c⟩:=h.nod k y hy;exact⟨a,b',c.frame hF fun j hj e=>by omega⟩
theorem BrOk.dirUpd (h:BrOk own H b st)(hx:st.nod i=some x){l l':Dr}(hl:x.dir=some l)(hb:x.body=false)(hF:Frame (fun j=>own j=i/\j≠x.p) H H')(hD:DirOk P' H' x.q l')(hP:∀j,P' j->(own j=i/\j≠x.p)∨H.length<=j):BrOk (ownSet own i (fun j=>P' j∨j=x.p)) H' b (st.put i (some { x with dir:=some l' })):=by
 obtain⟨i1,i2,i3⟩:=h.nod i x hx;have hpl:=i3.lt _ i3.own;have hxc:({ x with dir:=some l' }:Nod).c=x.c:=by unfold Nod.c;simp only[hl];rfl
 refine h.upd hx (hF.mono fun j hj=>.inl hj.1) (h.sto.frame hF fun e=>by have:=h.os;omega) (fun j hj=> ?_) ⟨.inr rfl,fun j hj=> ?_,?_,(fun hbt=> ?_),(fun l2 hl2=> ?_),(fun hbt=>by rw[show({ x with dir:=some l' }:Nod).body=x.body from rfl,hb]at hbt;cases hbt)⟩ rfl
 ·rcases hj with hj | hj
  ·exact(hP j hj).imp (fun h=>h.1) fun h=>h
  ·subst hj;exact .inl i3.own
 ·rcases hj with hj | hj
  ·exact hD.lt j hj
  ·subst hj;exact Nat.lt_of_lt_of_le hpl hF.1
 ·rw[hxc];exact hF.get (fun e=>e.2 rfl) i3.row
 ·rw[show({ x with dir:=some l' }:Nod).body=x.body from rfl,hb]at hbt;cases hbt
 ·cases hl2
  have:(fun j=>(P' j∨j=x.p)/\j≠x.p)=P':=funext fun j=>propext ⟨fun hj=>hj.1.elim (fun h=>h) fun e=>absurd e hj.2,fun hj=>⟨.inl hj,fun e=>by subst e;rcases hP _ hj with h | h;exact h.2 rfl;omega⟩⟩;rw[show(fun j=>(P' j∨j=({ x with dir:=some l' }:Nod).p)/\j≠({ x with dir:=some l' }:Nod).p)=P' from this];exact hD
theorem BrOk.ino_ptr (h:BrOk own H b st){n:Nat}(hn:n<=200):lload1 H (.ptr b (0+1+Int.toNat (n:Nat)*1))=some (st.cell n):=by
 rw[ld1 h.row,Int.toNat_natCast,show 0+1+n*1=n+1 by omega,brC_at (by rw[st.cells_length];omega),st.cells_get (by omega)]
theorem BrOk.s_ptr (h:BrOk own H b st):lload1 H (.ptr b 0)=some (.ptr st.s 0):=by rw[ld1 h.row,brC_s]
theorem BrOk.q_ptr (h:BrOk own H b st):lload1 H (.ptr b 202)=some (.ptr st.q 0):=by rw[ld1 h.row,brC_q st.cells_length]
theorem BrOk.ino_set (h:BrOk own H b st){n:Nat}(hn:n<=200){v:IV}(hv:v.one=true):lstV H 1 (.ptr b (0+1+Int.toNat (n:Nat)*1)) v=some (.tuple [],H.set b (.row (brC (.ptr st.s 0) (st.cells.set n v) (.ptr st.q 0)) false)):=by
 rw[Int.toNat_natCast,show 0+1+n*1=n+1 by omega,st1 h.row hv (by rw[brC_length,st.cells_length];omega),brC_set (by rw[st.cells_length];omega)]
end
theorem KInv.nobody (hK:KInv st){i:Nat}{x:Nod}(hx:st.nod i=some x)(hk:x.kind=2):x.body=false:=by
 cases hb:x.body with
 | false=>rfl
 | true=>have:=(hK.body i x hx).2 hb;omega
structure Aft (own:Nat->Nat)(H:Heap)(b:Nat)(r:Out)(own':Nat->Nat)(st':Brs):Prop where
 ok:BrOk own' r.2 b st'
 fr:Frame (fun j=>own j≠0) H r.2
 up:∀j,own' j≠0->own j≠0∨H.length<=j
theorem Aft.none {r:Out}(h:BrOk own H b st)(k:Frame NoF H r.2):Aft own H b r own st:=⟨h.kp k,k.no,fun j hj=>.inl hj⟩
section
variable {cal : FuncId -> Bool} {O : Oracle} {N : Nat}
def MarkP (own:Nat->Nat)(H:Heap)(b:Nat)(st:Brs)(i v:Int)(r:Out):Prop:=(∃e:Int,r.1=.int .i64 e)/\∃own' st',Aft own H b r own' st'/\((nodI st i=none/\st'=st)∨∃n x,st.nod n=some x/\i=(n:Nat)/\st'=st.put n (some { x with marks:=v }))
def BMarkOk (O:Oracle)(f:FuncId):Prop:=∀(own:Nat->Nat) (H:Heap) (b:Nat) (st:Brs) (i v:Int),BrOk own H b st->Wp (O f [.ptr b 0,.int .i64 i,.int .i64 v] H) (MarkP own H b st i v)
theorem bmark_s {fa:FuncId}(ha:AtOk O fa){v:Int}(h:BrOk own H b st):Wp (BbMarkS cal O N fa (.ptr b 0) (.int .i64 i) (.int .i64 v) H) (MarkP own H b st i v):=by
 unfold BbMarkS;rw[ha own H b st i h,ob_some]
 cases hx:nodI st i with
 | none =>
  simp only[eqv_nn,ob_some,cnd_true];exact Wp.ret ⟨⟨_,rfl⟩,own,st,Aft.none h (Frame.refl _ _),.inl ⟨hx,rfl⟩⟩
 | some x =>
  obtain⟨n,rfl,hn⟩:=nodI_at hx;have hrow:=nod_row h hx;simp only[eqv_nil,ob_some,cnd_false,lchk_ptr,loff_ptr,Nat.zero_add];rw[st1 hrow (by simp only[one_int]) (by rw[x.c_length];omega),ob_some];have hc:x.c.set 3 (.int .i64 v)=({ x with marks:=v }:Nod).c:=rfl;rw[hc];have hox:=(h.nod n x hn).2.2.own;have hn1:=(h.nod n x hn).1;refine Wp.ret ⟨⟨_,rfl⟩,own,_,⟨h.rowUpd (x':= { x with marks:=v }) hn rfl rfl rfl rfl,(Frame.set _ _ (show own x.p≠0 by have:own x.p=n:=hox;omega)),fun j hj=>.inl hj⟩,.inr ⟨n,x,hn,rfl,rfl⟩⟩
structure MkNode (kd pr:Int)(tg:Nam)(x:Nod):Prop where
 kind:x.kind=kd
 links:x.links=1
 holds:x.holds=0
 marks:x.marks=0
 parent:x.parent=if kd=2 then pr else 0
 body:x.body=decide (kd=1)
 dir:x.dir=if kd=2 then some []else none
 target:x.target=tg
def MakeP (own:Nat->Nat)(H:Heap)(b:Nat)(st:Brs)(i:Int)(s:Nam)(kind:Int)(target:Nam)(r:Out):Prop:=∃own' st',Aft own H b r own' st' /\
 ((∃e,e≠0/\r.1=.tuple [.int .i64 0,.int .i64 e]/\st'=st)∨
  ∃(m n:Nat) (d x:Nod) (l:Dr) (it:It),i=(m:Nat)/\st.nod m=some d/\d.kind=2/\d.dir=some l/\setErr s=0/\lookD s l=none/\popL st.free=(popL st.free).dropLast++[it]/\it.n=(n:Nat)/\1<=kind/\kind<=4/\r.1=.tuple [.int .i64 (n:Nat),.int .i64 0]/\MkNode kind i target x /\
   st'=(({ st with free:=(popL st.free).dropLast }:Brs).put n (some x)).put m (some { d with dir:=some (setD s (n:Nat) l) }))
def FreeInv (st:Brs):Prop:=(∀it∈st.free,∃n:Nat,it.n=(n:Nat)/\2<=n/\n<=200/\st.nod n=none)/\(st.free.map (·.n)).Nodup/\st.free.length<=1000000
def BMakeOk (O:Oracle)(f:FuncId):Prop:=∀(own:Nat->Nat) (H:Heap) (b:Nat) (st:Brs) (i:Int) (s:Nam) (kind:Int) (target:Nam),BrOk own H b st->KInv st->LenInv 999999 st->FreeInv st->Wp (O f [.ptr b 0,.int .i64 i,.str s,.int .i64 kind,.str target] H) (MakeP own H b st i s kind target)
theorem vacOf_inl {d:Nod}(h:vacOf st i s=.inl d):nodI st i=some d/\d.kind=2/\d.links≠0/\setErr s=0/\entOf d s=none:=by
 unfold vacOf at h;split at h
 ·cases h
 ·rename_i x hx;split at h
  ·cases h
  ·rename_i h0;split at h
   ·cases h
   ·rename_i he
    cases h
    obtain⟨a,b,c⟩:=chgOf_inl hx;exact⟨a,b,c,by omega,he⟩
theorem vacOf_inr {e:Int}(h:vacOf st i s=.inr e):e≠0:=by
 unfold vacOf at h;split at h
 ·rename_i e' he;cases h;rcases chgOf_inr he with h | h<;>omega
 ·split at h
  ·rename_i h0;cases h;exact h0
  ·split at h
   ·cases h;decide
   ·cases h
theorem bmake_s {fv fp fb fd fs:FuncId}(hv:VacOk O fv)(hp:QPopOk O fp)(hb:SBodyOk O fb)(hd:DNewOk O fd)(hs:DSetOk O fs){kind:Int}{target:Nam}(h:BrOk own H b st)(hK:KInv st)(hL:LenInv 999999 st)(hf:FreeInv st) :
  Wp (BbMakeS cal O N fv fp fb fd fs (.ptr b 0) (.int .i64 i) (.str s) (.int .i64 kind) (.str target) H) (MakeP own H b st i s kind target):=by
 have hL6:LenInv 1000000 st:=fun i x l a b=>Nat.le_trans (hL i x l a b) (by omega);unfold BbMakeS;refine Wp.call (hv own H b st i s h hK hL6) ?_;rintro⟨v,H1⟩ ⟨g1,g2⟩;simp only at g1 g2 ⊢;subst g1;have h1:=h.kp g2
 cases hx:vacOf st i s with
 | inr e =>
  have he:=vacOf_inr hx;simp only[dirV,iextract_tuple,List.getElem?_cons_zero,List.getElem?_cons_succ,ob_some,lbin_neq];rw[decide_eq_false he,Bool.not_false,cnd_true];exact Wp.ret ⟨own,st,Aft.none h g2,.inl ⟨e,he,rfl,rfl⟩⟩
 | inl d =>
  obtain⟨hd1,hd2,hd3,hd4,hd5⟩:=vacOf_inl hx;obtain⟨l,m,rfl,hm,hl,hD,hdrow,hd6⟩:=dir_of h1 hK hd1 hd2;have hlk:lookD s l=none:=by unfold entOf at hd5;rw[hl]at hd5;exact hd5
  simp only[dirV,iextract_tuple,List.getElem?_cons_zero,List.getElem?_cons_succ,ob_some,lbin_neq];rw[decide_eq_true trivial,Bool.not_true,cnd_false];have bad:∀e:Int,e≠0->Wp (some ((IV.tuple [(.int .i64 0),(.int .i64 e)]),H1)) (MakeP own H b st (m:Nat) s kind target):=fun e he=>Wp.ret ⟨own,st,Aft.none h g2,.inl ⟨e,he,rfl,rfl⟩⟩;have fin:1<=kind->kind<=4->Wp (ob (lchk (.ptr b 0)) fun t19 =>
  ob (loff t19 202) fun t20 =>
  ob (lload1 H1 t20) fun t21 =>
  ob (O fp [t21] H1) fun r22 =>
  ob (iextract r22.1 0) fun t23 =>
  ob (iextract r22.1 1) fun t24 =>
  ob (iextract r22.1 2) fun t25 =>
  ob (iun .not t25) fun t26 =>
  cnd t26
  (some ((.tuple [(.int .i64 0),(.int .i64 28)]),r22.2))
  (ob (lbld [(.int .i64 0),(.int .i64 0),(.int .i64 0),(.int .i64 0),(.int .i64 0),.nilPtr,.nilPtr,(.str [])] [(0,1,(.int .i64 kind)),(1,1,(.int .i64 1)),(7,1,(.str target))]) fun t27 =>
  ob (lbox r22.2 t27) fun r28 =>
  jn (fun(H50:Heap) =>
  ob (lchk (.ptr b 0)) fun t51 =>
  ob (loff t51 1) fun t52 =>
  ob (lixa 201 1 t52 t24) fun t53 =>
  ob (lstV H50 1 t53 r28.1) fun r54 =>
  ob (lchk (.ptr d.p 0)) fun t55 =>
  ob (loff t55 6) fun t56 =>
  ob (lload1 r54.2 t56) fun t57 =>
  ob (O fs [t57,(.str s),t24] r54.2) fun r58 =>
  some ((.tuple [t24,(.int .i64 0)]),r58.2)) fun J29 =>
  ob (lbin .eql (.int .i64 kind) (.int .i64 1)) fun t59 =>
  cnd t59
  (ob (lchk (.ptr b 0)) fun t60 =>
  ob (loff t60 0) fun t61 =>
  ob (lload1 r28.2 t61) fun t62 =>
  ob (O fb [t62] r28.2) fun r63 =>
  ob (lchk r28.1) fun t64 =>
  ob (loff t64 5) fun t65 =>
  ob (lstV r63.2 1 t65 r63.1) fun r66 =>
  J29 r66.2)
  (ob (lbin .eql (.int .i64 kind) (.int .i64 2)) fun t67 =>
  cnd t67
  (ob (O fd [] r28.2) fun r68 =>
  ob (lchk r28.1) fun t69 =>
  ob (loff t69 6) fun t70 =>
  ob (lstV r68.2 1 t70 r68.1) fun r71 =>
  ob (lchk r28.1) fun t72 =>
  ob (loff t72 4) fun t73 =>
  ob (lstV r71.2 1 t73 (.int .i64 (m:Nat))) fun r74 =>
  J29 r74.2)
  (J29 r28.2)))) (MakeP own H b st (m:Nat) s kind target):=by
   intro hk1 hk4;simp only[lchk_ptr,loff_ptr,ob_some,Nat.zero_add,h1.q_ptr];refine Wp.call (hp _ H1 st.q st.free st.k h1.que hf.2.2) ?_;rintro⟨v,H2⟩ ⟨g3,hpop⟩;simp only at g3 hpop ⊢;rcases hpop with⟨e0,rfl,hq⟩ | ⟨it,e0,rfl,hq,_⟩
   ·simp only[iextract_tuple,List.getElem?_cons_zero,List.getElem?_cons_succ,ob_some,iun_not,Bool.not_false,cnd_true];have hst:({ st with free:=st.free,k:=st.k }:Brs)=st:=rfl;have h2:=h1.free_same g3 hq;refine Wp.ret ⟨own,st,⟨h2,(g2.no.tr (g3.mono fun j hj=>by omega)),fun j hj=>.inl hj⟩,.inl ⟨28,by decide,rfl,rfl⟩⟩
   ·simp only[iextract_tuple,List.getElem?_cons_zero,List.getElem?_cons_succ,ob_some,iun_not,Bool.not_true,cnd_false];have h2:=h1.free_same g3 hq;have hitm:it∈st.free:=by
     have:it∈popL st.free:=by rw[e0];simp
     exact(popL_perm st.free).mem_iff.1 this
    obtain⟨n,hn,hn2,hn200,hnn⟩:=hf.1 it hitm;have hg12:Frame (fun j=>own j≠0) H H2:=g2.no.tr (g3.mono fun j hj=>by omega);generalize hst2:({ st with free:=(popL st.free).dropLast,k:=st.k }:Brs)=st2 at h2;have hnn2:st2.nod n=none:=by rw[←hst2];exact hnn
    have hm2:st2.nod m=some d:=by rw[←hst2];exact hm
    have last:∀(K:Heap) (x:Nod) (P':Nat->Prop),Frame NoF H2 K->(∀j,P' j->H2.length<=j)->NodOk P' K x->MkNode kind (m:Nat) target x->x.p=H2.length->Wp (
     ob (lixa 201 1 (.ptr b 1) (.int .i64 it.n)) fun t53 =>
     ob (lstV K 1 t53 (.ptr H2.length 0)) fun r54 =>
     ob (lload1 r54.2 (.ptr d.p 6)) fun t57 =>
     ob (O fs [t57,(.str s),(.int .i64 it.n)] r54.2) fun r58 =>
     some ((.tuple [(.int .i64 it.n),(.int .i64 0)]),r58.2)) (MakeP own H b st (m:Nat) s kind target):=by
     intro K x P' k1 k2 k3 k4 k5;have hK2:=h2.kp k1;have hset:=hK2.ino_set (n:=n) hn200 (v:=.ptr H2.length 0) (by simp only[one_ptr]);rw[hn,lixa_ptr,if_pos (by omega),ob_some,show(1:Nat)+Int.toNat (n:Nat)*1=0+1+Int.toNat (n:Nat)*1 by omega,hset,ob_some];simp only;have hP0:∀j,P' j->own j=0:=fun j hj=>h2.new0 (k2 j hj);have h3:=hK2.newNod (x':=x) hnn2 ⟨by omega,hn200⟩ hP0 k3;rw[k5]at h3;have kb:Frame (fun j=>j=b) K (K.set b (.row (brC (.ptr st2.s 0) (st2.cells.set n (.ptr H2.length 0)) (.ptr st2.q 0)) false)):=Frame.set _ _ rfl;have hup3:∀j,ownSet own n P' j≠0->own j≠0∨H.length<=j:=fun j hj=>by
      rcases ownSet_ok (fun j hj=>.inr (k2 j hj)) j hj (by omega)with h | h
      ·exact .inl h
      ·exact .inr (by have:=hg12.1;omega)
     have hfr3:Frame (fun j=>own j≠0) H (K.set b (.row (brC (.ptr st2.s 0) (st2.cells.set n (.ptr H2.length 0)) (.ptr st2.q 0)) false)):=(hg12.tr k1.no).tr (kb.mono fun j hj=>by subst hj;rw[h.ob];decide);generalize K.set b (.row (brC (.ptr st2.s 0) (st2.cells.set n (.ptr H2.length 0)) (.ptr st2.q 0)) false)=K3 at *;have hmn:m≠n:=fun e=>by subst e;rw[hnn]at hm;cases hm
     have hm3:(st2.put n (some x)).nod m=some d:=by rw[Brs.put_ne _ _ hmn];exact hm2
     obtain⟨_,_,hN⟩:=h3.nod m d hm3;have e6:lload1 K3 (.ptr d.p 6)=some (.ptr d.q 0):=by rw[ld1 hN.row];unfold Nod.c;rw[hl];rfl
     rw[e6,ob_some];refine Wp.call (hs _ K3 d.q l s (n:Nat) (hN.dir l hl) (by have:=hL m d l hm hl;omega) hd4 (by omega)) ?_;rintro⟨w,K4⟩ ⟨_,w2,P2,w3,w4⟩;simp only at w2 w3 ⊢;have h4:=h3.dirUpd hm3 hl (hK.nobody hm hd2) w2 w3 w4;refine Wp.ret ⟨_,_,⟨h4,?_,fun j hj=> ?_⟩,.inr ⟨m,n,d,x,l,it,rfl,hm,hd2,hl,hd4,hlk,e0,hn,hk1,hk4,rfl,k4,?_⟩⟩
     ·refine hfr3.trans w2 fun j hj hw=> ?_;have:=hw.1;rcases hup3 j (by have:=(h3.nod m d hm3).1;omega)with h | h
      ·exact h
      ·omega
     ·rcases ownSet_ok (t:=m) (n:=K3.length) (fun j hj=>by
       rcases hj with hj | hj
       ·exact(w4 j hj).imp (fun h=>h.1) fun h=>h
       ·subst hj;exact .inl hN.own) j hj (by have:=(h3.nod m d hm3).1;omega)with h | h
      ·exact hup3 j h
      ·exact .inr (by have:=hfr3.1;omega)
     ·rw[←hst2]
    refine Wp.of (a:=.agg [.int .i64 kind,.int .i64 1,.int .i64 0,.int .i64 0,.int .i64 0,.nilPtr,.nilPtr,.str target]) rfl ?_;rw[lbox_agg rfl,ob_some,jn_eq];simp only[lchk_ptr,loff_ptr,ob_some,Nat.zero_add];have k1:Frame NoF H2 (H2++[IObj.row [.int .i64 kind,.int .i64 1,.int .i64 0,.int .i64 0,.int .i64 0,.nilPtr,.nilPtr,.str target] false]):=Frame.push _ _ _;have r1:(H2++[IObj.row [.int .i64 kind,.int .i64 1,.int .i64 0,.int .i64 0,.int .i64 0,.nilPtr,.nilPtr,.str target] false])[H2.length]? =some (.row [.int .i64 kind,.int .i64 1,.int .i64 0,.int .i64 0,.int .i64 0,.nilPtr,.nilPtr,.str target] false):=newRow;have l1:(H2++[IObj.row [.int .i64 kind,.int .i64 1,.int .i64 0,.int .i64 0,.int .i64 0,.nilPtr,.nilPtr,.str target] false]).length=H2.length+1:=by simp
    generalize H2++[IObj.row [.int .i64 kind,.int .i64 1,.int .i64 0,.int .i64 0,.int .i64 0,.nilPtr,.nilPtr,.str target] false]=K at *;rw[lbin_eql,ob_some];refine Wp.dec (fun hk=> ?_) (fun hk=> ?_)
    ·
     rw[(h2.kp k1).s_ptr,ob_some];refine Wp.call (hb K (.ptr st2.s 0)) ?_;rintro⟨v,K2⟩ ⟨q,rfl,q1,q2,q3⟩;simp only at q2 q3 ⊢;have r2:=q2.get (fun h=>h) r1;rw[st1 r2 (by simp only[one_ptr]) (by simp),ob_some];have kp:Frame (fun j=>j=H2.length) K2 (K2.set H2.length (.row ([.int .i64 kind,.int .i64 1,.int .i64 0,.int .i64 0,.int .i64 0,.nilPtr,.nilPtr,.str target].set 5 (.ptr q 0)) false)):=Frame.set _ _ rfl;refine last _ { p:=H2.length,q:=q,kind:=kind,links:=1,holds:=0,marks:=0,parent:=0,body:=true,dir:=none,target:=target } (fun j=>H2.length<=j/\j<K2.length) ((k1.tr q2).setNew _ (Nat.le_refl _)) (fun j hj=>hj.1) ⟨⟨Nat.le_refl _,by have:=q2.1;simp only;omega⟩,fun j hj=>by rw[List.length_set];exact hj.2,by simp only;rw[setAt r2];rfl,(fun _=> ?_),(fun l hl=>by cases hl),(fun _=>rfl)⟩ ⟨rfl,rfl,rfl,rfl,by rw[if_neg (by omega)],by simp[hk],by rw[if_neg (by omega)],rfl⟩ rfl;refine(q3.frame kp fun j hj e=>by omega).iff fun j=>⟨fun hj=>⟨⟨by omega,hj.2⟩,by simp only;omega⟩,fun hj=>⟨by have:=hj.1.1;have:=hj.2;simp only at this;omega,hj.1.2⟩⟩
    ·rw[lbin_eql,ob_some];refine Wp.dec (fun hk2=> ?_) (fun hk2=> ?_)
     ·
      rw[hd K,ob_some];simp only;have k2:Frame NoF K (K++[IObj.row [.nilSlice] false]):=Frame.push _ _ _;have r2:=k2.get (fun h=>h) r1;have rd:(K++[IObj.row [.nilSlice] false])[K.length]? =some (.row [.nilSlice] false):=newRow;have l2:(K++[IObj.row [.nilSlice] false]).length=K.length+1:=by simp
      generalize K++[IObj.row [.nilSlice] false]=K2 at *;rw[st1 r2 (by simp only[one_ptr]) (by simp),ob_some];simp only;have r3:=setAt (o':=IObj.row ([.int .i64 kind,.int .i64 1,.int .i64 0,.int .i64 0,.int .i64 0,.nilPtr,.nilPtr,.str target].set 6 (.ptr K.length 0)) false) r2;rw[st1 r3 (by simp only[one_int]) (by simp),ob_some,List.set_set];have kp:Frame (fun j=>j=H2.length) K2 (K2.set H2.length (.row (([.int .i64 kind,.int .i64 1,.int .i64 0,.int .i64 0,.int .i64 0,.nilPtr,.nilPtr,.str target].set 6 (.ptr K.length 0)).set 4 (.int .i64 (m:Nat))) false)):=Frame.set _ _ rfl;refine last _ { p:=H2.length,q:=K.length,kind:=kind,links:=1,holds:=0,marks:=0,parent:=(m:Nat),body:=false,dir:=some [],target:=target } (fun j=>H2.length<=j/\j<K2.length) ((k1.tr k2).setNew _ (Nat.le_refl _)) (fun j hj=>hj.1) ⟨⟨Nat.le_refl _,by simp only;omega⟩,fun j hj=>by rw[List.length_set];exact hj.2,by simp only;rw[setAt r2];rfl,(fun hb=>by cases hb),(fun l hl=> ?_),(fun hb=>by cases hb)⟩ ⟨rfl,rfl,rfl,rfl,by rw[if_pos hk2],by simp[hk],by rw[if_pos hk2],rfl⟩ rfl
      cases hl
      exact⟨⟨⟨(by simp only;omega),(by simp only;omega)⟩,(by simp only;omega)⟩,(fun j hj=>by rw[List.length_set];exact hj.1.2),⟨.nilSlice,kp.get (by simp only;omega) rd,.inl ⟨rfl,rfl⟩⟩,trivial⟩
     ·refine last K { p:=H2.length,q:=0,kind:=kind,links:=1,holds:=0,marks:=0,parent:=0,body:=false,dir:=none,target:=target } (fun j=>H2.length<=j/\j<K.length) k1 (fun j hj=>hj.1) ⟨⟨Nat.le_refl _,by simp only;omega⟩,fun j hj=>hj.2,r1,(fun hb=>by cases hb),(fun l hl=>by cases hl),(fun hb=>by cases hb)⟩ ⟨rfl,rfl,rfl,rfl,by rw[if_neg hk2],by simp[hk],by rw[if_neg hk2],rfl⟩ rfl
  rw[lbin_lss,ob_some];by_cases c1:kind<1
  ·rw[decide_eq_true c1];simp only[isB_tf,gq_false,ob_some,lpick_true,cnd_true];exact bad 22 (by decide)
  ·rw[decide_eq_false c1];simp only[isB_ff,gq_true,ob_some,lpick_false,lbin_gtr];by_cases c2:4<kind
   ·rw[decide_eq_true c2];simp only[isB_tf,gq_false,ob_some,lpick_true,cnd_true];exact bad 22 (by decide)
   ·rw[decide_eq_false c2];simp only[isB_ff,gq_true,ob_some,lpick_false,lbin_sneq,lbin_eql];have e1:∀a c:Bool,leqv true (leq .bool (.bool a) (.bool c))=some (.bool (!(a==c))):=fun a c=>rfl;rw[e1,ob_some]
    cases hab:((!decide (target=[]))==decide (kind=3))with
    | false =>
     rw[Bool.not_false];simp only[isB_tf,gq_false,ob_some,lpick_true,cnd_true];exact bad 22 (by decide)
    | true =>
     rw[Bool.not_true];simp only[isB_ff,gq_true,ob_some,lpick_false,llen_str,lbin_gtr];by_cases c3:(400:Int)<target.length
     ·rw[decide_eq_true c3,cnd_true];exact bad 22 (by decide)
     ·rw[decide_eq_false c3,cnd_false];exact fin (by omega) (by omega)
end
end Go.Shade
namespace Go.Shade
variable {H : Heap} {b : Nat} {own : Nat -> Nat} {st : Brs}
def EntInv (st:Brs):Prop:=∀i x l s v,st.nod i=some x->x.dir=some l->lookD s l=some v->∃n:Nat,v=(n:Nat)/\2<=n/\n<=200/\∃y,st.nod n=some y/\1<=y.links/\y.links<=1000/\(y.kind=2->y.parent=(i:Nat))
theorem Aft.trans {own own' own'':Nat->Nat}{H:Heap}{b:Nat}{r r':Out}{st' st'':Brs}(h:Aft own H b r own' st')(k:Aft own' r.2 b r' own'' st''):Aft own H b r' own'' st'' :=
 ⟨k.ok,h.fr.trans k.fr fun j hj hw=>by rcases h.up j hw with h | h;exact h;omega,fun j hj=>by
  rcases k.up j hj with h' | h'
  ·exact h.up j h'
  ·exact .inr (Nat.le_trans h.fr.1 h')⟩
theorem Aft.val {own':Nat->Nat}{r:Out}{st':Brs}(h:Aft own H b r own' st')(v:IV):Aft own H b (v,r.2) own' st':=⟨h.ok,h.fr,h.up⟩
theorem Aft.kp {own':Nat->Nat}{H1:Heap}{r:Out}{st':Brs}(h:Aft own H1 b r own' st')(k:Frame NoF H H1):Aft own H b r own' st' :=
 ⟨h.ok,k.no.tr h.fr,fun j hj=>(h.up j hj).imp (fun h=>h) fun h=>Nat.le_trans k.1 h⟩
section
variable {cal : FuncId -> Bool} {O : Oracle} {N : Nat}
theorem BrOk.row_aft {i:Nat}{x x':Nod}(h:BrOk own H b st)(hx:st.nod i=some x)(hp:x'.p=x.p)(hq:x'.q=x.q)(hb:x'.body=x.body)(hd:x'.dir=x.dir)(v:IV):Aft own H b (v,H.set x.p (.row x'.c false)) own (st.put i (some x')):=by
 refine⟨h.rowUpd hx hp hq hb hd,Frame.set _ _ (show own x.p≠0 from ?_),fun j hj=>.inl hj⟩;have:own x.p=i:=(h.nod i x hx).2.2.own;have:=(h.nod i x hx).1;omega
theorem dirset_aft {fs:FuncId}(hs:DSetOk O fs){own:Nat->Nat}{H:Heap}{b m:Nat}{st:Brs}{d:Nod}{l:Dr}{s:Nam}{v:Int}(h:BrOk own H b st)(hm:st.nod m=some d)(hl:d.dir=some l)(hb:d.body=false)(hlen:l.length<1000000)(hse:setErr s=0)(hv:1<=v) :
  Wp (O fs [.ptr d.q 0,.str s,.int .i64 v] H) fun r=>r.1=.int .i64 0/\∃own',Aft own H b r own' (st.put m (some { d with dir:=some (setD s v l) })):=by
 obtain⟨m1,m2,hN⟩:=h.nod m d hm;refine(hs _ H d.q l s v (hN.dir l hl) hlen hse hv).mono ?_;rintro⟨w,K4⟩ ⟨w1,w2,P2,w3,w4⟩;simp only at w1 w2 w3 ⊢;refine⟨w1,_,h.dirUpd hm hl hb w2 w3 w4,w2.mono fun j hj=>(by omega),fun j hj=> ?_⟩;exact ownSet_ok (t:=m) (n:=H.length) (fun j hj=>by
  rcases hj with hj | hj
  ·exact(w4 j hj).imp (fun h=>h.1) fun h=>h
  ·subst hj;exact .inl hN.own) j hj (by omega)
theorem dirdel_aft {fs:FuncId}(hs:DDelOk O fs){m:Nat}{d:Nod}{l:Dr}{s:Nam}{v:Int}(h:BrOk own H b st)(hm:st.nod m=some d)(hl:d.dir=some l)(hb:d.body=false)(hlen:l.length<=1000000)(hv:lookD s l=some v) :
  Wp (O fs [.ptr d.q 0,.str s] H) fun r=>r.1=.tuple [.int .i64 v,.int .i64 0]/\∃own',Aft own H b r own' (st.put m (some { d with dir:=some (delD s l) })):=by
 obtain⟨m1,m2,hN⟩:=h.nod m d hm;refine(hs _ H d.q l s v (hN.dir l hl) hlen hv).mono ?_;rintro⟨w,K4⟩ ⟨w1,w2,w3⟩;simp only at w1 w2 w3 ⊢;refine⟨w1,_,h.dirUpd hm hl hb w2 w3 (fun j hj=>.inl hj),w2.mono fun j hj=>(by omega),fun j hj=> ?_⟩;exact ownSet_ok (t:=m) (n:=H.length) (fun j hj=>by
  rcases hj with hj | hj
  ·exact .inl hj.1
  ·subst hj;exact .inl hN.own) j hj (by omega)
theorem dir_ptr {m:Nat}{d:Nod}{l:Dr}(h:BrOk own H b st)(hm:st.nod m=some d)(hl:d.dir=some l):lload1 H (.ptr d.p 6)=some (.ptr d.q 0):=by
 rw[ld1 (h.nod m d hm).2.2.row];unfold Nod.c;rw[hl];rfl
def LinkP (own:Nat->Nat)(H:Heap)(b:Nat)(st:Brs)(i:Int)(s:Nam)(t:Int)(r:Out):Prop:=∃own' st',Aft own H b r own' st'/\(∃e:Int,r.1=.int .i64 e) /\
 (st'=st∨∃(m n:Nat) (d x:Nod) (l:Dr),i=(m:Nat)/\t=(n:Nat)/\st.nod m=some d/\d.kind=2/\d.dir=some l/\setErr s=0/\lookD s l=none/\st.nod n=some x/\x.kind≠2/\x.links<20/\x.links≠0/\r.1=.int .i64 0 /\
  st'=(st.put n (some { x with links:=IntKind.wrap .i64 (x.links+1) })).put m (some { d with dir:=some (setD s (n:Nat) l) }))
def BLinkOk (O:Oracle)(f:FuncId):Prop:=∀(own:Nat->Nat) (H:Heap) (b:Nat) (st:Brs) (i:Int) (s:Nam) (t:Int),BrOk own H b st->KInv st->LenInv 999999 st->Wp (O f [.ptr b 0,.int .i64 i,.str s,.int .i64 t] H) (LinkP own H b st i s t)
theorem blink_s {fv fa fs:FuncId}(hv:VacOk O fv)(ha:AtOk O fa)(hs:DSetOk O fs){i:Int}{s:Nam}{t:Int}(h:BrOk own H b st)(hK:KInv st)(hL:LenInv 999999 st) :
  Wp (BbLinkS cal O N fv fa fs (.ptr b 0) (.int .i64 i) (.str s) (.int .i64 t) H) (LinkP own H b st i s t):=by
 have hL6:LenInv 1000000 st:=fun i x l a b=>Nat.le_trans (hL i x l a b) (by omega);unfold BbLinkS;refine Wp.call (hv own H b st i s h hK hL6) ?_;rintro⟨v,H1⟩ ⟨g1,g2⟩;simp only at g1 g2 ⊢;subst g1;have h1:=h.kp g2;have bad:∀e:Int,Wp (some ((IV.int .i64 e),H1)) (LinkP own H b st i s t):=fun e=>Wp.ret ⟨own,st,Aft.none h g2,⟨e,rfl⟩,.inl rfl⟩
 cases hx:vacOf st i s with
 | inr e =>
  have he:=vacOf_inr hx;simp only[dirV,iextract_tuple,List.getElem?_cons_zero,List.getElem?_cons_succ,ob_some,lbin_neq];rw[decide_eq_false he,Bool.not_false,cnd_true];exact bad e
 | inl d =>
  obtain⟨hd1,hd2,hd3,hd4,hd5⟩:=vacOf_inl hx;obtain⟨l,m,rfl,hm,hl,hD,hdrow,hd6⟩:=dir_of h1 hK hd1 hd2;have hlk:lookD s l=none:=by unfold entOf at hd5;rw[hl]at hd5;exact hd5
  simp only[dirV,iextract_tuple,List.getElem?_cons_zero,List.getElem?_cons_succ,ob_some,lbin_neq];rw[decide_eq_true trivial,Bool.not_true,cnd_false,ha own H1 b st t h1,ob_some]
  cases hy:nodI st t with
  | none =>
   simp only[eqv_nn,ob_some,isB_tf,gq_false,lpick_true,cnd_true];exact bad 2
  | some x =>
   obtain⟨n,rfl,hn⟩:=nodI_at hy;have hrow:=nod_row h1 hy;have e1:lload1 H1 (.ptr x.p 1)=some (.int .i64 x.links):=ld1 hrow;have e0:lload1 H1 (.ptr x.p 0)=some (.int .i64 x.kind):=ld1 hrow;simp only[eqv_nil,ob_some,isB_ff,gq_true,lchk_ptr,loff_ptr,Nat.zero_add,e1,e0,lbin_eql,lpick_false];refine Wp.dec (fun _=>bad 2) (fun hl0=> ?_);refine Wp.dec (fun _=>bad 1) (fun hk2=> ?_);rw[lbin_geq,ob_some];refine Wp.dec (fun _=>bad 31) (fun hl20=> ?_);rw[lbin_add,ob_some,st1 hrow (by simp only[one_int]) (by rw[x.c_length];omega),ob_some];have hc:x.c.set 1 (.int .i64 (IntKind.wrap .i64 (x.links+1)))=({ x with links:=IntKind.wrap .i64 (x.links+1) }:Nod).c:=rfl;rw[hc];have hA:=h1.row_aft (x':= { x with links:=IntKind.wrap .i64 (x.links+1) }) hn rfl rfl rfl rfl (.tuple []);have hmn:m≠n:=fun e=>by subst e;rw[hn]at hm;cases hm;exact hk2 hd2
   have hm1:(st.put n (some { x with links:=IntKind.wrap .i64 (x.links+1) })).nod m=some d:=by rw[Brs.put_ne _ _ hmn];exact hm
   simp only;rw[dir_ptr hA.ok hm1 hl,ob_some];have hn1:=(h1.nod n x hn).1;refine Wp.call (dirset_aft hs hA.ok hm1 hl (hK.nobody hm hd2) (by have:=hL m d l hm hl;omega) hd4 (v:=(n:Nat)) (by omega)) ?_;rintro⟨w,K⟩ ⟨rfl,own',hA'⟩;exact Wp.ret ⟨own',_,((hA.trans hA').val _).kp g2,⟨0,rfl⟩,.inr ⟨m,n,d,x,l,rfl,rfl,hm,hd2,hl,hd4,hlk,hn,hk2,by omega,hl0,rfl,rfl⟩⟩
def goneSt (st:Brs)(n:Nat):Brs:=({ st with free:=upL (st.free.length+1) (st.free++[⟨(n:Nat),(n:Nat),st.k⟩]) st.free.length,k:=IntKind.wrap .i64 (st.k+1) }:Brs).put n none
def GoneP (own:Nat->Nat)(H:Heap)(b:Nat)(st:Brs)(n:Nat)(x:Nod)(r:Out):Prop:=r.1=.tuple []/\∃own',Aft own H b r own' (if 0<x.links∨0<x.holds then st else goneSt st n)
def GoneOk (O:Oracle)(f:FuncId):Prop:=∀(own:Nat->Nat) (H:Heap) (b:Nat) (st:Brs) (n:Nat) (x:Nod),BrOk own H b st->st.nod n=some x->st.free.length<1000000->Wp (O f [.ptr b 0,.int .i64 (n:Nat)] H) (GoneP own H b st n x)
theorem gone_s {ff fp:FuncId}(hf:SFreeOk O ff)(hp:QPushOk O fp){n:Nat}{x:Nod}(h:BrOk own H b st)(hn:st.nod n=some x)(hlen:st.free.length<1000000) :
  Wp (BbGoneS cal O N ff fp (.ptr b 0) (.int .i64 (n:Nat)) H) (GoneP own H b st n x):=by
 obtain⟨n1,n200,hN⟩:=h.nod n x hn;have hcell:st.cell n=.ptr x.p 0:=by unfold Brs.cell;rw[hn]
 unfold BbGoneS;have e1:lload1 H (.ptr x.p 1)=some (.int .i64 x.links):=ld1 hN.row;have e2:lload1 H (.ptr x.p 2)=some (.int .i64 x.holds):=ld1 hN.row;have hbt:=h.ino_ptr n200;rw[lchk_ptr,ob_some,loff_ptr,ob_some,lixa_ptr,if_pos (by omega),ob_some,hbt,ob_some,hcell];simp only[lchk_ptr,loff_ptr,ob_some,Nat.zero_add,e1,lbin_gtr];have stay:0<x.links∨0<x.holds->Wp (some ((IV.tuple []),H)) (GoneP own H b st n x):=fun hc=>Wp.ret ⟨rfl,own,by rw[if_pos hc];exact Aft.none h (Frame.refl _ _)⟩;by_cases hl:0<x.links
 ·rw[decide_eq_true hl];simp only[isB_tf,gq_false,ob_some,lpick_true,cnd_true];exact stay (.inl hl)
 ·rw[decide_eq_false hl];simp only[isB_ff,gq_true,ob_some,lchk_ptr,loff_ptr,Nat.zero_add,e2,lbin_gtr,lpick_false];by_cases hh:0<x.holds
  ·rw[decide_eq_true hh,cnd_true];exact stay (.inr hh)
  ·rw[decide_eq_false hh,cnd_false,jn_eq];have fin:∀(K:Heap),BrOk own K b st->Frame (fun j=>own j≠0) H K->Wp (ob (lixa 201 1 (.ptr b 1) (.int .i64 (n:Nat))) fun t33 =>
     ob (lstV K 1 t33 .nilPtr) fun r34 =>
     ob (lload1 r34.2 (.ptr b 202)) fun t37 =>
     ob (O fp [t37,.int .i64 (n:Nat),.int .i64 (n:Nat)] r34.2) fun r38 =>
     some ((.tuple []),r38.2)) (GoneP own H b st n x):=by
    intro K hK hF;rw[lixa_ptr,if_pos (by omega),ob_some,show(1:Nat)+Int.toNat (n:Nat)*1=0+1+Int.toNat (n:Nat)*1 by omega,hK.ino_set n200 (by simp only[one_nilPtr]),ob_some];simp only;have h2:=hK.delNod (i:=n) ⟨n1,n200⟩;have kb:Frame (fun j=>j=b) K (K.set b (.row (brC (.ptr st.s 0) (st.cells.set n .nilPtr) (.ptr st.q 0)) false)):=Frame.set _ _ rfl;have hF2:Frame (fun j=>own j≠0) H (K.set b (.row (brC (.ptr st.s 0) (st.cells.set n .nilPtr) (.ptr st.q 0)) false)):=hF.tr (kb.mono fun j hj=>by subst hj;rw[h.ob];decide);have hup:∀j,ownSet own n (fun _=>False) j≠0->own j≠0∨H.length<=j:=fun j hj=>ownSet_ok (fun j hj=>hj.elim) j hj (by omega);generalize K.set b (.row (brC (.ptr st.s 0) (st.cells.set n .nilPtr) (.ptr st.q 0)) false)=K2 at *;have hq:lload1 K2 (.ptr b 202)=some (.ptr st.q 0):=h2.q_ptr;rw[hq,ob_some];refine Wp.call (hp _ K2 st.q st.free st.k (n:Nat) (n:Nat) h2.que hlen) ?_;rintro⟨v,K3⟩ ⟨_,k2,_,P',k3,k4⟩;simp only at k2 k3 ⊢;have h3:=h2.free' k2 k4 k3;refine Wp.ret ⟨rfl,ownSet (ownSet own n (fun _=>False)) 202 P',?_⟩;rw[if_neg (by omega)];refine⟨h3,hF2.trans k2 fun j hj hw=> ?_,fun j hj=> ?_⟩
    ·rcases hup j (by omega)with h | h
     ·exact h
     ·omega
    ·rcases ownSet_ok k4 j hj (by decide)with h | h
     ·exact hup j h
     ·exact .inr (by have:=hF2.1;omega)
   have e5:lload1 H (.ptr x.p 5)=some (if x.body=true then .ptr x.q 0 else .nilPtr):=ld1 hN.row;rw[e5,ob_some]
   cases hb:x.body with
   | false =>
    simp only[Bool.false_eq_true,if_false,nev_nn,ob_some,cnd_false];exact fin H h (Frame.refl _ _)
   | true =>
    simp only[if_true,nev_nil,ob_some,cnd_true,h.s_ptr];have hBod:=hN.bod hb;refine Wp.call (hf _ H st.s x.q h.sto hBod (fun e=>by have:=h.os;omega)) ?_;rintro⟨v,K⟩ ⟨_,k2,k3,k4⟩;simp only at k2 k3 k4 ⊢;have hox:=hN.own;have hup:=h.upd (x':=x) (P':=fun j=>own j=n) hn (k2.mono fun j hj=>hj.elim (fun h=>.inl h.1) fun e=>.inr (by subst e;exact h.os)) k4 (fun j hj=>.inl hj) ⟨hox,fun j hj=>Nat.lt_of_lt_of_le (hN.lt j hj) k2.1,k2.get (fun e=>e.elim (fun e=>e.2 rfl) fun e=>by have:=h.os;rw[←e]at this;omega) hN.row,(fun _=>k3),(fun l hl=>by rw[hN.one hb]at hl;cases hl),hN.one⟩ rfl;have hown:ownSet own n (fun j=>own j=n)=own:=by
     funext j;unfold ownSet
     by_cases e:own j=n
     ·rw[if_pos e,e]
     ·rw[if_neg e,if_neg e]
    have hput:st.put n (some x)=st:=by
     have:(st.put n (some x)).nod=st.nod:=by
      funext k;unfold Brs.put;simp only
      split
      ·rename_i e;rw[e,hn]
      ·rfl
     show({ st with nod:=(st.put n (some x)).nod }:Brs)=st;rw[this]
    rw[hown,hput]at hup;exact fin K hup (k2.mono fun j hj=>by rcases hj with e | e;exact(by have:=e.1;omega);exact(by subst e;rw[h.os];decide))
end
end Go.Shade
namespace Go.Shade
variable {H : Heap} {b : Nat} {i : Int} {own : Nat -> Nat} {s : Nam} {st : Brs}
def awaySt (st:Brs)(m:Nat)(d:Nod)(l:Dr)(s:Nam)(n:Nat)(x:Nod):Brs :=
 let st1:=(st.put m (some { d with dir:=some (delD s l) })).put n (some { x with links:=x.links - 1 })
 if 0<x.links - 1∨0<x.holds then st1 else goneSt st1 n
section
variable {cal : FuncId -> Bool} {O : Oracle} {N : Nat}
def AwayOk (O:Oracle)(f:FuncId):Prop:=∀(own:Nat->Nat) (H:Heap) (b:Nat) (st:Brs) (m n:Nat) (d x:Nod) (l:Dr) (s:Nam),BrOk own H b st->st.nod m=some d->d.dir=some l->d.body=false->l.length<=1000000->lookD s l=some ((n:Nat):Int)->st.nod n=some x->n≠m->1<=x.links->x.links<=1000->st.free.length<1000000 ->
 Wp (O f [.ptr b 0,.ptr d.p 0,.str s] H) fun r=>r.1=.tuple []/\∃own',Aft own H b r own' (awaySt st m d l s n x)
theorem away_s {fd fg:FuncId}(hd:DDelOk O fd)(hg:GoneOk O fg){m n:Nat}{d x:Nod}{l:Dr}(h:BrOk own H b st)(hm:st.nod m=some d)(hl:d.dir=some l)(hb:d.body=false)(hlen:l.length<=1000000)(hlk:lookD s l=some ((n:Nat):Int))(hn:st.nod n=some x)(hnm:n≠m)(hx1:1<=x.links)(hx2:x.links<=1000)(hfl:st.free.length<1000000) :
  Wp (BbAwayS cal O N fd fg (.ptr b 0) (.ptr d.p 0) (.str s) H) fun r=>r.1=.tuple []/\∃own',Aft own H b r own' (awaySt st m d l s n x):=by
 unfold BbAwayS;rw[lchk_ptr,ob_some,loff_ptr,ob_some,Nat.zero_add,dir_ptr h hm hl,ob_some];refine Wp.call (dirdel_aft hd h hm hl hb hlen hlk) ?_;rintro⟨v,H1⟩ ⟨rfl,own1,hA⟩;rw[iextract_tuple,iextract_tuple];have hn1:(st.put m (some { d with dir:=some (delD s l) })).nod n=some x:=by rw[Brs.put_ne _ _ hnm];exact hn
 obtain⟨n1,n200,hN⟩:=hA.ok.nod n x hn1;have hcell:(st.put m (some { d with dir:=some (delD s l) })).cell n=.ptr x.p 0:=by unfold Brs.cell;rw[hn1]
 have hbt:=hA.ok.ino_ptr n200;have e1:lload1 H1 (.ptr x.p 1)=some (.int .i64 x.links):=ld1 hN.row;simp only[List.getElem?_cons_zero,List.getElem?_cons_succ,ob_some,lchk_ptr,loff_ptr];simp only at hbt e1 hN;rw[lixa_ptr,if_pos (by omega),ob_some,hbt,ob_some,hcell];simp only[lchk_ptr,loff_ptr,ob_some,Nat.zero_add,e1,lbin_sub];rw[wrap_i64 (by omega) (by omega)];have hrow:H1[x.p]? =some (.row x.c false):=hN.row;rw[st1 hrow (by simp only[one_int]) (by rw[x.c_length];omega),ob_some];have hc:x.c.set 1 (.int .i64 (x.links - 1))=({ x with links:=x.links - 1 }:Nod).c:=rfl;rw[hc];have hA2:=hA.ok.row_aft (x':= { x with links:=x.links - 1 }) hn1 rfl rfl rfl rfl (.tuple []);simp only at hA2 ⊢;refine Wp.call (hg own1 _ b _ n { x with links:=x.links - 1 } hA2.ok (Brs.put_same _ _ _) hfl) ?_;rintro⟨w,K⟩ ⟨_,own',hA'⟩;refine Wp.ret ⟨rfl,own',?_⟩;have:=((hA.trans hA2).trans hA').val (.tuple []);unfold awaySt;exact this
def UnlNo (st:Brs)(i:Int)(s:Nam):Prop:=(∃q,namOf st i s=.inr q)∨∃(d:Nod) (n:Nat) (y:Nod),namOf st i s=.inl (d,((n:Nat):Int))/\st.nod n=some y/\y.kind=2
def UnlP (own:Nat->Nat)(H:Heap)(b:Nat)(st:Brs)(i:Int)(s:Nam)(r:Out):Prop:=∃own' st',Aft own H b r own' st'/\(∃e:Int,r.1=.int .i64 e) /\
 ((UnlNo st i s/\st'=st)∨∃(m n:Nat) (d x:Nod) (l:Dr),i=(m:Nat)/\st.nod m=some d/\d.kind=2/\d.dir=some l/\lookD s l=some ((n:Nat):Int)/\st.nod n=some x/\x.kind≠2/\n≠m/\st'=awaySt st m d l s n x)
def BUnlOk (O:Oracle)(f:FuncId):Prop:=∀(own:Nat->Nat) (H:Heap) (b:Nat) (st:Brs) (i:Int) (s:Nam),BrOk own H b st->KInv st->LenInv 999999 st->EntInv st->st.free.length<1000000->Wp (O f [.ptr b 0,.int .i64 i,.str s] H) (UnlP own H b st i s)
theorem namOf_inl {d:Nod}{v:Int}(h:namOf st i s=.inl (d,v)):nodI st i=some d/\d.kind=2/\d.links≠0/\entOf d s=some v:=by
 unfold namOf at h;split at h
 ·cases h
 ·rename_i x hx;split at h
  ·rename_i w hw
   cases h
   obtain⟨a,b,c⟩:=chgOf_inl hx;exact⟨a,b,c,hw⟩
  ·cases h
theorem namOf_inr {p:IV}{a e:Int}(h:namOf st i s=.inr (p,a,e)):e≠0:=by
 unfold namOf at h;split at h
 ·rename_i e' he;cases h;rcases chgOf_inr he with h | h<;>omega
 ·split at h
  ·cases h
  ·cases h;decide
theorem bunl_s {fn fa:FuncId}(hn':NamedOk O fn)(ha:AwayOk O fa)(h:BrOk own H b st)(hK:KInv st)(hL:LenInv 999999 st)(hE:EntInv st)(hfl:st.free.length<1000000) :
  Wp (BbUnlinkS cal O N fn fa (.ptr b 0) (.int .i64 i) (.str s) H) (UnlP own H b st i s):=by
 have hL6:LenInv 1000000 st:=fun i x l a b=>Nat.le_trans (hL i x l a b) (by omega);unfold BbUnlinkS;refine Wp.call (hn' own H b st i s h hK hL6) ?_;rintro⟨v,H1⟩ ⟨g1,g2⟩;simp only at g1 g2 ⊢;subst g1;have h1:=h.kp g2;have bad:∀e:Int,UnlNo st i s->Wp (some ((IV.int .i64 e),H1)) (UnlP own H b st i s):=fun e hu=>Wp.ret ⟨own,st,Aft.none h g2,⟨e,rfl⟩,.inl ⟨hu,rfl⟩⟩
 cases hx:namOf st i s with
 | inr q =>
  obtain⟨p,a,e⟩:=q;have he:=namOf_inr hx;simp only[namV,iextract_tuple,List.getElem?_cons_zero,List.getElem?_cons_succ,ob_some,lbin_neq];rw[decide_eq_false he,Bool.not_false,cnd_true];exact bad e (.inl ⟨_,hx⟩)
 | inl q =>
  obtain⟨d,v⟩:=q;obtain⟨hd1,hd2,hd3,hd4⟩:=namOf_inl hx;obtain⟨l,m,rfl,hm,hl,hD,hdrow,hd6⟩:=dir_of h1 hK hd1 hd2;have hlk:lookD s l=some v:=by unfold entOf at hd4;rw[hl]at hd4;exact hd4
  obtain⟨n,rfl,n2,n200,x,hn,hx1,hx2,_⟩:=hE m d l s v hm hl hlk;simp only[namV,iextract_tuple,List.getElem?_cons_zero,List.getElem?_cons_succ,ob_some,lbin_neq];rw[decide_eq_true trivial,Bool.not_true,cnd_false];have hcell:st.cell n=.ptr x.p 0:=by unfold Brs.cell;rw[hn]
  have hbt:=h1.ino_ptr n200;have hrow:=nod_row h1 (nodI_nat h1 hn);have e0:lload1 H1 (.ptr x.p 0)=some (.int .i64 x.kind):=ld1 hrow;rw[lchk_ptr,ob_some,loff_ptr,ob_some,lixa_ptr,if_pos (by omega),ob_some,hbt,ob_some,hcell];simp only[lchk_ptr,loff_ptr,ob_some,Nat.zero_add,e0,lbin_eql];refine Wp.dec (fun hk=>bad 21 (.inr ⟨d,n,x,hx,hn,hk⟩)) (fun hk=> ?_);have hnm:n≠m:=fun e=>by subst e;rw[hm]at hn;cases hn;exact hk hd2
  refine Wp.call (ha own H1 b st m n d x l s h1 hm hl (hK.nobody hm hd2) (hL6 m d l hm hl) hlk hn hnm hx1 hx2 hfl) ?_;rintro⟨w,K⟩ ⟨_,own',hA⟩;exact Wp.ret ⟨own',_,(hA.val _).kp g2,⟨0,rfl⟩,.inr ⟨m,n,d,x,l,rfl,hm,hd2,hl,hlk,hn,hk,hnm,rfl⟩⟩
def BWriteOk (O:Oracle)(f:FuncId):Prop:=∀(own:Nat->Nat) (H:Heap) (b:Nat) (st:Brs) (i off:Int) (dv:IV) (n:Nat) (cs:List IV),BrOk own H b st->KInv st->Sl 1 H dv n cs->cs.all IV.one=true->At (fun j=>own j=0) dv->n<=1000000->Wp (O f [.ptr b 0,.int .i64 i,.int .i64 off,dv] H) fun r=>(∃a e:Int,r.1=.tuple [.int .i64 a,.int .i64 e])/\Aft own H b r own st
def fileV (st:Brs)(i:Int):IV:=match nodI st i with
 | none=>.tuple [.nilPtr,.int .i64 2]
 | some x=>if x.kind=2 then .tuple [.nilPtr,.int .i64 21]else if x.kind=1 then .tuple [.ptr x.p 0,.int .i64 0]else .tuple [.nilPtr,.int .i64 22]
def FileOk (O:Oracle)(f:FuncId):Prop:=∀(own:Nat->Nat) (H:Heap) (b:Nat) (st:Brs) (i:Int),BrOk own H b st->O f [.ptr b 0,.int .i64 i] H=some (fileV st i,H)
theorem file_s {fa:FuncId}(ha:AtOk O fa)(h:BrOk own H b st):BbFileS cal O N fa (.ptr b 0) (.int .i64 i) H=some (fileV st i,H):=by
 unfold BbFileS fileV;rw[ha own H b st i h,ob_some]
 cases hx:nodI st i with
 | none=>simp only[eqv_nn,ob_some,cnd_true]
 | some x =>
  have e1:lload1 H (.ptr x.p 0)=some (.int .i64 x.kind):=ld1 (nod_row h hx);simp only[eqv_nil,ob_some,cnd_false,lchk_ptr,loff_ptr,Nat.zero_add,e1,lbin_eql,lbin_neq];by_cases hk:x.kind=2
  ·rw[decide_eq_true hk,if_pos hk,cnd_true]
  ·rw[decide_eq_false hk,if_neg hk,cnd_false];by_cases hk1:x.kind=1
   ·rw[decide_eq_true hk1,if_pos hk1,Bool.not_true,cnd_false]
   ·rw[decide_eq_false hk1,if_neg hk1,Bool.not_false,cnd_true]
theorem bwrite_s {ff fw:FuncId}(hf:FileOk O ff)(hw:SWriteOk O fw){off:Int}{dv:IV}{n:Nat}{cs:List IV}(h:BrOk own H b st)(hK:KInv st)(hsl:Sl 1 H dv n cs)(h1:cs.all IV.one=true)(hat:At (fun j=>own j=0) dv)(hn9:n<=1000000) :
  Wp (BbWriteS cal O N ff fw (.ptr b 0) (.int .i64 i) (.int .i64 off) dv H) fun r=>(∃a e:Int,r.1=.tuple [.int .i64 a,.int .i64 e])/\Aft own H b r own st:=by
 unfold BbWriteS;rw[hf own H b st i h,ob_some];have bad:∀e:Int,e≠0->fileV st i=.tuple [.nilPtr,.int .i64 e]->Wp (ob (iextract (fileV st i) 0) fun t2 =>
  ob (iextract (fileV st i) 1) fun t3 =>
  ob (lbin .neq t3 (.int .i64 0)) fun t4 =>
  cnd t4
  (some ((.tuple [(.int .i64 0),t3]),H))
  (ob (lchk (.ptr b 0)) fun t5 =>
  ob (loff t5 0) fun t6 =>
  ob (lload1 H t6) fun t7 =>
  ob (lchk t2) fun t8 =>
  ob (loff t8 5) fun t9 =>
  ob (lload1 H t9) fun t10 =>
  ob (O fw [t7,t10,.int .i64 off,dv] H) fun r11 =>
  ob (iextract r11.1 0) fun t12 =>
  ob (iextract r11.1 1) fun t13 =>
  some ((.tuple [t12,t13]),r11.2))) fun r=>(∃a e:Int,r.1=.tuple [.int .i64 a,.int .i64 e])/\Aft own H b r own st:=by
  intro e he hv;rw[hv];simp only[iextract_tuple,List.getElem?_cons_zero,List.getElem?_cons_succ,ob_some,lbin_neq];rw[decide_eq_false he,Bool.not_false,cnd_true];exact Wp.ret ⟨⟨0,e,rfl⟩,Aft.none h (Frame.refl _ _)⟩
 cases hx:nodI st i with
 | none=>exact bad 2 (by decide) (by unfold fileV;rw[hx])
 | some x =>
  by_cases hk:x.kind=2
  ·exact bad 21 (by decide) (by unfold fileV;rw[hx];simp only;rw[if_pos hk])
  ·by_cases hk1:x.kind=1
   ·have hv:fileV st i=.tuple [.ptr x.p 0,.int .i64 0]:=by unfold fileV;rw[hx];simp only;rw[if_neg hk,if_pos hk1]
    obtain⟨m,rfl,hm⟩:=nodI_at hx;obtain⟨m1,m2,hN⟩:=h.nod m x hm;have hbody:=(hK.body m x hm).1 hk1;have e5:lload1 H (.ptr x.p 5)=some (.ptr x.q 0):=by rw[ld1 hN.row];unfold Nod.c;rw[hbody];rfl
    rw[hv];simp only[iextract_tuple,List.getElem?_cons_zero,List.getElem?_cons_succ,ob_some,lbin_neq];rw[decide_eq_true trivial,Bool.not_true,cnd_false];simp only[lchk_ptr,loff_ptr,ob_some,Nat.zero_add,h.s_ptr,e5];have hos:=h.os;refine Wp.call (hw _ H st.s x.q off dv n cs h.sto (hN.bod hbody) (fun e=>by omega) hsl h1 (hat.mono fun j hj=>⟨fun e=>by omega,fun e=>by subst e;omega⟩) hn9) ?_;rintro⟨v,K⟩ ⟨⟨a,e,rfl⟩,k2,k3,k4⟩;simp only at k2 k3 k4 ⊢;rw[iextract_tuple,iextract_tuple];have hox:own x.p=m:=hN.own;have hup:=h.upd (x':=x) (P':=fun j=>own j=m) hm (k2.mono fun j hj=>hj.elim (fun h=>.inl h.1) fun e=>.inr (by subst e;exact h.os)) k4 (fun j hj=>.inl hj) ⟨hox,fun j hj=>Nat.lt_of_lt_of_le (hN.lt j hj) k2.1,k2.get (fun e=>e.elim (fun e=>e.2 rfl) fun e=>by rw[←e]at hos;omega) hN.row,(fun _=>k3),(fun l hl=>by rw[hN.one hbody]at hl;cases hl),hN.one⟩ rfl;have hown:ownSet own m (fun j=>own j=m)=own:=by
     funext j;unfold ownSet
     by_cases e:own j=m
     ·rw[if_pos e,e]
     ·rw[if_neg e,if_neg e]
    have hput:st.put m (some x)=st:=by
     have:(st.put m (some x)).nod=st.nod:=by
      funext k;unfold Brs.put;simp only
      split
      ·rename_i e;rw[e,hm]
      ·rfl
     show({ st with nod:=(st.put m (some x)).nod }:Brs)=st;rw[this]
    rw[hown,hput]at hup;exact Wp.ret ⟨⟨a,e,rfl⟩,hup,(k2.mono fun j hj=>by rcases hj with e | e;exact(by have:=e.1;omega);exact(by subst e;omega)),fun j hj=>.inl hj⟩
   ·exact bad 22 (by decide) (by unfold fileV;rw[hx];simp only;rw[if_neg hk,if_neg hk1])
end
end Go.Shade
namespace Go.Shade
variable {d x : Nod} {l : Dr} {m : Nat} {st : Brs}
def RankInv (st:Brs)(rk:Nat->Nat):Prop:=∀i x,st.nod i=some x->x.kind=2->i≠1->∃p:Nat,x.parent=(p:Nat)/\rk p<rk i/\p<=200/\∃y,st.nod p=some y/\y.kind=2
def upC (st:Brs):Nat->Nat->Int->Bool
 | 0,_,_=>false
 | f+1,i,top=>if(i:Int)=top then true else if i=1 then false else match st.nod i with
  | some x=>upC st f x.parent.toNat top
  | none=>false
theorem delD_len (s:Nam):∀l:Dr,(delD s l).length<=l.length
 | []=>Nat.le_refl _
 | e::l=>by
  unfold delD;split
  ·simp
  ·simpa using delD_len s l
theorem lookD_del {s t:Nam}(h:s≠t):∀l:Dr,lookD s (delD t l)=lookD s l
 | []=>rfl
 | e::l=>by
  unfold delD;split
  ·rename_i h1;show _=(if e.1=s then _ else _);rw[if_neg (fun h2=>h (h2.symm.trans h1))]
  ·show(if e.1=s then some e.2 else lookD s (delD t l))=(if e.1=s then some e.2 else lookD s l);rw[lookD_del h l]
def updDir (st:Brs)(m:Nat)(f:Dr->Dr):Brs:=match st.nod m with
 | some d=>(match d.dir with
  | some l=>st.put m (some { d with dir:=some (f l) })
  | none=>st)
 | none=>st
theorem updDir_eq {f:Dr->Dr}(hm:st.nod m=some d)(hl:d.dir=some l):updDir st m f=st.put m (some { d with dir:=some (f l) }):=by
 unfold updDir;rw[hm];simp only[hl]
def setPar (st:Brs)(n:Nat)(to:Int):Brs:=match st.nod n with
 | some x=>if x.kind=2 then st.put n (some { x with parent:=to })else st
 | none=>st
def renEnd (st:Brs)(m:Nat)(s:Nam)(mt:Nat)(s2:Nam)(n:Nat):Brs:=setPar (updDir (updDir st m (delD s)) mt (setD s2 (n:Nat))) n (mt:Nat)
theorem awaySt_nod {n k:Nat}{s:Nam}(h:k≠n):(awaySt st m d l s n x).nod k=if k=m then some { d with dir:=some (delD s l) } else st.nod k:=by
 unfold awaySt;simp only;split
 ·rw[Brs.put_ne _ _ h];rfl
 ·unfold goneSt;rw[Brs.put_ne _ _ h];show((st.put m _).put n _).nod k=_;rw[Brs.put_ne _ _ h];rfl
section
variable {cal : FuncId -> Bool} {O : Oracle} {N : Nat}
def BelowOk (O:Oracle)(f:FuncId):Prop:=∀(own:Nat->Nat) (H:Heap) (b:Nat) (st:Brs) (rk:Nat->Nat) (i:Nat) (x:Nod) (top:Int),BrOk own H b st->RankInv st rk->st.nod i=some x->x.kind=2->O f [.ptr b 0,.int .i64 (i:Nat),.int .i64 top] H=some (.bool (upC st (rk i+1) i top),H)
theorem below_go {own:Nat->Nat}{H:Heap}{b:Nat}{st:Brs}{rk:Nat->Nat}{top:Int}(h:BrOk own H b st)(hR:RankInv st rk):∀(n i:Nat) (x:Nod) (f:Nat),st.nod i=some x->x.kind=2->rk i<n->rk i<f ->
  BbBelowC0S cal O N (fun H=>some ((.bool true),H)) n (.ptr b 0) (.int .i64 (i:Nat)) (.int .i64 top) H=some (.bool (upC st f i top),H)
 | 0,i,x,f,_,_,hn,_=>by omega
 | n+1,i,x,f,hi,hk,hn,hf=>by
  obtain⟨f,rfl⟩:∃j,f=j+1:=⟨f - 1,by omega⟩;rw[BbBelowC0S,lbin_neq,ob_some];unfold upC;by_cases h1:(i:Int)=top
  ·rw[decide_eq_true h1,Bool.not_true,cnd_false,if_pos h1]
  ·rw[decide_eq_false h1,Bool.not_false,cnd_true,if_neg h1,lbin_eql,ob_some];by_cases h2:i=1
   ·rw[decide_eq_true (by omega),cnd_true,if_pos h2]
   ·rw[decide_eq_false (by omega),cnd_false,if_neg h2];obtain⟨p,hp,hrk,hp200,y,hy,hyk⟩:=hR i x hi hk h2;obtain⟨i1,i200,hN⟩:=h.nod i x hi;have hcell:st.cell i=.ptr x.p 0:=by unfold Brs.cell;rw[hi]
    have e4:lload1 H (.ptr x.p 4)=some (.int .i64 x.parent):=ld1 hN.row;have hbt:=h.ino_ptr i200;rw[lchk_ptr,ob_some,loff_ptr,ob_some,lixa_ptr,if_pos (by omega),ob_some,hbt,ob_some,hcell];simp only[lchk_ptr,loff_ptr,ob_some,Nat.zero_add,e4,hi];rw[hp,Int.toNat_natCast];exact below_go h hR n p y f hy hyk (by omega) (by omega)
theorem below_s {own:Nat->Nat}{H:Heap}{b:Nat}{rk:Nat->Nat}{i:Nat}{top:Int}(h:BrOk own H b st)(hR:RankInv st rk)(hi:st.nod i=some x)(hk:x.kind=2):BbBelowS cal O (rk i+1) (.ptr b 0) (.int .i64 (i:Nat)) (.int .i64 top) H=some (.bool (upC st (rk i+1) i top),H):=by
 unfold BbBelowS BbBelowC3S BbBelowC2S BbBelowC1S;exact below_go h hR (rk i+1) i x (rk i+1) hi hk (by omega) (by omega)
structure RenD (st:Brs)(rk:Nat->Nat)(m:Nat)(s:Nam)(mt:Nat)(s2:Nam)(n:Nat)(d t x:Nod)(l lt:Dr)(st1:Brs):Prop where
 hm:st.nod m=some d
 hmk:d.kind=2
 hml:d.dir=some l
 hs:lookD s l=some ((n:Nat):Int)
 hn:st.nod n=some x
 ht:st.nod mt=some t
 htk:t.kind=2
 htl:t.dir=some lt
 hse:setErr s2=0
 nb:x.kind=2->upC st (rk mt+1) mt (n:Nat)=false
 st1:(lookD s2 lt=none/\st1=st)∨∃(n2:Nat) (y:Nod),lookD s2 lt=some ((n2:Nat):Int)/\n2≠n/\st.nod n2=some y/\(y.kind=2↔x.kind=2)/\(y.kind=2->y.dir=some [])/\st1=awaySt st mt t lt s2 n2 y
def RenP (rk:Nat->Nat)(own:Nat->Nat)(H:Heap)(b:Nat)(st:Brs)(i:Int)(s:Nam)(to:Int)(s2:Nam)(r:Out):Prop:=∃own' st',Aft own H b r own' st'/\(∃e:Int,r.1=.int .i64 e) /\
 (st'=st∨∃(m mt n:Nat) (d t x:Nod) (l lt:Dr) (st1:Brs),i=(m:Nat)/\to=(mt:Nat)/\RenD st rk m s mt s2 n d t x l lt st1/\st'=renEnd st1 m s mt s2 n)
def BRenOk (O:Oracle)(f:FuncId):Prop:=∀(rk:Nat->Nat) (own:Nat->Nat) (H:Heap) (b:Nat) (st:Brs) (i:Int) (s:Nam) (to:Int) (s2:Nam),BrOk own H b st->KInv st->LenInv 999999 st->EntInv st->RankInv st rk->st.free.length<1000000->Wp (O f [.ptr b 0,.int .i64 i,.str s,.int .i64 to,.str s2] H) (RenP rk own H b st i s to s2)
theorem RenD.facts {rk:Nat->Nat}{mt n:Nat}{s s2:Nam}{t:Nod}{lt:Dr}{st1:Brs}(hK:KInv st)(hE:EntInv st)(hR:RankInv st rk)(h:RenD st rk m s mt s2 n d t x l lt st1):n≠m/\n≠mt/\∃d1 l1 t1 lt1,st1.nod m=some d1/\d1.p=d.p/\d1.q=d.q/\d1.body=d.body/\d1.dir=some l1/\lookD s l1=some ((n:Nat):Int)/\l1.length<=l.length /\
  st1.nod mt=some t1/\t1.p=t.p/\t1.q=t.q/\t1.body=t.body/\t1.dir=some lt1/\lt1.length<=lt.length/\st1.nod n=some x/\(m=mt->d1=t1):=by
 have hnm:n≠m:=fun e=>by
  have hxk:x.kind=2:=by
   have:=h.hn;rw[e,h.hm]at this;cases this;exact h.hmk
  obtain⟨n',e1,n2,_,y,hy,_,_,hp⟩:=hE m d l s _ h.hm h.hml h.hs;have en:n'=n:=by omega
  subst en;rw[h.hn]at hy;cases hy
  obtain⟨p,hp1,hp2,_⟩:=hR n' x h.hn hxk (by omega);have:=hp hxk;have:p=m:=by omega
  subst this;subst e;omega
 have hnt:n≠mt:=fun e=>by
  have hxk:x.kind=2:=by
   have:=h.hn;rw[e,h.ht]at this;cases this;exact h.htk
  have:=h.nb hxk;unfold upC at this;rw[if_pos (by omega)]at this
  cases this
 refine⟨hnm,hnt,?_⟩;rcases h.st1 with⟨h0,rfl⟩ | ⟨n2,y,h0,h1,h2,h3,h4,rfl⟩
 ·exact⟨d,l,t,lt,h.hm,rfl,rfl,rfl,h.hml,h.hs,Nat.le_refl _,h.ht,rfl,rfl,rfl,h.htl,Nat.le_refl _,h.hn,fun e=>by subst e;have:=h.hm;rw[h.ht]at this;cases this;rfl⟩
 ·have hss:s≠s2∨m≠mt:=by
   by_cases e:m=mt
   ·left;intro es;subst e es;have:=h.ht;rw[h.hm]at this;cases this
    have:=h.htl;rw[h.hml]at this;cases this
    rw[h.hs]at h0;injection h0 with h0;exact h1 (by omega)
   ·exact .inr e
  have e2:∀(k:Nat) (z:Nod) (lz:Dr) (sz:Nam) (v:Int),st.nod k=some z->z.kind=2->z.dir=some lz->lookD sz lz=some v->k≠n2:=by
   intro k z lz sz v a b c e ek;subst ek;rw[h2]at a;cases a
   rw[h4 b]at c;cases c
   cases e
  have hmn2:=e2 m d l s _ h.hm h.hmk h.hml h.hs;have htn2:=e2 mt t lt s2 _ h.ht h.htk h.htl h0;by_cases e:m=mt
  ·subst e;have e1:=h.ht;rw[h.hm]at e1;cases e1
   have e3:=h.htl;rw[h.hml]at e3;cases e3
   have hne:s≠s2:=hss.resolve_right (fun h=>h rfl);refine⟨{ d with dir:=some (delD s2 l) },delD s2 l,{ d with dir:=some (delD s2 l) },delD s2 l,by rw[awaySt_nod hmn2,if_pos rfl],rfl,rfl,rfl,rfl,by rw[lookD_del hne];exact h.hs,delD_len _ _,by rw[awaySt_nod hmn2,if_pos rfl],rfl,rfl,rfl,rfl,delD_len _ _,by rw[awaySt_nod (fun e=>h1 e.symm),if_neg hnm];exact h.hn,fun _=>rfl⟩
  ·refine⟨d,l,{ t with dir:=some (delD s2 lt) },delD s2 lt,by rw[awaySt_nod hmn2,if_neg e];exact h.hm,rfl,rfl,rfl,h.hml,h.hs,Nat.le_refl _,by rw[awaySt_nod htn2,if_pos rfl],rfl,rfl,rfl,rfl,delD_len _ _,by rw[awaySt_nod (fun e=>h1 e.symm),if_neg hnt];exact h.hn,fun e'=>absurd e' e⟩
theorem ren_end {fde fse:FuncId}(hde:DDelOk O fde)(hse:DSetOk O fse){rk:Nat->Nat}{own:Nat->Nat}{H:Heap}{b:Nat}{st st1:Brs}{m mt n:Nat}{s s2:Nam}{d t x:Nod}{l lt:Dr}(hK:KInv st)(hE:EntInv st)(hR:RankInv st rk)(hL:LenInv 999999 st)(hn1:1<=n)(hD:RenD st rk m s mt s2 n d t x l lt st1)(h:BrOk own H b st1) :
  Wp (ob (lchk (.ptr d.p 0)) fun t94 =>
  ob (loff t94 6) fun t95 =>
  ob (lload1 H t95) fun t96 =>
  ob (O fde [t96,.str s] H) fun r97 =>
  ob (lchk (.ptr t.p 0)) fun t98 =>
  ob (loff t98 6) fun t99 =>
  ob (lload1 r97.2 t99) fun t100 =>
  ob (O fse [t100,.str s2,.int .i64 (n:Nat)] r97.2) fun r101 =>
  jn (fun(H112:Heap) =>
  some ((IV.int .i64 0),H112)) fun J102 =>
  ob (lchk (.ptr x.p 0)) fun t113 =>
  ob (loff t113 0) fun t114 =>
  ob (lload1 r101.2 t114) fun t115 =>
  ob (lbin .eql t115 (.int .i64 2)) fun t116 =>
  cnd t116
  (ob (lchk (.ptr x.p 0)) fun t117 =>
  ob (loff t117 4) fun t118 =>
  ob (lstV r101.2 1 t118 (.int .i64 (mt:Nat))) fun r119 =>
  J102 r119.2)
  (J102 r101.2)) fun r=>r.1=.int .i64 0/\∃own',Aft own H b r own' (renEnd st1 m s mt s2 n):=by
 obtain⟨hnm,hnt,d1,l1,t1,lt1,f1,f2,f3,f4,f5,f6,f7,g1,g2,g3,g4,g5,g6,hx1,hdt⟩:=hD.facts hK hE hR;have hdb:=hK.nobody hD.hm hD.hmk;have htb:=hK.nobody hD.ht hD.htk;have hll:=hL m d l hD.hm hD.hml;have hlt:=hL mt t lt hD.ht hD.htl;have e1:lload1 H (.ptr d.p 6)=some (.ptr d.q 0):=by have:=dir_ptr h f1 f5;rw[f2,f3]at this;exact this
 simp only[lchk_ptr,loff_ptr,ob_some,Nat.zero_add,e1,jn_eq];have hdel:=dirdel_aft hde h f1 f5 (by rw[f4];exact hdb) (by omega) f6;rw[show IV.ptr d1.q 0=.ptr d.q 0 by rw[f3]]at hdel;refine Wp.call hdel ?_;rintro⟨v,K⟩ ⟨_,own1,hA⟩;simp only;have hst2:updDir st1 m (delD s)=st1.put m (some { d1 with dir:=some (delD s l1) }):=updDir_eq f1 f5;rw[←hst2]at hA;obtain⟨t2,lt2,a1,a2,a3,a4,a5,a6⟩:∃t2 lt2,(updDir st1 m (delD s)).nod mt=some t2/\t2.p=t.p/\t2.q=t.q/\t2.body=false/\t2.dir=some lt2/\lt2.length<=999999:=by
  rw[hst2];by_cases e:mt=m
  ·subst e;have hdt':=hdt rfl;refine⟨{ d1 with dir:=some (delD s l1) },delD s l1,Brs.put_same _ _ _,?_,?_,?_,rfl,Nat.le_trans (delD_len _ _) (by omega)⟩
   ·show d1.p=_;rw[hdt'];exact g2
   ·show d1.q=_;rw[hdt'];exact g3
   ·show d1.body=_;rw[f4];exact hdb
  ·exact⟨t1,lt1,by rw[Brs.put_ne _ _ e];exact g1,g2,g3,by rw[g4];exact htb,g5,by omega⟩
 have e2:lload1 K (.ptr t.p 6)=some (.ptr t.q 0):=by have:=dir_ptr hA.ok a1 a5;rw[a2,a3]at this;exact this
 rw[e2,ob_some];have hset:=dirset_aft hse hA.ok a1 a5 a4 (s:=s2) (v:=(n:Nat)) (by omega) hD.hse (by omega);rw[show IV.ptr t2.q 0=.ptr t.q 0 by rw[a3]]at hset;refine Wp.call hset ?_;rintro⟨w,K2⟩ ⟨_,own2,hA2⟩;simp only;have hst3:updDir (updDir st1 m (delD s)) mt (setD s2 (n:Nat))=(updDir st1 m (delD s)).put mt (some { t2 with dir:=some (setD s2 (n:Nat) lt2) }):=updDir_eq a1 a5;rw[←hst3]at hA2;have hx3:(updDir (updDir st1 m (delD s)) mt (setD s2 (n:Nat))).nod n=some x:=by
  rw[hst3,Brs.put_ne _ _ hnt,hst2,Brs.put_ne _ _ hnm];exact hx1
 have hrow:K2[x.p]? =some (.row x.c false):=(hA2.ok.nod n x hx3).2.2.row;have e3:lload1 K2 (.ptr x.p 0)=some (.int .i64 x.kind):=ld1 hrow;rw[e3,ob_some,lbin_eql,ob_some];refine Wp.dec (fun hk=> ?_) (fun hk=> ?_)
 ·rw[Go.Shade.st1 hrow (by simp only[one_int]) (by rw[x.c_length];omega),ob_some];have hc:x.c.set 4 (.int .i64 (mt:Nat))=({ x with parent:=(mt:Nat) }:Nod).c:=rfl;rw[hc];have hA3:=hA2.ok.row_aft (x':= { x with parent:=(mt:Nat) }) hx3 rfl rfl rfl rfl (.int .i64 0);have hr:renEnd st1 m s mt s2 n=(updDir (updDir st1 m (delD s)) mt (setD s2 (n:Nat))).put n (some { x with parent:=(mt:Nat) }):=by
   unfold renEnd setPar;rw[hx3];simp only;rw[if_pos hk]
  rw[hr];exact Wp.ret ⟨rfl,own2,(hA.trans hA2).trans hA3⟩
 ·have hr:renEnd st1 m s mt s2 n=updDir (updDir st1 m (delD s)) mt (setD s2 (n:Nat)):=by
   unfold renEnd setPar;rw[hx3];simp only;rw[if_neg hk]
  rw[hr];exact Wp.ret ⟨rfl,own2,(hA.trans hA2).val _⟩
end
end Go.Shade
namespace Go.Shade
section
variable {cal : FuncId -> Bool} {O : Oracle} {N : Nat}
theorem bren_s {fn fc fs fb fg fl fa fde fse:FuncId}(hn':NamedOk O fn)(hc:ChgOk O fc)(hs:SettOk O fs)(hb:BelowOk O fb)(hg:DGetOk O fg)(hl':DLenOk O fl)(ha:AwayOk O fa)(hde:DDelOk O fde)(hse:DSetOk O fse){rk:Nat->Nat}{own:Nat->Nat}{H:Heap}{b:Nat}{st:Brs}{i:Int}{s:Nam}{to:Int}{s2:Nam}
  (h:BrOk own H b st) (hK:KInv st) (hL:LenInv 999999 st) (hE:EntInv st) (hR:RankInv st rk) (hfl:st.free.length<1000000) :
  Wp (BbRenameS cal O N fn fc fs fb fg fl fa fde fse (.ptr b 0) (.int .i64 i) (.str s) (.int .i64 to) (.str s2) H) (RenP rk own H b st i s to s2):=by
 have hL6:LenInv 1000000 st:=fun i x l a b=>Nat.le_trans (hL i x l a b) (by omega);unfold BbRenameS;refine Wp.call (hn' own H b st i s h hK hL6) ?_;rintro⟨v,H1⟩ ⟨g1,g2⟩;simp only at g1 g2 ⊢;subst g1;have h1:=h.kp g2;have bad:∀(e:Int) (K:Heap),Frame NoF H K->Wp (some ((IV.int .i64 e),K)) (RenP rk own H b st i s to s2):=fun e K k=>Wp.ret ⟨own,st,Aft.none h k,⟨e,rfl⟩,.inl rfl⟩
 cases hx:namOf st i s with
 | inr q =>
  obtain⟨p,a,e⟩:=q;have he:=namOf_inr hx;simp only[namV,iextract_tuple,List.getElem?_cons_zero,List.getElem?_cons_succ,ob_some,lbin_neq];rw[decide_eq_false he,Bool.not_false,cnd_true];exact bad e H1 g2
 | inl q =>
  obtain⟨d,v⟩:=q;obtain⟨hd1,hd2,hd3,hd4⟩:=namOf_inl hx;obtain⟨l,m,rfl,hm,hl,hD,hdrow,hd6⟩:=dir_of h1 hK hd1 hd2;have hlk:lookD s l=some v:=by unfold entOf at hd4;rw[hl]at hd4;exact hd4
  obtain⟨n,rfl,n2,n200,x,hn,hx1,hx2,hxp⟩:=hE m d l s v hm hl hlk;simp only[namV,iextract_tuple,List.getElem?_cons_zero,List.getElem?_cons_succ,ob_some,lbin_neq];rw[decide_eq_true trivial,Bool.not_true,cnd_false,hc own H1 b st to h1,ob_some]
  cases hy:chgOf st to with
  | inr e =>
   have he:e≠0:=by rcases chgOf_inr hy with h | h<;>omega
   simp only[dirV,iextract_tuple,List.getElem?_cons_zero,List.getElem?_cons_succ,ob_some,lbin_neq];rw[decide_eq_false he,Bool.not_false,cnd_true];exact bad e H1 g2
  | inl t =>
   obtain⟨ht1,ht2,ht3⟩:=chgOf_inl hy;obtain⟨lt,mt,rfl,hmt,hlt,hDt,htrow,ht6⟩:=dir_of h1 hK ht1 ht2;simp only[dirV,iextract_tuple,List.getElem?_cons_zero,List.getElem?_cons_succ,ob_some,lbin_neq];rw[decide_eq_true trivial,Bool.not_true,cnd_false,hs H1 s2,ob_some];simp only;rw[lbin_neq,ob_some];refine Wp.ndec (fun _=>bad _ H1 g2) (fun hset=> ?_);have hcell:st.cell n=.ptr x.p 0:=by unfold Brs.cell;rw[hn]
   have hbt:=h1.ino_ptr n200;have hrow:=nod_row h1 (nodI_nat h1 hn);have e0:lload1 H1 (.ptr x.p 0)=some (.int .i64 x.kind):=ld1 hrow;rw[lchk_ptr,ob_some,loff_ptr,ob_some,lixa_ptr,if_pos (by omega),ob_some,hbt,ob_some,hcell];simp only[lchk_ptr,loff_ptr,ob_some,Nat.zero_add,e0,lbin_eql];have mid:(x.kind=2->upC st (rk mt+1) mt (n:Nat)=false)->Wp (jn (fun(H93:Heap) =>
  ob (lload1 H93 (.ptr d.p 6)) fun t96 =>
  ob (O fde [t96,(.str s)] H93) fun r97 =>
  ob (lload1 r97.2 (.ptr t.p 6)) fun t100 =>
  ob (O fse [t100,(.str s2),(.int .i64 (n:Nat))] r97.2) fun r101 =>
  jn (fun(H112:Heap) =>
  some ((IV.int .i64 0),H112)) fun J102 =>
  ob (lload1 r101.2 (.ptr x.p 0)) fun t115 =>
  ob (lbin .eql t115 (.int .i64 2)) fun t116 =>
  cnd t116
  (ob (lstV r101.2 1 (.ptr x.p 4) (.int .i64 (mt:Nat))) fun r119 =>
  J102 r119.2)
  (J102 r101.2)) fun J25 =>
  ob (lload1 H1 (.ptr t.p 6)) fun t122 =>
  ob (O fg [t122,(.str s2)] H1) fun r123 =>
  ob (iextract r123.1 0) fun t124 =>
  ob (iextract r123.1 1) fun t125 =>
  ob (lbin .eql t125 (.int .i64 0)) fun t126 =>
  cnd t126
  (ob (lixa 201 1 (.ptr b 1) t124) fun t129 =>
  ob (lload1 r123.2 t129) fun t130 =>
  ob (lbin .eql t124 (.int .i64 (n:Nat))) fun t131 =>
  cnd t131
  (some ((.int .i64 0),r123.2))
  (ob (lchk t130) fun t132 =>
  ob (loff t132 0) fun t133 =>
  ob (lload1 r123.2 t133) fun t134 =>
  ob (lbin .eql t134 (.int .i64 2)) fun t135 =>
  ob (gq (isB t135 true) (some (.ptr x.p 0))) fun t136 =>
  ob (gq (isB t135 true) (lchk t136)) fun t137 =>
  ob (gq (isB t135 true) (loff t137 0)) fun t138 =>
  ob (gq (isB t135 true) (lload1 r123.2 t138)) fun t139 =>
  ob (gq (isB t135 true) (lbin .neq t139 (.int .i64 2))) fun t140 =>
  ob (lpick t135 t140 (.bool false)) fun t141 =>
  cnd t141
  (some ((.int .i64 21),r123.2))
  (ob (lchk t130) fun t142 =>
  ob (loff t142 0) fun t143 =>
  ob (lload1 r123.2 t143) fun t144 =>
  ob (lbin .neq t144 (.int .i64 2)) fun t145 =>
  ob (gq (isB t145 true) (some (.ptr x.p 0))) fun t146 =>
  ob (gq (isB t145 true) (lchk t146)) fun t147 =>
  ob (gq (isB t145 true) (loff t147 0)) fun t148 =>
  ob (gq (isB t145 true) (lload1 r123.2 t148)) fun t149 =>
  ob (gq (isB t145 true) (lbin .eql t149 (.int .i64 2))) fun t150 =>
  ob (lpick t145 t150 (.bool false)) fun t151 =>
  cnd t151
  (some ((.int .i64 20),r123.2))
  (ob (lchk t130) fun t152 =>
  ob (loff t152 0) fun t153 =>
  ob (lload1 r123.2 t153) fun t154 =>
  ob (lbin .eql t154 (.int .i64 2)) fun t155 =>
  ob (gq (isB t155 true) (some t130)) fun t156 =>
  ob (gq (isB t155 true) (lchk t156)) fun t157 =>
  ob (gq (isB t155 true) (loff t157 6)) fun t158 =>
  ob (gq (isB t155 true) (lload1 r123.2 t158)) fun t159 =>
  ob (ge (isB t155 true) r123.2 (O fl [t159] r123.2)) fun r160 =>
  ob (gq (isB t155 true) (lbin .gtr r160.1 (.int .i64 0))) fun t161 =>
  ob (lpick t155 t161 (.bool false)) fun t162 =>
  cnd t162
  (some ((.int .i64 39),r160.2))
  (ob (O fa [(.ptr b 0),(.ptr t.p 0),(.str s2)] r160.2) fun r163 =>
  J25 r163.2)))))
  (J25 r123.2)) (RenP rk own H b st (m:Nat) s (mt:Nat) s2):=by
    intro hbel;rw[jn_eq,ht6,ob_some];refine Wp.call (hg _ H1 t.q lt s2 hDt (hL6 mt t lt hmt hlt)) ?_;rintro⟨v,H2⟩ ⟨q1,q2⟩;simp only at q1 q2 ⊢;subst q1;have h2:=h1.kp q2;have k2:=g2.tr q2;have endw:∀(own1:Nat->Nat) (K:Heap) (st1:Brs),Aft own H b (.tuple [],K) own1 st1->RenD st rk m s mt s2 n d t x l lt st1->Wp (ob (lload1 K (.ptr d.p 6)) fun t96 =>
      ob (O fde [t96,(.str s)] K) fun r97 =>
      ob (lload1 r97.2 (.ptr t.p 6)) fun t100 =>
      ob (O fse [t100,(.str s2),(.int .i64 (n:Nat))] r97.2) fun r101 =>
      jn (fun(H112:Heap) =>
      some ((IV.int .i64 0),H112)) fun J102 =>
      ob (lload1 r101.2 (.ptr x.p 0)) fun t115 =>
      ob (lbin .eql t115 (.int .i64 2)) fun t116 =>
      cnd t116
      (ob (lstV r101.2 1 (.ptr x.p 4) (.int .i64 (mt:Nat))) fun r119 =>
      J102 r119.2)
      (J102 r101.2)) (RenP rk own H b st (m:Nat) s (mt:Nat) s2):=by
     intro own1 K st1 hA hRD;refine(ren_end hde hse hK hE hR hL (by omega) hRD hA.ok).mono ?_;rintro⟨w,K2⟩ ⟨rfl,own2,hA2⟩;exact⟨own2,_,(hA.trans hA2).val _,⟨0,rfl⟩,.inr ⟨m,mt,n,d,t,x,l,lt,st1,rfl,rfl,hRD,rfl⟩⟩
    cases hlk2:lookD s2 lt with
    | none =>
     simp only[iextract_tuple,List.getElem?_cons_zero,List.getElem?_cons_succ,ob_some,lbin_eql];rw[decide_eq_false (by decide),cnd_false];exact endw own H2 st (Aft.none h k2) ⟨hm,hd2,hl,hlk,hn,hmt,ht2,hlt,hset,hbel,.inl ⟨hlk2,rfl⟩⟩
    | some v2 =>
     obtain⟨o,rfl,o2,o200,y,hoy,hy1,hy2,hyp⟩:=hE mt t lt s2 v2 hmt hlt hlk2;have hcello:st.cell o=.ptr y.p 0:=by unfold Brs.cell;rw[hoy]
     have hbto:=h2.ino_ptr o200;have hrowo:=nod_row h2 (nodI_nat h2 hoy);have hrowx:=nod_row h2 (nodI_nat h2 hn);have ey:lload1 H2 (.ptr y.p 0)=some (.int .i64 y.kind):=ld1 hrowo;have ex:lload1 H2 (.ptr x.p 0)=some (.int .i64 x.kind):=ld1 hrowx;simp only[iextract_tuple,List.getElem?_cons_zero,List.getElem?_cons_succ,ob_some,lbin_eql];rw[decide_eq_true trivial,cnd_true,lixa_ptr,if_pos (by omega),ob_some,show(1:Nat)+Int.toNat (o:Nat)*1=0+1+Int.toNat (o:Nat)*1 by omega,hbto,ob_some,hcello];refine Wp.dec (fun _=>bad 0 H2 k2) (fun hon=> ?_);simp only[lchk_ptr,loff_ptr,ob_some,Nat.zero_add,ey,lbin_eql,lbin_neq];have go:∀(K:Heap),K=H2->(y.kind=2↔x.kind=2)->(y.kind=2->y.dir=some [])->Wp (ob (O fa [(.ptr b 0),(.ptr t.p 0),(.str s2)] K) fun r163 =>
       ob (lload1 r163.2 (.ptr d.p 6)) fun t96 =>
       ob (O fde [t96,(.str s)] r163.2) fun r97 =>
       ob (lload1 r97.2 (.ptr t.p 6)) fun t100 =>
       ob (O fse [t100,(.str s2),(.int .i64 (n:Nat))] r97.2) fun r101 =>
       jn (fun(H112:Heap) =>
       some ((IV.int .i64 0),H112)) fun J102 =>
       ob (lload1 r101.2 (.ptr x.p 0)) fun t115 =>
       ob (lbin .eql t115 (.int .i64 2)) fun t116 =>
       cnd t116
       (ob (lstV r101.2 1 (.ptr x.p 4) (.int .i64 (mt:Nat))) fun r119 =>
       J102 r119.2)
       (J102 r101.2)) (RenP rk own H b st (m:Nat) s (mt:Nat) s2):=by
      rintro K rfl hkk hed;have homt:o≠mt:=fun e=>by
       subst e;rw[hmt]at hoy;cases hoy
       have:=hed ht2;rw[hlt]at this;cases this
       cases hlk2
      refine Wp.call (ha own K b st mt o t y lt s2 h2 hmt hlt (hK.nobody hmt ht2) (hL6 mt t lt hmt hlt) hlk2 hoy homt hy1 hy2 hfl) ?_;rintro⟨w,K3⟩ ⟨rfl,own1,hA⟩;exact endw own1 K3 _ (hA.kp k2) ⟨hm,hd2,hl,hlk,hn,hmt,ht2,hlt,hset,hbel,.inr ⟨o,y,hlk2,fun e=>hon (by rw[e]),hoy,hkk,hed,rfl⟩⟩
     by_cases hyk:y.kind=2
     ·rw[decide_eq_true hyk];simp only[isB_tt,isB_ft,gq_true,gq_false,ob_some,lchk_ptr,loff_ptr,Nat.zero_add,ex,lbin_neq,lpick_true,Bool.not_true,lpick_false];refine Wp.ndec (fun _=>bad 21 H2 k2) (fun hxk=> ?_);rw[cnd_false];obtain⟨ly,o',eo,ho',hly,hDy,_,hy6⟩:=dir_of h2 hK (nodI_nat h2 hoy) hyk;have hoo:o'=o:=by omega
      subst hoo;rw[hy6,ob_some];simp only[ge_true];rw[hl' _ H2 y.q ly hDy,ob_some];simp only;rw[lbin_gtr,ob_some];refine Wp.dec (fun _=>bad 39 H2 k2) (fun hlen=> ?_);have hly0:ly=[]:=List.length_eq_zero_iff.1 (by omega);exact go H2 rfl ⟨fun _=>hxk,fun _=>hyk⟩ fun _=>by rw[hly,hly0]
     ·rw[decide_eq_false hyk];simp only[isB_tt,isB_ft,gq_true,gq_false,ge_false,ob_some,lchk_ptr,loff_ptr,Nat.zero_add,ex,lbin_eql,lpick_true,Bool.not_false,lpick_false,cnd_false];refine Wp.dec (fun _=>bad 20 H2 k2) (fun hxk=> ?_);exact go H2 rfl ⟨fun h=>absurd h hyk,fun h=>absurd h hxk⟩ fun h=>absurd h hyk
   by_cases hxk:x.kind=2
   ·rw[decide_eq_true hxk];simp only[isB_tt,gq_true,ge_true,ob_some];rw[hb own H1 b st rk mt t (n:Nat) h1 hR hmt ht2,ob_some];simp only;rw[lpick_true,ob_some]
    cases hbl:upC st (rk mt+1) mt (n:Nat)with
    | true=>rw[cnd_true];exact bad 22 H1 g2
    | false=>rw[cnd_false];exact mid fun _=>hbl
   ·rw[decide_eq_false hxk];simp only[isB_ft,gq_false,ge_false,ob_some,lpick_false,cnd_false];exact mid fun h=>absurd h hxk
end
end Go.Shade
namespace Go.Shade
variable {c : Nat} {l : Dr} {s : Nam} {st : Brs}
def cntD (l:Dr)(n:Nat):Nat:=(l.filter fun e=>decide (e.2=(n:Int))).length
def cntO (o:Option Nod)(n:Nat):Nat:=match o with
 | some x=>(match x.dir with
  | some l=>cntD l n
  | none=>0)
 | none=>0
def sumN :Nat->(Nat->Nat)->Nat
 | 0,_=>0
 | k+1,f=>sumN k f+f k
def cntE (st:Brs)(n:Nat):Nat:=sumN 201 fun i=>cntO (st.nod i) n
theorem sumN_congr :∀(k:Nat) {f g:Nat->Nat},(∀i,i<k->f i=g i)->sumN k f=sumN k g
 | 0,_,_,_=>rfl
 | k+1,f,g,h=>by simp only[sumN];rw[sumN_congr k fun i hi=>h i (by omega),h k (by omega)]
theorem sumN_upd :∀(k:Nat) {f g:Nat->Nat} {i:Nat},i<k->(∀j,j≠i->g j=f j)->sumN k g+f i=sumN k f+g i
 | 0,_,_,_,h,_=>by omega
 | k+1,f,g,i,hi,h=>by
  simp only[sumN];by_cases e:i=k
  ·subst e;rw[sumN_congr i fun j hj=>h j (by omega)];omega
  ·have:=sumN_upd k (f:=f) (g:=g) (i:=i) (by omega) h;rw[h k (by omega)];omega
theorem sumN_ge :∀(k:Nat) {f:Nat->Nat} {i:Nat},i<k->f i<=sumN k f
 | 0,_,_,h=>by omega
 | k+1,f,i,hi=>by
  simp only[sumN];by_cases e:i=k
  ·subst e;omega
  ·have:=sumN_ge k (f:=f) (i:=i) (by omega);omega
theorem cntE_put {i:Nat}{o:Option Nod}{n:Nat}(hi:i<201):cntE (st.put i o) n+cntO (st.nod i) n=cntE st n+cntO o n:=by
 unfold cntE;have:=sumN_upd 201 (f:=fun i=>cntO (st.nod i) n) (g:=fun j=>cntO ((st.put i o).nod j) n) (i:=i) hi (fun j hj=>by show cntO ((st.put i o).nod j) n=cntO (st.nod j) n;rw[Brs.put_ne _ _ hj]);have h2:cntO ((st.put i o).nod i) n=cntO o n:=by rw[Brs.put_same]
 rw[←h2];exact this
theorem cntD_cons (e:Nam×Int)(l:Dr)(n:Nat):cntD (e::l) n=(if e.2=(n:Int)then 1 else 0)+cntD l n:=by
 unfold cntD;rw[List.filter_cons];by_cases h:e.2=(n:Int)
 ·rw[if_pos (by simpa using h),if_pos h,List.length_cons];omega
 ·rw[if_neg (by simpa using h),if_neg h];omega
theorem cntD_set {s:Nam}{v:Int}{n:Nat}:∀{l:Dr},lookD s l=none->cntD (setD s v l) n=cntD l n+(if v=(n:Int)then 1 else 0)
 | [],_=>by show cntD [(s,v)] n=_;rw[cntD_cons];simp only[cntD];simp;
 | e::l,h=>by
  unfold lookD at h;split at h
  ·cases h
  ·rename_i hne;unfold setD;split
   ·rw[cntD_cons,cntD_cons,cntD_set h];omega
   ·rw[cntD_cons];simp only;omega
theorem cntD_del {s:Nam}{v:Int}{n:Nat}:∀{l:Dr},lookD s l=some v->cntD (delD s l) n+(if v=(n:Int)then 1 else 0)=cntD l n
 | [],h=>by cases h
 | e::l,h=>by
  unfold lookD at h;unfold delD;split at h
  ·rename_i he
   cases h
   rw[if_pos he,cntD_cons];omega
  ·rename_i hne;rw[if_neg hne,cntD_cons,cntD_cons];have:=cntD_del (n:=n) h;omega
theorem cntD_pos {s:Nam}{n:Nat}:∀{l:Dr},lookD s l=some (n:Int)->1<=cntD l n
 | [],h=>by cases h
 | e::l,h=>by
  unfold lookD at h;rw[cntD_cons];split at h
  ·injection h with h;rw[if_pos h];omega
  ·have:=cntD_pos h;omega
theorem cntE_pos {i n:Nat}{x:Nod}(hi:i<201)(hx:st.nod i=some x)(hl:x.dir=some l)(hk:lookD s l=some (n:Int)):1<=cntE st n:=by
 have this:cntO (st.nod i) n<=sumN 201 (fun i=>cntO (st.nod i) n):=sumN_ge 201 (f:=fun i=>cntO (st.nod i) n) hi;have h2:cntO (st.nod i) n=cntD l n:=by rw[hx];unfold cntO;simp only[hl]
 have h3:=cntD_pos hk;unfold cntE;omega
theorem lookD_set {s t:Nam}{v:Int}:∀{l:Dr},lookD t (setD s v l)=if s=t then some v else lookD t l
 | []=>by
  show(if s=t then some v else none)=_;rfl
 | e::l=>by
  unfold setD;split
  ·rename_i hlt;show(if e.1=t then some e.2 else lookD t (setD s v l))=_;rw[lookD_set (l:=l)];by_cases h1:s=t
   ·subst h1;rw[if_neg (ltne hlt),if_pos rfl,if_pos rfl]
   ·rw[if_neg h1,if_neg h1];rfl
  ·split
   ·rename_i he;show(if s=t then some v else lookD t l)=if s=t then some v else(if e.1=t then some e.2 else lookD t l)
    by_cases h1:s=t
    ·rw[if_pos h1,if_pos h1]
    ·rw[if_neg h1,if_neg h1,if_neg (fun h2=>h1 (he.symm.trans h2))]
   ·rfl
theorem lookD_mem {s:Nam}{v:Int}:∀{l:Dr},lookD s l=some v->(s,v)∈l
 | [],h=>by cases h
 | e::l,h=>by
  unfold lookD at h;split at h
  ·rename_i he;cases h;rw[←he];exact List.mem_cons_self ..
  ·exact List.mem_cons_of_mem _ (lookD_mem h)
theorem lookD_of_mem :∀{l:Dr} {e:Nam×Int},e∈l->∃v,lookD e.1 l=some v
 | [],e,h=>by cases h
 | f::l,e,h=>by
  unfold lookD;split
  ·exact⟨_,rfl⟩
  ·rename_i hne;rcases List.mem_cons.1 h with rfl | h
   ·exact absurd rfl hne
   ·exact lookD_of_mem h
theorem lookD_srt :∀{l:Dr} {e:Nam×Int},SrtD l->e∈l->lookD e.1 l=some e.2
 | [],e,_,h=>by cases h
 | f::l,e,hs,h=>by
  unfold lookD;rcases List.mem_cons.1 h with rfl | h
  ·rw[if_pos rfl]
  ·have:=hs.1 e h;rw[if_neg (ltne this)];exact lookD_srt hs.2 h
theorem lookD_del_self {s:Nam}:∀{l:Dr},SrtD l->lookD s (delD s l)=none
 | [],_=>rfl
 | e::l,h=>by
  unfold delD;split
  ·rename_i he
   cases hk:lookD s l with
   | none=>rfl
   | some v =>
    have:=h.1 _ (lookD_mem hk);simp only[he,cmpB_self]at this;omega
  ·rename_i hne;show(if e.1=s then some e.2 else lookD s (delD s l))=none;rw[if_neg hne,lookD_del_self h.2]
theorem lookD_del_some {t:Nam}{v:Int}(hs:SrtD l)(h:lookD t (delD s l)=some v):t≠s/\lookD t l=some v:=by
 by_cases e:t=s
 ·subst e;rw[lookD_del_self hs]at h;cases h
 ·exact⟨e,by rw[←lookD_del e];exact h⟩
theorem setD_len (s:Nam)(v:Int):∀l:Dr,(setD s v l).length<=l.length+1
 | []=>by simp[setD]
 | e::l=>by
  unfold setD;split
  ·have:=setD_len s v l;simp;omega
  ·split<;>simp
theorem pigeon :∀(n:Nat) (l:List Int),l.Nodup->(∀v∈l,0<=v/\v<n)->l.length<=n
 | 0,l,_,h=>by
  cases l with
  | nil=>simp
  | cons v l=>have:=h v (by simp);omega
 | n+1,l,hd,h=>by
  have h1:=pigeon n (l.erase (n:Int)) (hd.sublist (List.erase_sublist)) fun v hv=>by
   have hm:=List.mem_of_mem_erase hv;have:=h v hm;have:v≠n:=fun e=>by
    subst e;exact(List.Nodup.not_mem_erase hd) hv
   omega
  have h2:=List.length_erase (a:=(n:Int)) (l:=l);split at h2<;>omega
def SrtN (l:Dr):Prop:=SrtD l/\∀e∈l,e.1.length<=60
theorem setErr_len (h:setErr s=0):s.length<=60:=by
 have h1:nameErr s=0:=by
  unfold setErr at h;split at h
  ·rename_i hn;exact absurd h hn
  ·rename_i hn;exact Decidable.not_not.1 hn
 unfold nameErr at h1;split at h1
 ·cases h1
 ·split at h1
  ·cases h1
  ·omega
theorem mem_setD {s:Nam}{v:Int}{e:Nam×Int}:∀{l:Dr},e∈setD s v l->e.1=s∨e∈l
 | [],h=>by simp only[setD,List.mem_singleton]at h;exact .inl (by rw[h])
 | x::l,h=>by
  unfold setD at h;split at h
  ·rcases List.mem_cons.1 h with rfl | h
   ·exact .inr (by simp)
   ·exact(mem_setD h).imp (fun h=>h) (List.mem_cons_of_mem _)
  ·split at h
   ·rcases List.mem_cons.1 h with rfl | h
    ·exact .inl rfl
    ·exact .inr (List.mem_cons_of_mem _ h)
   ·rcases List.mem_cons.1 h with rfl | h
    ·exact .inl rfl
    ·exact .inr h
theorem mem_delD {s:Nam}{e:Nam×Int}:∀{l:Dr},e∈delD s l->e∈l
 | [],h=>h
 | x::l,h=>by
  unfold delD at h;split at h
  ·exact List.mem_cons_of_mem _ h
  ·rcases List.mem_cons.1 h with rfl | h
   ·simp
   ·exact List.mem_cons_of_mem _ (mem_delD h)
theorem SrtN.set {v:Int}(h:SrtN l)(hs:setErr s=0):SrtN (setD s v l) :=
 ⟨setD_srt h.1,fun e he=>(mem_setD he).elim (fun e'=>by rw[e'];exact setErr_len hs) (h.2 e)⟩
theorem SrtN.del (h:SrtN l):SrtN (delD s l):=⟨delD_srt h.1,fun e he=>h.2 e (mem_delD he)⟩
structure BInv (c:Nat)(st:Brs):Prop where
 ki:KInv st
 len:LenInv c st
 free:∀it∈st.free,∃n:Nat,it.n=(n:Nat)/\2<=n/\n<=200/\st.nod n=none
 fnd:(st.free.map (·.n)).Nodup
 root:∃x,st.nod 1=some x/\x.kind=2
 ran:∀i x,st.nod i=some x->1<=i/\i<=200
 hold:∀i x,st.nod i=some x->x.holds=0
 lnk:∀i x,st.nod i=some x->i≠1->x.links=(cntE st i:Nat)/\1<=x.links/\x.links<=20/\(x.kind=2->x.links=1)
 rl:∀x,st.nod 1=some x->1<=x.links/\x.links<=20
 ent:∀i x l s v,st.nod i=some x->x.dir=some l->lookD s l=some v->∃n:Nat,v=(n:Nat)/\2<=n/\n<=200/\∃y,st.nod n=some y/\(y.kind=2->y.parent=(i:Nat))
 par:∀n y,st.nod n=some y->y.kind=2->n≠1->∃(p:Nat) (x:Nod) (l:Dr) (s:Nam),y.parent=(p:Nat)/\st.nod p=some x/\x.dir=some l/\lookD s l=some ((n:Nat):Int)
 rank:∃rk,RankInv st rk
 srt:∀i x l,st.nod i=some x->x.dir=some l->SrtN l
theorem BInv.flen (h:BInv c st):st.free.length<=201:=by
 have:=pigeon 201 (st.free.map (·.n)) h.fnd fun v hv=>by
  obtain⟨it,hi,rfl⟩:=List.mem_map.1 hv;obtain⟨n,e,_,_,_⟩:=h.free it hi;omega
 simpa using this
theorem BInv.fi (h:BInv c st):FreeInv st:=⟨h.free,h.fnd,by have:=h.flen;omega⟩
theorem BInv.ei (h:BInv c st):EntInv st:=fun i x l s v hx hl hk=>by
 obtain⟨n,e,n2,n200,y,hy,hp⟩:=h.ent i x l s v hx hl hk;obtain⟨_,a,b,_⟩:=h.lnk n y hy (by omega);exact⟨n,e,n2,n200,y,hy,a,by omega,hp⟩
theorem BInv.mono {c':Nat}(h:BInv c st)(hc:c<=c'):BInv c' st:= { h with len:=fun i x l a b=>Nat.le_trans (h.len i x l a b) hc }
end Go.Shade
namespace Go.Shade
theorem put_cases {st:Brs}{i k:Nat}{o:Option Nod}{y:Nod}(h:(st.put i o).nod k=some y):(k=i/\o=some y)∨(k≠i/\st.nod k=some y):=by
 by_cases e:k=i
 ·subst e;rw[Brs.put_same]at h;exact .inl ⟨rfl,h⟩
 ·rw[Brs.put_ne _ _ e]at h;exact .inr ⟨e,h⟩
theorem BInv.mark {c:Nat}{st:Brs}(h:BInv c st){i:Nat}{x:Nod}(hx:st.nod i=some x)(v:Int):BInv c (st.put i (some { x with marks:=v })):=by
 have key:∀k y,(st.put i (some { x with marks:=v })).nod k=some y->∃z,st.nod k=some z/\y.kind=z.kind/\y.links=z.links/\y.holds=z.holds/\y.parent=z.parent/\y.body=z.body/\y.dir=z.dir:=by
  intro k y hy;rcases put_cases hy with⟨rfl,e⟩ | ⟨_,e⟩
  ·cases e;exact⟨x,hx,rfl,rfl,rfl,rfl,rfl,rfl⟩
  ·exact⟨y,e,rfl,rfl,rfl,rfl,rfl,rfl⟩
 have back:∀k z,st.nod k=some z->∃y,(st.put i (some { x with marks:=v })).nod k=some y/\y.kind=z.kind/\y.links=z.links/\y.parent=z.parent/\y.dir=z.dir:=by
  intro k z hz;by_cases e:k=i
  ·subst e;rw[hx]at hz;cases hz;exact⟨_,Brs.put_same _ _ _,rfl,rfl,rfl,rfl⟩
  ·exact⟨z,by rw[Brs.put_ne _ _ e];exact hz,rfl,rfl,rfl,rfl⟩
 have hc:∀n,cntE (st.put i (some { x with marks:=v })) n=cntE st n:=by
  intro n;have:=cntE_put (st:=st) (i:=i) (o:=some { x with marks:=v }) (n:=n) (by have:=h.ran i x hx;omega);have h2:cntO (some { x with marks:=v }) n=cntO (st.nod i) n:=by rw[hx];rfl
  omega
 obtain⟨rk,hR⟩:=h.rank;refine⟨⟨fun k y hy=> ?_,fun k y hy=> ?_,fun k y hy=> ?_⟩,fun k y l hy hl=> ?_,fun it hi=> ?_,h.fnd,?_,fun k y hy=> ?_,fun k y hy=> ?_,fun k y hy h1=> ?_,fun y hy=> ?_,fun k y l s w hy hl hk=> ?_,fun n y hy hk h1=> ?_,⟨rk,fun k y hy hk h1=> ?_⟩,fun k y l hy hl=> ?_⟩
 ·obtain⟨z,hz,e1,e2,e3,e4,e5,e6⟩:=key k y hy;rw[e1,e6];exact h.ki.dir k z hz
 ·obtain⟨z,hz,e1,e2,e3,e4,e5,e6⟩:=key k y hy;rw[e1,e5];exact h.ki.body k z hz
 ·obtain⟨z,hz,e1,e2,e3,e4,e5,e6⟩:=key k y hy;rw[e1];exact h.ki.kind k z hz
 ·obtain⟨z,hz,e1,e2,e3,e4,e5,e6⟩:=key k y hy;exact h.len k z l hz (e6▸hl)
 ·obtain⟨n,e,a,b,c⟩:=h.free it hi;refine⟨n,e,a,b,?_⟩;rw[Brs.put_ne _ _ (fun e=>by subst e;rw[hx]at c;cases c)];exact c
 ·obtain⟨z,hz,hk⟩:=h.root;obtain⟨y,hy,e1,_⟩:=back 1 z hz;exact⟨y,hy,by rw[e1];exact hk⟩
 ·obtain⟨z,hz,_⟩:=key k y hy;exact h.ran k z hz
 ·obtain⟨z,hz,e1,e2,e3,_⟩:=key k y hy;rw[e3];exact h.hold k z hz
 ·obtain⟨z,hz,e1,e2,e3,_⟩:=key k y hy;rw[hc,e1,e2];exact h.lnk k z hz h1
 ·obtain⟨z,hz,e1,e2,_⟩:=key 1 y hy;rw[e2];exact h.rl z hz
 ·obtain⟨z,hz,e1,e2,e3,e4,e5,e6⟩:=key k y hy;obtain⟨n,a,b,c,y',d,e⟩:=h.ent k z l s w hz (e6▸hl) hk;obtain⟨y'',f1,f2,f3,f4,f5⟩:=back n y' d;exact⟨n,a,b,c,y'',f1,by rw[f2,f4];exact e⟩
 ·obtain⟨z,hz,e1,e2,e3,e4,e5,e6⟩:=key n y hy;obtain⟨p,x',l,s,a,b,c,d⟩:=h.par n z hz (e1▸hk) h1;obtain⟨y'',f1,f2,f3,f4,f5⟩:=back p x' b;exact⟨p,y'',l,s,by rw[e4];exact a,f1,by rw[f5];exact c,d⟩
 ·obtain⟨z,hz,e1,e2,e3,e4,e5,e6⟩:=key k y hy;obtain⟨p,a,b,c,y',d,e⟩:=hR k z hz (e1▸hk) h1;obtain⟨y'',f1,f2,f3,f4,f5⟩:=back p y' d;exact⟨p,by rw[e4];exact a,b,c,y'',f1,by rw[f2];exact e⟩
 ·obtain⟨z,hz,e1,e2,e3,e4,e5,e6⟩:=key k y hy;exact h.srt k z l hz (e6▸hl)
theorem popL_drop {fr:List It}{it:It}(h:popL fr=(popL fr).dropLast++[it]):it∈fr/\(∀i∈(popL fr).dropLast,i∈fr)/\((fr.map (·.n)).Nodup->((popL fr).dropLast.map (·.n)).Nodup/\∀i∈(popL fr).dropLast,i.n≠it.n):=by
 have hp:=popL_perm fr;refine⟨hp.mem_iff.1 (by rw[h];simp),fun i hi=>hp.mem_iff.1 (by rw[h];exact List.mem_append_left _ hi),fun hn=> ?_⟩;have h2:((popL fr).map (·.n)).Nodup:=(hp.map (·.n)).nodup_iff.2 hn;rw[h,List.map_append,List.nodup_append]at h2;exact⟨h2.1,fun i hi=>h2.2.2 _ (List.mem_map.2 ⟨i,hi,rfl⟩) _ (by simp)⟩
theorem BInv.make {c:Nat}{st:Brs}(h:BInv c st){m n:Nat}{d x:Nod}{l:Dr}{it:It}{s:Nam}{kind:Int}{target:Nam}(hm:st.nod m=some d)(hmk:d.kind=2)(hl:d.dir=some l)(hse:setErr s=0)(hlk:lookD s l=none)(hpop:popL st.free=(popL st.free).dropLast++[it])(hit:it.n=(n:Nat))(hk1:1<=kind)(hk4:kind<=4)(hx:MkNode kind (m:Nat) target x) :
  BInv (c+1) ((({ st with free:=(popL st.free).dropLast }:Brs).put n (some x)).put m (some { d with dir:=some (setD s (n:Nat) l) })):=by
 obtain⟨p1,p2,p3⟩:=popL_drop hpop;obtain⟨n',e,n2,n200,hnn⟩:=h.free it p1;obtain rfl:n'=n:=by omega
 obtain⟨q1,q2⟩:=p3 h.fnd;have hmn:m≠n':=fun e=>by subst e;rw[hm]at hnn;cases hnn
 have hm1:=h.ran m d hm;have hx0:x.dir=none∨x.dir=some []:=by
  rw[hx.dir];by_cases e:kind=2
  ·rw[if_pos e];exact .inr rfl
  ·rw[if_neg e];exact .inl rfl
 generalize hst:((({ st with free:=(popL st.free).dropLast }:Brs).put n' (some x)).put m (some { d with dir:=some (setD s (n':Nat) l) }))=st';have hfree:st'.free=(popL st.free).dropLast:=by rw[←hst];rfl
 have nm:st'.nod m=some { d with dir:=some (setD s (n':Nat) l) }:=by rw[←hst];exact Brs.put_same _ _ _
 have nn:st'.nod n'=some x:=by rw[←hst,Brs.put_ne _ _ (fun e=>hmn e.symm)];exact Brs.put_same _ _ _
 have no:∀k,k≠m->k≠n'->st'.nod k=st.nod k:=fun k a b=>by rw[←hst,Brs.put_ne _ _ a,Brs.put_ne _ _ b]
 have cs:∀k y,st'.nod k=some y->(k=m/\y= { d with dir:=some (setD s (n':Nat) l) })∨(k=n'/\y=x)∨(k≠m/\k≠n'/\st.nod k=some y):=by
  intro k y hy;by_cases e1:k=m
  ·subst e1;rw[nm]at hy;cases hy;exact .inl ⟨rfl,rfl⟩
  ·by_cases e2:k=n'
   ·subst e2;rw[nn]at hy;cases hy;exact .inr (.inl ⟨rfl,rfl⟩)
   ·rw[no k e1 e2]at hy;exact .inr (.inr ⟨e1,e2,hy⟩)
 have back:∀k z,st.nod k=some z->∃y,st'.nod k=some y/\y.kind=z.kind/\y.parent=z.parent:=by
  intro k z hz;by_cases e1:k=m
  ·subst e1;rw[hm]at hz;cases hz;exact⟨_,nm,rfl,rfl⟩
  ·have e2:k≠n':=fun e=>by subst e;rw[hnn]at hz;cases hz
   exact⟨z,by rw[no k e1 e2];exact hz,rfl,rfl⟩
 have hcnt:∀k,cntE st' k=cntE st k+(if(n':Int)=(k:Int)then 1 else 0):=by
  intro k;have c1:=cntE_put (st:=(({ st with free:=(popL st.free).dropLast }:Brs).put n' (some x))) (i:=m) (o:=some { d with dir:=some (setD s (n':Nat) l) }) (n:=k) (by omega);rw[hst,Brs.put_ne _ _ hmn]at c1;have c2:=cntE_put (st:=({ st with free:=(popL st.free).dropLast }:Brs)) (i:=n') (o:=some x) (n:=k) (by omega);have c3:cntE ({ st with free:=(popL st.free).dropLast }:Brs) k=cntE st k:=rfl;have c4:cntO (({ st with free:=(popL st.free).dropLast }:Brs).nod n') k=0:=by show cntO (st.nod n') k=0;rw[hnn];rfl
  have c5:cntO (some x) k=0:=by unfold cntO;rcases hx0 with e | e<;>simp only[e]<;>rfl
  have c6:cntO (({ st with free:=(popL st.free).dropLast }:Brs).nod m) k=cntD l k:=by show cntO (st.nod m) k=_;rw[hm];unfold cntO;simp only[hl]
  have c7:cntO (some { d with dir:=some (setD s (n':Nat) l) }) k=cntD (setD s (n':Nat) l) k:=rfl;have c8:=cntD_set (s:=s) (v:=(n':Nat)) (n:=k) hlk;omega
 have hn0:cntE st n'=0:=by
  have:∀(k:Nat) (f:Nat->Nat),(∀i,i<k->f i=0)->sumN k f=0:=by
   intro k f hf
   induction k with
   | zero=>rfl
   | succ k ih=>simp only[sumN];rw[ih fun i hi=>hf i (by omega),hf k (by omega)]
  refine this 201 _ fun i hi=> ?_
  cases hz:st.nod i with
  | none=>rfl
  | some z =>
   unfold cntO
   cases hzl:z.dir with
   | none=>simp only[hzl]
   | some lz =>
    simp only[hzl]
    cases hc:cntD lz n' with
    | zero=>rfl
    | succ j =>
     exfalso
     unfold cntD at hc;have hne:(lz.filter fun e=>decide (e.2=(n':Int)))≠ []:=fun e=>by rw[e]at hc;cases hc
     obtain⟨e,he⟩:=List.exists_mem_of_ne_nil _ hne;rw[List.mem_filter]at he;have he2:e.2=(n':Int):=by simpa using he.2
     obtain⟨v,hv⟩:=lookD_of_mem he.1;obtain⟨w,e1,_,_,y,hy,_⟩:=h.ent i z lz e.1 v hz hzl hv;have:=lookD_srt (h.srt i z lz hz hzl).1 he.1;rw[this]at hv;cases hv
     have:w=n':=by omega
     subst this;rw[hnn]at hy;cases hy
 obtain⟨rk,hR⟩:=h.rank;refine⟨⟨fun k y hy=> ?_,fun k y hy=> ?_,fun k y hy=> ?_⟩,fun k y l' hy hl'=> ?_,fun i hi=> ?_,by rw[hfree];exact q1,?_,fun k y hy=> ?_,fun k y hy=> ?_,fun k y hy h1=> ?_,fun y hy=> ?_,fun k y l' s' w hy hl' hk=> ?_,fun k y hy hk h1=> ?_,⟨fun k=>if k=n' then rk m+1 else rk k,fun k y hy hk h1=> ?_⟩,fun k y l' hy hl'=> ?_⟩
 ·rcases cs k y hy with⟨rfl,rfl⟩ | ⟨rfl,rfl⟩ | ⟨_,_,hz⟩
  ·simp only[hmk];simp
  ·rw[hx.kind,hx.dir];by_cases e:kind=2<;>simp[e]
  ·exact h.ki.dir k y hz
 ·rcases cs k y hy with⟨rfl,rfl⟩ | ⟨rfl,rfl⟩ | ⟨_,_,hz⟩
  ·exact h.ki.body k d hm
  ·rw[hx.kind,hx.body];simp
  ·exact h.ki.body k y hz
 ·rcases cs k y hy with⟨rfl,rfl⟩ | ⟨rfl,rfl⟩ | ⟨_,_,hz⟩
  ·exact h.ki.kind k d hm
  ·rw[hx.kind];exact⟨hk1,hk4⟩
  ·exact h.ki.kind k y hz
 ·rcases cs k y hy with⟨rfl,rfl⟩ | ⟨rfl,rfl⟩ | ⟨_,_,hz⟩
  ·cases hl'
   have:=setD_len s (n':Nat) l;have:=h.len k d l hm hl;omega
  ·rcases hx0 with e | e
   ·rw[e]at hl';cases hl'
   ·rw[e]at hl';cases hl';simp
  ·have:=h.len k y l' hz hl';omega
 ·rw[hfree]at hi;obtain⟨j,e1,a,b,c'⟩:=h.free i (p2 i hi);have hj:j≠n':=fun e2=>by subst e2;exact q2 i hi (by rw[e1,hit])
  have hj2:j≠m:=fun e2=>by subst e2;rw[hm]at c';cases c'
  exact⟨j,e1,a,b,by rw[no j hj2 hj];exact c'⟩
 ·obtain⟨z,hz,hk⟩:=h.root;obtain⟨y,hy,e1,_⟩:=back 1 z hz;exact⟨y,hy,by rw[e1];exact hk⟩
 ·rcases cs k y hy with⟨rfl,rfl⟩ | ⟨rfl,rfl⟩ | ⟨_,_,hz⟩
  ·exact hm1
  ·omega
  ·exact h.ran k y hz
 ·rcases cs k y hy with⟨rfl,rfl⟩ | ⟨rfl,rfl⟩ | ⟨_,_,hz⟩
  ·exact h.hold k d hm
  ·exact hx.holds
  ·exact h.hold k y hz
 ·rcases cs k y hy with⟨rfl,rfl⟩ | ⟨rfl,rfl⟩ | ⟨a,b,hz⟩
  ·rw[hcnt,if_neg (by omega),Nat.add_zero];exact h.lnk k d hm h1
  ·rw[hcnt,if_pos rfl,hn0,hx.links];exact⟨rfl,by omega,by omega,fun _=>rfl⟩
  ·rw[hcnt,if_neg (by omega),Nat.add_zero];exact h.lnk k y hz h1
 ·rcases cs 1 y hy with⟨e,rfl⟩ | ⟨e,rfl⟩ | ⟨_,_,hz⟩
  ·subst e;exact h.rl d hm
  ·omega
  ·exact h.rl y hz
 ·rcases cs k y hy with⟨rfl,rfl⟩ | ⟨rfl,rfl⟩ | ⟨_,_,hz⟩
  ·cases hl'
   rw[lookD_set]at hk;split at hk
   ·cases hk
    exact⟨n',rfl,n2,n200,x,nn,fun e=>by rw[hx.parent,if_pos (by rw[←hx.kind];exact e)]⟩
   ·obtain⟨j,a,b,c',y',dd,e⟩:=h.ent k d l s' w hm hl hk;obtain⟨y'',f1,f2,f3⟩:=back j y' dd;exact⟨j,a,b,c',y'',f1,by rw[f2,f3];exact e⟩
  ·rcases hx0 with e | e
   ·rw[e]at hl';cases hl'
   ·rw[e]at hl';cases hl';cases hk
  ·obtain⟨j,a,b,c',y',dd,e⟩:=h.ent k y l' s' w hz hl' hk;obtain⟨y'',f1,f2,f3⟩:=back j y' dd;exact⟨j,a,b,c',y'',f1,by rw[f2,f3];exact e⟩
 ·have old:∀z,st.nod k=some z->z.kind=2->y.parent=z.parent->∃(p:Nat) (x:Nod) (l:Dr) (s:Nam),y.parent=(p:Nat)/\st'.nod p=some x/\x.dir=some l/\lookD s l=some (k:Int):=by
   intro z hz hzk hzp;obtain⟨p,x',l',s',a,b,c',dd⟩:=h.par k z hz hzk h1;by_cases e:p=m
   ·subst e;rw[hm]at b;cases b
    rw[hl]at c';cases c'
    refine⟨p,_,_,s',by rw[hzp];exact a,nm,rfl,?_⟩;rw[lookD_set,if_neg (fun e=>by subst e;rw[hlk]at dd;cases dd)];exact dd
   ·have:p≠n':=fun e=>by subst e;rw[hnn]at b;cases b
    exact⟨p,x',l',s',by rw[hzp];exact a,by rw[no p e this];exact b,c',dd⟩
  rcases cs k y hy with⟨rfl,rfl⟩ | ⟨rfl,rfl⟩ | ⟨_,_,hz⟩
  ·exact old d hm hmk rfl
  ·refine⟨m,_,_,s,by rw[hx.parent,if_pos (by rw[←hx.kind];exact hk)],nm,rfl,?_⟩;rw[lookD_set,if_pos rfl]
  ·exact old y hz hk rfl
 ·have old:∀z,st.nod k=some z->z.kind=2->y.parent=z.parent->∃p:Nat,y.parent=(p:Nat)/\(if p=n' then rk m+1 else rk p)<(if k=n' then rk m+1 else rk k)/\p<=200/\∃y,st'.nod p=some y/\y.kind=2:=by
   intro z hz hzk hzp;obtain⟨p,a,b,c',y',dd,e⟩:=hR k z hz hzk h1;obtain⟨y'',f1,f2,f3⟩:=back p y' dd;have h3:p≠n':=fun e=>by subst e;rw[hnn]at dd;cases dd
   have h4:k≠n':=fun e=>by subst e;rw[hnn]at hz;cases hz
   exact⟨p,by rw[hzp];exact a,by rw[if_neg h3,if_neg h4];exact b,c',y'',f1,by rw[f2];exact e⟩
  rcases cs k y hy with⟨rfl,rfl⟩ | ⟨rfl,rfl⟩ | ⟨_,_,hz⟩
  ·exact old d hm hmk rfl
  ·exact⟨m,by rw[hx.parent,if_pos (by rw[←hx.kind];exact hk)],by show(if m=k then rk m+1 else rk m)<(if k=k then rk m+1 else rk k);rw[if_neg hmn,if_pos rfl];omega,hm1.2,_,nm,hmk⟩
  ·exact old y hz hk rfl
 ·rcases cs k y hy with⟨rfl,rfl⟩ | ⟨rfl,rfl⟩ | ⟨_,_,hz⟩
  ·cases hl';exact(h.srt k d l hm hl).set hse
  ·rcases hx0 with e | e
   ·rw[e]at hl';cases hl'
   ·rw[e]at hl';cases hl';exact⟨trivial,fun _ h=>by cases h⟩
  ·exact h.srt k y l' hz hl'
end Go.Shade
namespace Go.Shade
theorem BInv.link {c:Nat}{st:Brs}(h:BInv c st){m n:Nat}{d x:Nod}{l:Dr}{s:Nam}(hm:st.nod m=some d)(hmk:d.kind=2)(hl:d.dir=some l)(hse:setErr s=0)(hlk:lookD s l=none)(hn:st.nod n=some x)(hxk:x.kind≠2)(hx20:x.links<20)(hx0:x.links≠0) :
  BInv (c+1) ((st.put n (some { x with links:=IntKind.wrap .i64 (x.links+1) })).put m (some { d with dir:=some (setD s (n:Nat) l) })):=by
 have hmn:m≠n:=fun e=>by subst e;rw[hm]at hn;cases hn;exact hxk hmk
 have hm1:=h.ran m d hm;have hn1:=h.ran n x hn;obtain⟨xr,hxr,hxrk⟩:=h.root;have hn1':n≠1:=fun e=>by subst e;rw[hxr]at hn;cases hn;exact hxk hxrk
 obtain⟨xl1,xl2,xl3,_⟩:=h.lnk n x hn hn1';rw[wrap_i64 (by omega) (by omega)];have hxd:x.dir=none:=by
  cases e:x.dir with
  | none=>rfl
  | some z=>exact absurd ((h.ki.dir n x hn).2 (by rw[e];rfl)) hxk
 generalize hst:((st.put n (some { x with links:=x.links+1 })).put m (some { d with dir:=some (setD s (n:Nat) l) }))=st';have hfree:st'.free=st.free:=by rw[←hst];rfl
 have nm:st'.nod m=some { d with dir:=some (setD s (n:Nat) l) }:=by rw[←hst];exact Brs.put_same _ _ _
 have nn:st'.nod n=some { x with links:=x.links+1 }:=by rw[←hst,Brs.put_ne _ _ (fun e=>hmn e.symm)];exact Brs.put_same _ _ _
 have no:∀k,k≠m->k≠n->st'.nod k=st.nod k:=fun k a b=>by rw[←hst,Brs.put_ne _ _ a,Brs.put_ne _ _ b]
 have cs:∀k y,st'.nod k=some y->(k=m/\y= { d with dir:=some (setD s (n:Nat) l) })∨(k=n/\y= { x with links:=x.links+1 })∨(k≠m/\k≠n/\st.nod k=some y):=by
  intro k y hy;by_cases e1:k=m
  ·subst e1;rw[nm]at hy;cases hy;exact .inl ⟨rfl,rfl⟩
  ·by_cases e2:k=n
   ·subst e2;rw[nn]at hy;cases hy;exact .inr (.inl ⟨rfl,rfl⟩)
   ·rw[no k e1 e2]at hy;exact .inr (.inr ⟨e1,e2,hy⟩)
 have back:∀k z,st.nod k=some z->∃y,st'.nod k=some y/\y.kind=z.kind/\y.parent=z.parent:=by
  intro k z hz;by_cases e1:k=m
  ·subst e1;rw[hm]at hz;cases hz;exact⟨_,nm,rfl,rfl⟩
  ·by_cases e2:k=n
   ·subst e2;rw[hn]at hz;cases hz;exact⟨_,nn,rfl,rfl⟩
   ·exact⟨z,by rw[no k e1 e2];exact hz,rfl,rfl⟩
 have hcnt:∀k,cntE st' k=cntE st k+(if(n:Int)=(k:Int)then 1 else 0):=by
  intro k;have c1:=cntE_put (st:=st.put n (some { x with links:=x.links+1 })) (i:=m) (o:=some { d with dir:=some (setD s (n:Nat) l) }) (n:=k) (by omega);rw[hst,Brs.put_ne _ _ hmn]at c1;have c2:=cntE_put (st:=st) (i:=n) (o:=some { x with links:=x.links+1 }) (n:=k) (by omega);have c4:cntO (st.nod n) k=0:=by rw[hn];unfold cntO;simp only[hxd]
  have c5:cntO (some { x with links:=x.links+1 }) k=0:=by unfold cntO;simp only[hxd]
  have c6:cntO (st.nod m) k=cntD l k:=by rw[hm];unfold cntO;simp only[hl]
  have c7:cntO (some { d with dir:=some (setD s (n:Nat) l) }) k=cntD (setD s (n:Nat) l) k:=rfl;have c8:=cntD_set (s:=s) (v:=(n:Nat)) (n:=k) hlk;omega
 obtain⟨rk,hR⟩:=h.rank;refine⟨⟨fun k y hy=> ?_,fun k y hy=> ?_,fun k y hy=> ?_⟩,fun k y l' hy hl'=> ?_,fun i hi=> ?_,by rw[hfree];exact h.fnd,?_,fun k y hy=> ?_,fun k y hy=> ?_,fun k y hy h1=> ?_,fun y hy=> ?_,fun k y l' s' w hy hl' hk=> ?_,fun k y hy hk h1=> ?_,⟨rk,fun k y hy hk h1=> ?_⟩,fun k y l' hy hl'=> ?_⟩
 ·rcases cs k y hy with⟨rfl,rfl⟩ | ⟨rfl,rfl⟩ | ⟨_,_,hz⟩
  ·simp only[hmk];simp
  ·exact h.ki.dir k x hn
  ·exact h.ki.dir k y hz
 ·rcases cs k y hy with⟨rfl,rfl⟩ | ⟨rfl,rfl⟩ | ⟨_,_,hz⟩
  ·exact h.ki.body k d hm
  ·exact h.ki.body k x hn
  ·exact h.ki.body k y hz
 ·rcases cs k y hy with⟨rfl,rfl⟩ | ⟨rfl,rfl⟩ | ⟨_,_,hz⟩
  ·exact h.ki.kind k d hm
  ·exact h.ki.kind k x hn
  ·exact h.ki.kind k y hz
 ·rcases cs k y hy with⟨rfl,rfl⟩ | ⟨rfl,rfl⟩ | ⟨_,_,hz⟩
  ·cases hl'
   have:=setD_len s (n:Nat) l;have:=h.len k d l hm hl;omega
  ·simp only[hxd]at hl';cases hl'
  ·have:=h.len k y l' hz hl';omega
 ·rw[hfree]at hi;obtain⟨j,e1,a,b,c'⟩:=h.free i hi;exact⟨j,e1,a,b,by rw[no j (fun e=>by subst e;rw[hm]at c';cases c') (fun e=>by subst e;rw[hn]at c';cases c')];exact c'⟩
 ·obtain⟨y,hy,e1,_⟩:=back 1 xr hxr;exact⟨y,hy,by rw[e1];exact hxrk⟩
 ·rcases cs k y hy with⟨rfl,rfl⟩ | ⟨rfl,rfl⟩ | ⟨_,_,hz⟩
  ·exact hm1
  ·exact hn1
  ·exact h.ran k y hz
 ·rcases cs k y hy with⟨rfl,rfl⟩ | ⟨rfl,rfl⟩ | ⟨_,_,hz⟩
  ·exact h.hold k d hm
  ·exact h.hold k x hn
  ·exact h.hold k y hz
 ·rcases cs k y hy with⟨rfl,rfl⟩ | ⟨rfl,rfl⟩ | ⟨a,b,hz⟩
  ·rw[hcnt,if_neg (by omega),Nat.add_zero];exact h.lnk k d hm h1
  ·rw[hcnt,if_pos rfl];exact⟨by simp only;omega,by simp only;omega,by simp only;omega,fun e=>absurd e hxk⟩
  ·rw[hcnt,if_neg (by omega),Nat.add_zero];exact h.lnk k y hz h1
 ·rcases cs 1 y hy with⟨e,rfl⟩ | ⟨e,rfl⟩ | ⟨_,_,hz⟩
  ·subst e;exact h.rl d hm
  ·exact absurd e.symm hn1'
  ·exact h.rl y hz
 ·rcases cs k y hy with⟨rfl,rfl⟩ | ⟨rfl,rfl⟩ | ⟨_,_,hz⟩
  ·cases hl'
   rw[lookD_set]at hk;split at hk
   ·cases hk
    exact⟨n,rfl,by omega,hn1.2,_,nn,fun e=>absurd e hxk⟩
   ·obtain⟨j,a,b,c',y',dd,e⟩:=h.ent k d l s' w hm hl hk;obtain⟨y'',f1,f2,f3⟩:=back j y' dd;exact⟨j,a,b,c',y'',f1,by rw[f2,f3];exact e⟩
  ·simp only[hxd]at hl';cases hl'
  ·obtain⟨j,a,b,c',y',dd,e⟩:=h.ent k y l' s' w hz hl' hk;obtain⟨y'',f1,f2,f3⟩:=back j y' dd;exact⟨j,a,b,c',y'',f1,by rw[f2,f3];exact e⟩
 ·have old:∀z,st.nod k=some z->z.kind=2->y.parent=z.parent->∃(p:Nat) (x:Nod) (l:Dr) (s:Nam),y.parent=(p:Nat)/\st'.nod p=some x/\x.dir=some l/\lookD s l=some ((k:Nat):Int):=by
   intro z hz hzk hzp;obtain⟨p,x',l',s',a,b,c',dd⟩:=h.par k z hz hzk h1;by_cases e:p=m
   ·subst e;rw[hm]at b;cases b
    rw[hl]at c';cases c'
    refine⟨p,_,_,s',by rw[hzp];exact a,nm,rfl,?_⟩;rw[lookD_set,if_neg (fun e=>by subst e;rw[hlk]at dd;cases dd)];exact dd
   ·have:p≠n:=fun e=>by subst e;rw[hn]at b;cases b;rw[hxd]at c';cases c'
    exact⟨p,x',l',s',by rw[hzp];exact a,by rw[no p e this];exact b,c',dd⟩
  rcases cs k y hy with⟨rfl,rfl⟩ | ⟨rfl,rfl⟩ | ⟨_,_,hz⟩
  ·exact old d hm hmk rfl
  ·exact absurd hk hxk
  ·exact old y hz hk rfl
 ·have old:∀z,st.nod k=some z->z.kind=2->y.parent=z.parent->∃p:Nat,y.parent=(p:Nat)/\rk p<rk k/\p<=200/\∃y,st'.nod p=some y/\y.kind=2:=by
   intro z hz hzk hzp;obtain⟨p,a,b,c',y',dd,e⟩:=hR k z hz hzk h1;obtain⟨y'',f1,f2,f3⟩:=back p y' dd;exact⟨p,by rw[hzp];exact a,b,c',y'',f1,by rw[f2];exact e⟩
  rcases cs k y hy with⟨rfl,rfl⟩ | ⟨rfl,rfl⟩ | ⟨_,_,hz⟩
  ·exact old d hm hmk rfl
  ·exact absurd hk hxk
  ·exact old y hz hk rfl
 ·rcases cs k y hy with⟨rfl,rfl⟩ | ⟨rfl,rfl⟩ | ⟨_,_,hz⟩
  ·cases hl';exact(h.srt k d l hm hl).set hse
  ·simp only[hxd]at hl';cases hl'
  ·exact h.srt k y l' hz hl'
structure AwayS (st:Brs)(m:Nat)(d:Nod)(l:Dr)(s:Nam)(n:Nat)(x:Nod)(st':Brs):Prop where
 nm:st'.nod m=some { d with dir:=some (delD s l) }
 no:∀k,k≠m->k≠n->st'.nod k=st.nod k
 nn:(2<=x.links/\st'.nod n=some { x with links:=x.links - 1 }/\st'.free=st.free)∨(x.links=1/\st'.nod n=none/\List.Perm st'.free (st.free++[⟨(n:Nat),(n:Nat),st.k⟩]))
theorem awayS {st:Brs}{m n:Nat}{d x:Nod}{l:Dr}{s:Nam}(hnm:n≠m)(hx:1<=x.links)(hh:x.holds=0):AwayS st m d l s n x (awaySt st m d l s n x):=by
 refine⟨by rw[awaySt_nod (fun e=>hnm e.symm),if_pos rfl],fun k a b=>by rw[awaySt_nod b,if_neg a],?_⟩;unfold awaySt;simp only;by_cases e:0<x.links - 1∨0<x.holds
 ·rw[if_pos e];exact .inl ⟨by omega,Brs.put_same _ _ _,rfl⟩
 ·rw[if_neg e];exact .inr ⟨by omega,by unfold goneSt;exact Brs.put_same _ _ _,upL_perm _ _ _⟩
theorem BInv.away {c:Nat}{st st':Brs}(h:BInv c st){m n:Nat}{d x:Nod}{l:Dr}{s:Nam}(hm:st.nod m=some d)(hmk:d.kind=2)(hl:d.dir=some l)(hlk:lookD s l=some ((n:Nat):Int))(hn:st.nod n=some x)(hnm:n≠m)(hxd:x.kind=2->x.dir=some [])(hA:AwayS st m d l s n x st'){rk:Nat->Nat}(hR:RankInv st rk):BInv c st'/\RankInv st' rk:=by
 have hm1:=h.ran m d hm;have hn1:=h.ran n x hn;have hn2:n≠1:=fun e=>by
  obtain⟨j,e1,j2,_⟩:=h.ent m d l s _ hm hl hlk;omega
 obtain⟨xl1,xl2,xl3,xl4⟩:=h.lnk n x hn hn2;have hxd':x.dir=none∨x.dir=some []:=by
  by_cases e:x.kind=2
  ·exact .inr (hxd e)
  ·left
   cases e2:x.dir with
   | none=>rfl
   | some z=>exact absurd ((h.ki.dir n x hn).2 (by rw[e2];rfl)) e
 have cx:∀k,cntO (some x) k=0:=fun k=>by unfold cntO;rcases hxd' with e | e<;>simp only[e]<;>rfl
 have hsrtN:=h.srt m d l hm hl;have hsrt:=hsrtN.1;obtain⟨nm,no,hnn⟩:=hA;have cn:∀k,cntO (st'.nod n) k=0:=fun k=>by
  rcases hnn with⟨_,e,_⟩ | ⟨_,e,_⟩<;>rw[e]
  ·exact cx k
  ·rfl
 have hcnt:∀k,cntE st' k+(if(n:Int)=(k:Int)then 1 else 0)=cntE st k:=by
  intro k;have e1:cntE st' k=cntE ((st.put m (some { d with dir:=some (delD s l) })).put n (st'.nod n)) k:=by
   unfold cntE;refine sumN_congr 201 fun i hi=> ?_;show cntO (st'.nod i) k=cntO (((st.put m (some { d with dir:=some (delD s l) })).put n (st'.nod n)).nod i) k;by_cases e:i=n
   ·subst e;rw[Brs.put_same]
   ·rw[Brs.put_ne _ _ e];by_cases e':i=m
    ·subst e';rw[Brs.put_same,nm]
    ·rw[Brs.put_ne _ _ e',no i e' e]
  have c1:=cntE_put (st:=st.put m (some { d with dir:=some (delD s l) })) (i:=n) (o:=st'.nod n) (n:=k) (by omega);rw[Brs.put_ne _ _ hnm,hn,cx,cn]at c1;have c2:=cntE_put (st:=st) (i:=m) (o:=some { d with dir:=some (delD s l) }) (n:=k) (by omega);have c6:cntO (st.nod m) k=cntD l k:=by rw[hm];unfold cntO;simp only[hl]
  have c7:cntO (some { d with dir:=some (delD s l) }) k=cntD (delD s l) k:=rfl;have c8:=cntD_del (s:=s) (v:=(n:Nat)) (n:=k) hlk;omega
 have cs:∀k y,st'.nod k=some y->(k=m/\y= { d with dir:=some (delD s l) })∨(k=n/\2<=x.links/\y= { x with links:=x.links - 1 })∨(k≠m/\k≠n/\st.nod k=some y):=by
  intro k y hy;by_cases e1:k=m
  ·subst e1;rw[nm]at hy;cases hy;exact .inl ⟨rfl,rfl⟩
  ·by_cases e2:k=n
   ·subst e2;rcases hnn with⟨a,e,_⟩ | ⟨_,e,_⟩
    ·rw[e]at hy;cases hy;exact .inr (.inl ⟨rfl,a,rfl⟩)
    ·rw[e]at hy;cases hy
   ·rw[no k e1 e2]at hy;exact .inr (.inr ⟨e1,e2,hy⟩)
 have back:∀k z,st.nod k=some z->(k=n->2<=x.links)->∃y,st'.nod k=some y/\y.kind=z.kind/\y.parent=z.parent:=by
  intro k z hz hk;by_cases e1:k=m
  ·subst e1;rw[hm]at hz;cases hz;exact⟨_,nm,rfl,rfl⟩
  ·by_cases e2:k=n
   ·subst e2;rw[hn]at hz;cases hz
    rcases hnn with⟨a,e,_⟩ | ⟨a,e,_⟩
    ·exact⟨_,e,rfl,rfl⟩
    ·have:=hk rfl;omega
   ·exact⟨z,by rw[no k e1 e2];exact hz,rfl,rfl⟩
 have left:∀(k:Nat) (y:Nod) (l':Dr) (s':Nam) (j:Nat),st'.nod k=some y->y.dir=some l'->lookD s' l'=some ((j:Nat):Int)->j=n->2<=x.links:=by
  intro k y l' s' j hy hl' hk e;subst e;have hk201:k<201:=by
   rcases cs k y hy with⟨rfl,_⟩ | ⟨rfl,_⟩ | ⟨_,_,hz⟩
   ·omega
   ·omega
   ·have:=h.ran k y hz;omega
  have:=cntE_pos hk201 hy hl' hk;have:=hcnt j;rw[if_pos rfl]at this;omega
 have hfree:∀i∈st'.free,i∈st.free∨(i.n=(n:Nat)/\st'.nod n=none):=by
  intro i hi;rcases hnn with⟨_,_,e⟩ | ⟨_,e0,e⟩
  ·rw[e]at hi;exact .inl hi
  ·rcases List.mem_append.1 (e.mem_iff.1 hi)with h' | h'
   ·exact .inl h'
   ·rw[List.mem_singleton]at h';subst h';exact .inr ⟨rfl,e0⟩
 have hnf:∀i∈st.free,i.n≠(n:Nat):=fun i hi e=>by
  obtain⟨j,e1,_,_,e2⟩:=h.free i hi;have:j=n:=by omega
  subst this;rw[hn]at e2;cases e2
 have hR':RankInv st' rk:=by
  intro k y hy hk h1;have old:∀z,st.nod k=some z->z.kind=2->y.parent=z.parent->∃p:Nat,y.parent=(p:Nat)/\rk p<rk k/\p<=200/\∃y,st'.nod p=some y/\y.kind=2:=by
   intro z hz hzk hzp;obtain⟨p,a,b,c',y',dd,e⟩:=hR k z hz hzk h1;have hpn:p≠n:=fun e'=>by
    obtain⟨p',x',l',s',a',b',c'',d'⟩:=h.par k z hz hzk h1;have:p'=p:=by omega
    subst this;subst e';rw[hn]at b';cases b'
    rcases hxd' with e | e<;>rw[e]at c''<;>cases c''
    cases d'
   obtain⟨y'',f1,f2,f3⟩:=back p y' dd (fun e=>absurd e hpn);exact⟨p,by rw[hzp];exact a,b,c',y'',f1,by rw[f2];exact e⟩
  rcases cs k y hy with⟨rfl,rfl⟩ | ⟨rfl,a,rfl⟩ | ⟨_,_,hz⟩
  ·exact old d hm hmk rfl
  ·exact old x hn hk rfl
  ·exact old y hz hk rfl
 refine⟨?_,hR'⟩;refine⟨⟨fun k y hy=> ?_,fun k y hy=> ?_,fun k y hy=> ?_⟩,fun k y l' hy hl'=> ?_,fun i hi=> ?_,?_,?_,fun k y hy=> ?_,fun k y hy=> ?_,fun k y hy h1=> ?_,fun y hy=> ?_,fun k y l' s' w hy hl' hk=> ?_,fun k y hy hk h1=> ?_,⟨rk,hR'⟩,fun k y l' hy hl'=> ?_⟩
 ·rcases cs k y hy with⟨rfl,rfl⟩ | ⟨rfl,_,rfl⟩ | ⟨_,_,hz⟩
  ·simp only[hmk];simp
  ·exact h.ki.dir k x hn
  ·exact h.ki.dir k y hz
 ·rcases cs k y hy with⟨rfl,rfl⟩ | ⟨rfl,_,rfl⟩ | ⟨_,_,hz⟩
  ·exact h.ki.body k d hm
  ·exact h.ki.body k x hn
  ·exact h.ki.body k y hz
 ·rcases cs k y hy with⟨rfl,rfl⟩ | ⟨rfl,_,rfl⟩ | ⟨_,_,hz⟩
  ·exact h.ki.kind k d hm
  ·exact h.ki.kind k x hn
  ·exact h.ki.kind k y hz
 ·rcases cs k y hy with⟨rfl,rfl⟩ | ⟨rfl,_,rfl⟩ | ⟨_,_,hz⟩
  ·cases hl'
   exact Nat.le_trans (delD_len s l) (h.len k d l hm hl)
  ·exact h.len k x l' hn hl'
  ·exact h.len k y l' hz hl'
 ·rcases hfree i hi with hi' | ⟨e,e0⟩
  ·obtain⟨j,e1,a,b,c'⟩:=h.free i hi';exact⟨j,e1,a,b,by rw[no j (fun e=>by subst e;rw[hm]at c';cases c') (fun e=>by subst e;rw[hn]at c';cases c')];exact c'⟩
  ·exact⟨n,e,by omega,hn1.2,e0⟩
 ·rcases hnn with⟨_,_,e⟩ | ⟨_,_,e⟩
  ·rw[e];exact h.fnd
  ·refine(e.map (·.n)).nodup_iff.2 ?_;rw[List.map_append,List.nodup_append];refine⟨h.fnd,by simp,fun a ha b hb=> ?_⟩;obtain⟨i,hi,rfl⟩:=List.mem_map.1 ha;simp at hb;subst hb;exact hnf i hi
 ·obtain⟨z,hz,hk⟩:=h.root;obtain⟨y,hy,e1,_⟩:=back 1 z hz (fun e=>absurd e.symm hn2);exact⟨y,hy,by rw[e1];exact hk⟩
 ·rcases cs k y hy with⟨rfl,rfl⟩ | ⟨rfl,_,rfl⟩ | ⟨_,_,hz⟩
  ·exact hm1
  ·exact hn1
  ·exact h.ran k y hz
 ·rcases cs k y hy with⟨rfl,rfl⟩ | ⟨rfl,_,rfl⟩ | ⟨_,_,hz⟩
  ·exact h.hold k d hm
  ·exact h.hold k x hn
  ·exact h.hold k y hz
 ·have hck:=hcnt k;rcases cs k y hy with⟨rfl,rfl⟩ | ⟨rfl,a,rfl⟩ | ⟨a,b,hz⟩
  ·rw[if_neg (by omega),Nat.add_zero]at hck;rw[hck];exact h.lnk k d hm h1
  ·rw[if_pos rfl]at hck;exact⟨by simp only;omega,by simp only;omega,by simp only;omega,fun e=>by have:=xl4 e;omega⟩
  ·rw[if_neg (by omega),Nat.add_zero]at hck;rw[hck];exact h.lnk k y hz h1
 ·rcases cs 1 y hy with⟨e,rfl⟩ | ⟨e,_,rfl⟩ | ⟨_,_,hz⟩
  ·subst e;exact h.rl d hm
  ·exact absurd e.symm hn2
  ·exact h.rl y hz
 ·have old:∀z lz,st.nod k=some z->z.dir=some lz->lookD s' lz=some w->∃n:Nat,w=(n:Nat)/\2<=n/\n<=200/\∃y,st'.nod n=some y/\(y.kind=2->y.parent=(k:Nat)):=by
   intro z lz hz hlz hkz;obtain⟨j,rfl,b,c',y',dd,e⟩:=h.ent k z lz s' w hz hlz hkz;obtain⟨y'',f1,f2,f3⟩:=back j y' dd (fun e=>left k y l' s' j hy hl' hk e);exact⟨j,rfl,b,c',y'',f1,by rw[f2,f3];exact e⟩
  rcases cs k y hy with⟨rfl,rfl⟩ | ⟨rfl,_,rfl⟩ | ⟨_,_,hz⟩
  ·cases hl'
   exact old d l hm hl (lookD_del_some hsrt hk).2
  ·exact old x l' hn hl' hk
  ·exact old y l' hz hl' hk
 ·have old:∀z,st.nod k=some z->z.kind=2->y.parent=z.parent->k≠n->∃(p:Nat) (x:Nod) (l:Dr) (s:Nam),y.parent=(p:Nat)/\st'.nod p=some x/\x.dir=some l/\lookD s l=some ((k:Nat):Int):=by
   intro z hz hzk hzp hkn;obtain⟨p,x',l',s',a,b,c',dd⟩:=h.par k z hz hzk h1;by_cases e:p=m
   ·subst e;rw[hm]at b;cases b
    rw[hl]at c';cases c'
    refine⟨p,_,_,s',by rw[hzp];exact a,nm,rfl,?_⟩;rw[lookD_del (fun e=>by subst e;rw[hlk]at dd;injection dd with dd;omega)];exact dd
   ·have:p≠n:=fun e=>by
     subst e;rw[hn]at b;cases b
     rcases hxd' with e | e<;>rw[e]at c'<;>cases c'
     cases dd
    exact⟨p,x',l',s',by rw[hzp];exact a,by rw[no p e this];exact b,c',dd⟩
  rcases cs k y hy with⟨rfl,rfl⟩ | ⟨rfl,a,rfl⟩ | ⟨_,b,hz⟩
  ·exact old d hm hmk rfl (fun e=>hnm e.symm)
  ·have:=xl4 hk;omega
  ·exact old y hz hk rfl b
 ·rcases cs k y hy with⟨rfl,rfl⟩ | ⟨rfl,_,rfl⟩ | ⟨_,_,hz⟩
  ·cases hl';exact hsrtN.del
  ·exact h.srt k x l' hn hl'
  ·exact h.srt k y l' hz hl'
end Go.Shade
namespace Go.Shade
variable {d t x : Nod} {l lt : Dr} {m mt n : Nat} {s s2 : Nam} {st : Brs}
theorem upC_fuel {st:Brs}{rk:Nat->Nat}(hR:RankInv st rk){top:Int}:∀(f g i:Nat) (x:Nod),st.nod i=some x->x.kind=2->rk i<f->rk i<g->upC st f i top=upC st g i top
 | 0,_,_,_,_,_,h,_=>by omega
 | _,0,_,_,_,_,_,h=>by omega
 | f+1,g+1,i,x,hx,hk,hf,hg=>by
  unfold upC;by_cases h1:(i:Int)=top
  ·rw[if_pos h1,if_pos h1]
  ·rw[if_neg h1,if_neg h1];by_cases h2:i=1
   ·rw[if_pos h2,if_pos h2]
   ·rw[if_neg h2,if_neg h2];obtain⟨p,hp,hrk,_,y,hy,hyk⟩:=hR i x hx hk h2;simp only[hx];rw[hp,Int.toNat_natCast];exact upC_fuel hR f g p y hy hyk (by omega) (by omega)
theorem upC_step {rk:Nat->Nat}(hR:RankInv st rk){i:Nat}{top:Int}(hx:st.nod i=some x)(hk:x.kind=2)(h1:i≠1)(ht:(i:Int)≠top){p:Nat}(hp:x.parent=(p:Nat)):upC st (rk i+1) i top=upC st (rk p+1) p top:=by
 obtain⟨p',hp',hrk,_,y,hy,hyk⟩:=hR i x hx hk h1;have:p'=p:=by omega
 subst this
 conv=>lhs;unfold upC
 rw[if_neg ht,if_neg h1];simp only[hx];rw[hp,Int.toNat_natCast];exact upC_fuel hR _ _ p' y hy hyk (by omega) (by omega)
theorem upC_same {st st':Brs}{rk:Nat->Nat}(hR':RankInv st' rk)(hs:∀k y,st'.nod k=some y->∃z,st.nod k=some z/\z.parent=y.parent){top:Int}:∀(f i:Nat) (x:Nod),st'.nod i=some x->x.kind=2->upC st' f i top=upC st f i top
 | 0,_,_,_,_=>rfl
 | f+1,i,x,hx,hk=>by
  unfold upC;by_cases h1:(i:Int)=top
  ·rw[if_pos h1,if_pos h1]
  ·rw[if_neg h1,if_neg h1];by_cases h2:i=1
   ·rw[if_pos h2,if_pos h2]
   ·rw[if_neg h2,if_neg h2];obtain⟨p,hp,hrk,_,y,hy,hyk⟩:=hR' i x hx hk h2;obtain⟨z,hz,hzp⟩:=hs i x hx;simp only[hx,hz];rw[hzp,hp,Int.toNat_natCast];exact upC_same hR' hs f p y hy hyk
def renF (m:Nat)(s:Nam)(mt:Nat)(s2:Nam)(n k:Nat)(l:Dr):Dr :=
 if k=mt then setD s2 (n:Nat) (if k=m then delD s l else l)else(if k=m then delD s l else l)
def renN (m:Nat)(s:Nam)(mt:Nat)(s2:Nam)(n k:Nat)(z:Nod):Nod :=
 { z with dir:=z.dir.map (renF m s mt s2 n k),parent:=if k=n/\z.kind=2 then(mt:Nat)else z.parent }
theorem renEnd_nod (hm:st.nod m=some d)(hl:d.dir=some l)(ht:st.nod mt=some t)(hlt:t.dir=some lt)(hn:st.nod n=some x)(hnm:n≠m)(hnt:n≠mt)(k:Nat) :
  (renEnd st m s mt s2 n).nod k=(st.nod k).map (renN m s mt s2 n k):=by
 have e1:updDir st m (delD s)=st.put m (some { d with dir:=some (delD s l) }):=updDir_eq hm hl;have key:∀k,(updDir (updDir st m (delD s)) mt (setD s2 (n:Nat))).nod k=(st.nod k).map fun z=> { z with dir:=z.dir.map (renF m s mt s2 n k) }:=by
  intro k;by_cases e:mt=m
  ·subst e;rw[hm]at ht;cases ht
   have e2:updDir (updDir st mt (delD s)) mt (setD s2 (n:Nat))=(st.put mt (some { d with dir:=some (delD s l) })).put mt (some { d with dir:=some (setD s2 (n:Nat) (delD s l)) }):=by
    rw[e1];exact updDir_eq (d:= { d with dir:=some (delD s l) }) (l:=delD s l) (Brs.put_same _ _ _) rfl
   rw[e2];by_cases ek:k=mt
   ·subst ek;rw[Brs.put_same,hm,Option.map_some];simp only[renF,if_true,hl,Option.map_some]
   ·rw[Brs.put_ne _ _ ek,Brs.put_ne _ _ ek]
    cases hz:st.nod k with
    | none=>rfl
    | some z =>
     rw[Option.map_some];have:z.dir.map (renF mt s mt s2 n k)=z.dir:=by
      cases z.dir with
      | none=>rfl
      | some lz=>simp only[Option.map_some,renF,if_neg ek]
     rw[this]
  ·have e2:updDir (updDir st m (delD s)) mt (setD s2 (n:Nat))=(st.put m (some { d with dir:=some (delD s l) })).put mt (some { t with dir:=some (setD s2 (n:Nat) lt) }):=by
    rw[e1];exact updDir_eq (by rw[Brs.put_ne _ _ e];exact ht) hlt
   rw[e2];by_cases ek:k=mt
   ·subst ek;rw[Brs.put_same,ht,Option.map_some];simp only[renF,if_true,if_neg e,hlt,Option.map_some]
   ·rw[Brs.put_ne _ _ ek];by_cases ek2:k=m
    ·subst ek2;rw[Brs.put_same,hm,Option.map_some];simp only[renF,if_true,if_neg ek,hl,Option.map_some]
    ·rw[Brs.put_ne _ _ ek2]
     cases hz:st.nod k with
     | none=>rfl
     | some z =>
      rw[Option.map_some];have:z.dir.map (renF m s mt s2 n k)=z.dir:=by
       cases z.dir with
       | none=>rfl
       | some lz=>simp only[Option.map_some,renF,if_neg ek,if_neg ek2]
      rw[this]
 have kn:=key n;rw[hn,Option.map_some]at kn;have hxd:x.dir.map (renF m s mt s2 n n)=x.dir:=by
  cases x.dir with
  | none=>rfl
  | some lz=>simp only[Option.map_some,renF,if_neg hnm,if_neg hnt]
 rw[hxd]at kn;unfold renEnd setPar;rw[kn];simp only;by_cases hk:x.kind=2
 ·rw[if_pos hk];by_cases e:k=n
  ·subst e;rw[Brs.put_same,hn,Option.map_some];unfold renN;rw[hxd,if_pos ⟨rfl,hk⟩]
  ·rw[Brs.put_ne _ _ e,key];refine congrArg (fun g=>Option.map g (st.nod k)) (funext fun z=> ?_);unfold renN;rw[if_neg (fun h=>e h.1)]
 ·rw[if_neg hk,key]
  cases hz:st.nod k with
  | none=>rfl
  | some z =>
   rw[Option.map_some,Option.map_some];unfold renN;rw[if_neg (fun h=>by obtain⟨e,h2⟩:=h;subst e;rw[hn]at hz;cases hz;exact hk h2)]
theorem cntD_two {s':Nam}(hne:s'≠s)(h:lookD s l=some ((n:Nat):Int))(h':lookD s' l=some ((n:Nat):Int)):2<=cntD l n:=by
 have a:=cntD_del (n:=n) h;rw[if_pos rfl]at a;have b:=cntD_pos (l:=delD s l) (s:=s') (n:=n) (by rw[lookD_del hne];exact h');omega
theorem ren_sum {k N:Nat}(hm:st.nod m=some d)(hl:d.dir=some l)(hlk:lookD s l=some ((n:Nat):Int))(ht:st.nod mt=some t)(hlt:t.dir=some lt)(hs2:lookD s2 (if mt=m then delD s lt else lt)=none)(hmN:m<N)(htN:mt<N) :
  sumN N (fun i=>cntO ((st.nod i).map fun z=> { z with dir:=z.dir.map (renF m s mt s2 n i) }) k)=sumN N (fun i=>cntO (st.nod i) k):=by
 have c1:sumN N (fun i=>cntO ((st.nod i).map fun z=> { z with dir:=z.dir.map (fun lz=>if i=m then delD s lz else lz) }) k)+cntO (st.nod m) k=sumN N (fun i=>cntO (st.nod i) k)+cntO ((st.nod m).map fun z=> { z with dir:=z.dir.map (fun lz=>if m=m then delD s lz else lz) }) k:=sumN_upd N (f:=fun i=>cntO (st.nod i) k) (g:=fun i=>cntO ((st.nod i).map fun z=> { z with dir:=z.dir.map (fun lz=>if i=m then delD s lz else lz) }) k) (i:=m) hmN (fun j hj=>by
  show cntO ((st.nod j).map _) k=cntO (st.nod j) k
  cases hz:st.nod j with
  | none=>rfl
  | some z=>unfold cntO;simp only[Option.map_some,if_neg hj];cases z.dir<;>rfl)
 have c2:sumN N (fun i=>cntO ((st.nod i).map fun z=> { z with dir:=z.dir.map (renF m s mt s2 n i) }) k)+cntO ((st.nod mt).map fun z=> { z with dir:=z.dir.map (fun lz=>if mt=m then delD s lz else lz) }) k=sumN N (fun i=>cntO ((st.nod i).map fun z=> { z with dir:=z.dir.map (fun lz=>if i=m then delD s lz else lz) }) k)+cntO ((st.nod mt).map fun z=> { z with dir:=z.dir.map (renF m s mt s2 n mt) }) k:=sumN_upd N (f:=fun i=>cntO ((st.nod i).map fun z=> { z with dir:=z.dir.map (fun lz=>if i=m then delD s lz else lz) }) k) (g:=fun i=>cntO ((st.nod i).map fun z=> { z with dir:=z.dir.map (renF m s mt s2 n i) }) k) (i:=mt) htN (fun j hj=>by
  show cntO ((st.nod j).map _) k=cntO ((st.nod j).map _) k
  cases hz:st.nod j with
  | none=>rfl
  | some z=>unfold cntO;simp only[Option.map_some];cases z.dir with
   | none=>rfl
   | some lz=>simp only[Option.map_some,renF,if_neg hj])
 have d1:cntO (st.nod m) k=cntD l k:=by rw[hm];unfold cntO;simp only[hl]
 have d2:cntO ((st.nod m).map fun z=> { z with dir:=z.dir.map (fun lz=>if m=m then delD s lz else lz) }) k=cntD (delD s l) k:=by rw[hm];unfold cntO;simp only[Option.map_some,hl,if_true]
 have d3:cntO ((st.nod mt).map fun z=> { z with dir:=z.dir.map (fun lz=>if mt=m then delD s lz else lz) }) k=cntD (if mt=m then delD s lt else lt) k:=by rw[ht];unfold cntO;simp only[Option.map_some,hlt]
 have d4:cntO ((st.nod mt).map fun z=> { z with dir:=z.dir.map (renF m s mt s2 n mt) }) k=cntD (setD s2 (n:Nat) (if mt=m then delD s lt else lt)) k:=by rw[ht];unfold cntO;simp only[Option.map_some,hlt,renF,if_true]
 have d5:=cntD_del (n:=k) hlk;have d6:=cntD_set (s:=s2) (v:=(n:Nat)) (n:=k) hs2;omega
theorem BInv.ren {c:Nat}(h:BInv c st)(hm:st.nod m=some d)(hl:d.dir=some l)(hlk:lookD s l=some ((n:Nat):Int))(ht:st.nod mt=some t)(htk:t.kind=2)(hlt:t.dir=some lt)(hse:setErr s2=0)(hlk2:lookD s2 lt=none)(hn:st.nod n=some x)(hnm:n≠m)(hnt:n≠mt){rk:Nat->Nat}(hR:RankInv st rk)(hnb:x.kind=2->upC st (rk mt+1) mt (n:Nat)=false):BInv (c+1) (renEnd st m s mt s2 n):=by
 have hnod:=renEnd_nod (s:=s) (s2:=s2) hm hl ht hlt hn hnm hnt;have hfree:(renEnd st m s mt s2 n).free=st.free:=by
  have u:∀(st:Brs) m f,(updDir st m f).free=st.free:=by
   intro st m f;unfold updDir;split
   ·split<;>rfl
   ·rfl
  unfold Shade.renEnd setPar;split
  ·split
   ·show(updDir _ _ _).free=_;rw[u,u]
   ·rw[u,u]
  ·rw[u,u]
 generalize renEnd st m s mt s2 n=st' at *;have hm1:=h.ran m d hm;have ht1:=h.ran mt t ht;have hn1:=h.ran n x hn;have cs:∀k y,st'.nod k=some y->∃z,st.nod k=some z/\y=renN m s mt s2 n k z:=by
  intro k y hy;rw[hnod]at hy;obtain⟨z,hz,rfl⟩:=Option.map_eq_some_iff.1 hy;exact⟨z,hz,rfl⟩
 have back:∀k z,st.nod k=some z->st'.nod k=some (renN m s mt s2 n k z):=fun k z hz=>by rw[hnod,hz];rfl
 have hs2:lookD s2 (if mt=m then delD s lt else lt)=none:=by
  by_cases e:mt=m
  ·rw[if_pos e];subst e;rw[hm]at ht;cases ht
   rw[hl]at hlt;cases hlt
   rw[lookD_del (fun e=>by subst e;rw[hlk]at hlk2;cases hlk2)];exact hlk2
  ·rw[if_neg e];exact hlk2
 have hcnt:∀k,cntE st' k=cntE st k:=by
  intro k;have e1:cntE st' k=sumN 201 (fun i=>cntO ((st.nod i).map fun z=> { z with dir:=z.dir.map (renF m s mt s2 n i) }) k):=by
   unfold cntE;refine sumN_congr 201 fun i _=> ?_;show cntO (st'.nod i) k=_;rw[hnod]
   cases hz:st.nod i with
   | none=>rfl
   | some z=>rfl
  exact e1.trans (ren_sum hm hl hlk ht hlt hs2 (by omega) (by omega))
 have ent:∀k lz s' w,lookD s' (renF m s mt s2 n k lz)=some w->st.nod k≠none->(∀z,st.nod k=some z->z.dir=some lz)->(k=mt/\s'=s2/\w=(n:Nat))∨(lookD s' lz=some w/\(k=m->s'≠s)):=by
  intro k lz s' w hk hne hz;have hsrt:k=m->SrtD lz:=fun e=>by subst e;exact(h.srt k d lz hm (by rw[hz d hm])).1
  have inner:lookD s' (if k=m then delD s lz else lz)=some w->(lookD s' lz=some w/\(k=m->s'≠s)):=by
   intro hi;by_cases e:k=m
   ·rw[if_pos e]at hi;have:=lookD_del_some (hsrt e) hi;exact⟨this.2,fun _=>this.1⟩
   ·rw[if_neg e]at hi;exact⟨hi,fun e'=>absurd e' e⟩
  unfold renF at hk;by_cases e:k=mt
  ·rw[if_pos e,lookD_set]at hk;split at hk
   ·rename_i es
    cases hk
    exact .inl ⟨e,es.symm,rfl⟩
   ·exact .inr (inner hk)
  ·rw[if_neg e]at hk;exact .inr (inner hk)
 refine⟨⟨fun k y hy=> ?_,fun k y hy=> ?_,fun k y hy=> ?_⟩,fun k y l' hy hl'=> ?_,fun i hi=> ?_,by rw[hfree];exact h.fnd,?_,fun k y hy=> ?_,fun k y hy=> ?_,fun k y hy h1=> ?_,fun y hy=> ?_,fun k y l' s' w hy hl' hk=> ?_,fun k y hy hk h1=> ?_,?_,fun k y l' hy hl'=> ?_⟩
 ·obtain⟨z,hz,rfl⟩:=cs k y hy;show z.kind=2↔(z.dir.map _).isSome=true;rw[Option.isSome_map];exact h.ki.dir k z hz
 ·obtain⟨z,hz,rfl⟩:=cs k y hy;exact h.ki.body k z hz
 ·obtain⟨z,hz,rfl⟩:=cs k y hy;exact h.ki.kind k z hz
 ·obtain⟨z,hz,rfl⟩:=cs k y hy;obtain⟨lz,hlz,rfl⟩:=Option.map_eq_some_iff.1 hl';have:=h.len k z lz hz hlz;unfold renF;have a:(if k=m then delD s lz else lz).length<=lz.length:=by
   split
   ·exact delD_len _ _
   ·exact Nat.le_refl _
  split
  ·have:=setD_len s2 (n:Nat) (if k=m then delD s lz else lz);omega
  ·omega
 ·rw[hfree]at hi;obtain⟨j,e1,a,b,c'⟩:=h.free i hi;exact⟨j,e1,a,b,by rw[hnod,c'];rfl⟩
 ·obtain⟨z,hz,hk⟩:=h.root;exact⟨_,back 1 z hz,hk⟩
 ·obtain⟨z,hz,rfl⟩:=cs k y hy;exact h.ran k z hz
 ·obtain⟨z,hz,rfl⟩:=cs k y hy;exact h.hold k z hz
 ·obtain⟨z,hz,rfl⟩:=cs k y hy;rw[hcnt];exact h.lnk k z hz h1
 ·obtain⟨z,hz,rfl⟩:=cs 1 y hy;exact h.rl z hz
 ·obtain⟨z,hz,rfl⟩:=cs k y hy;obtain⟨lz,hlz,rfl⟩:=Option.map_eq_some_iff.1 hl';rcases ent k lz s' w hk (by rw[hz];simp) (fun z' hz'=>by rw[hz]at hz';cases hz';exact hlz)with⟨e1,e2,e3⟩ | ⟨e1,e2⟩
  ·subst e1 e3;obtain⟨j,a,b,c',_⟩:=h.ent m d l s _ hm hl hlk;exact⟨n,rfl,by omega,hn1.2,_,back n x hn,fun e=>by show(if n=n/\x.kind=2 then _ else _)=_;rw[if_pos ⟨rfl,e⟩]⟩
  ·obtain⟨j,rfl,b,c',y',dd,e⟩:=h.ent k z lz s' w hz hlz e1;refine⟨j,rfl,b,c',_,back j y' dd,fun ek=> ?_⟩;have ek:y'.kind=2:=ek;show(if j=n/\y'.kind=2 then _ else y'.parent)=_;have hjn:j≠n:=fun ej=>by
    subst ej;rw[hn]at dd;cases dd
    obtain⟨j',a1,b1,c1,y1,d1,e1'⟩:=h.ent m d l s _ hm hl hlk;have:j'=j:=by omega
    subst this;rw[hn]at d1;cases d1
    have p1:=e ek;have p2:=e1' ek;have hkm:k=m:=by omega
    subst hkm;rw[hm]at hz;cases hz
    rw[hl]at hlz;cases hlz
    have c2:=cntD_two (e2 rfl) hlk e1;have c3:cntO (st.nod k) j'<=sumN 201 (fun i=>cntO (st.nod i) j'):=sumN_ge 201 (f:=fun i=>cntO (st.nod i) j') (i:=k) (by omega);have c4:cntO (st.nod k) j'=cntD l j':=by rw[hm];unfold cntO;simp only[hl]
    obtain⟨l1,l2,l3,l4⟩:=h.lnk j' x hn (by omega);have l5:=l4 ek;have c5:cntE st j'=sumN 201 (fun i=>cntO (st.nod i) j'):=rfl;omega
   rw[if_neg (fun h'=>hjn h'.1)];exact e ek
 ·obtain⟨z,hz,rfl⟩:=cs k y hy;have hk:z.kind=2:=hk;by_cases e:k=n
  ·subst e;rw[hn]at hz;cases hz
   refine⟨mt,_,_,s2,by show(if k=k/\x.kind=2 then _ else _)=_;rw[if_pos ⟨rfl,hk⟩],back mt t ht,by show t.dir.map _=_;rw[hlt];rfl,?_⟩;unfold renF;rw[if_pos rfl,lookD_set,if_pos rfl]
  ·obtain⟨p,x',l',s',a,b,c',dd⟩:=h.par k z hz hk h1;refine⟨p,_,_,s',by show(if k=n/\z.kind=2 then _ else z.parent)=_;rw[if_neg (fun h'=>e h'.1)];exact a,back p x' b,by show x'.dir.map _=_;rw[c'];rfl,?_⟩;have inner:lookD s' (if p=m then delD s l' else l')=some ((k:Nat):Int):=by
    by_cases ep:p=m
    ·rw[if_pos ep];subst ep;rw[hm]at b;cases b
     rw[hl]at c';cases c'
     rw[lookD_del (fun es=>by subst es;rw[hlk]at dd;injection dd with dd;omega)];exact dd
    ·rw[if_neg ep];exact dd
   unfold renF;by_cases ep:p=mt
   ·rw[if_pos ep,lookD_set];rw[if_neg (fun es=>by
     subst es;subst ep;rw[ht]at b;cases b
     rw[hlt]at c';cases c'
     rw[hs2]at inner;cases inner)]
    exact inner
   ·rw[if_neg ep];exact inner
 ·by_cases hxk:x.kind=2
  ·refine⟨fun k=>if upC st (rk k+1) k (n:Nat)=true then rk k+rk mt+1 else rk k,fun k y hy hk h1=> ?_⟩;obtain⟨z,hz,rfl⟩:=cs k y hy;have hk:z.kind=2:=hk;obtain⟨p,a,b,c',y',dd,e⟩:=hR k z hz hk h1;by_cases ek:k=n
   ·subst ek;rw[hn]at hz;cases hz
    refine⟨mt,by show(if k=k/\x.kind=2 then _ else _)=_;rw[if_pos ⟨rfl,hk⟩],?_,ht1.2,_,back mt t ht,htk⟩;show(if upC st (rk mt+1) mt (k:Nat)=true then _ else _)<(if upC st (rk k+1) k (k:Nat)=true then _ else _);have e1:upC st (rk k+1) k (k:Nat)=true:=by unfold upC;rw[if_pos rfl]
    rw[hnb hxk,e1,if_neg (by simp),if_pos rfl];omega
   ·refine⟨p,by show(if k=n/\z.kind=2 then _ else z.parent)=_;rw[if_neg (fun h'=>ek h'.1)];exact a,?_,c',_,back p y' dd,e⟩;show(if upC st (rk p+1) p (n:Nat)=true then _ else _)<(if upC st (rk k+1) k (n:Nat)=true then _ else _);rw[upC_step hR hz hk h1 (show(k:Int)≠(n:Nat) by omega) a];split<;>omega
  ·refine⟨rk,fun k y hy hk h1=> ?_⟩;obtain⟨z,hz,rfl⟩:=cs k y hy;have hk:z.kind=2:=hk;obtain⟨p,a,b,c',y',dd,e⟩:=hR k z hz hk h1;refine⟨p,?_,b,c',_,back p y' dd,e⟩;show(if k=n/\z.kind=2 then _ else z.parent)=_;rw[if_neg (fun h'=>by obtain⟨e1,e2⟩:=h';subst e1;rw[hn]at hz;cases hz;exact hxk e2)];exact a
 ·obtain⟨z,hz,rfl⟩:=cs k y hy;obtain⟨lz,hlz,rfl⟩:=Option.map_eq_some_iff.1 hl';have hs:=h.srt k z lz hz hlz;unfold renF;have a:SrtN (if k=m then delD s lz else lz):=by
   split
   ·exact hs.del
   ·exact hs
  split
  ·exact a.set hse
  ·exact a
end Go.Shade
namespace Go.Shade
variable {H : Heap} {b c : Nat} {i : Int} {own : Nat -> Nat} {r : Out} {s : Nam} {st : Brs}
def ActP (c:Nat)(own:Nat->Nat)(H:Heap)(b:Nat)(r:Out):Prop:=∃own' st',Aft own H b r own' st'/\BInv (c+1) st'
theorem MakeP.act {kind:Int}{target:Nam}(hI:BInv c st)(h:MakeP own H b st i s kind target r):ActP c own H b r:=by
 obtain⟨own',st',hA,h | ⟨m,n,d,x,l,it,rfl,h1,h2,h3,h4,h5,h6,h7,h8,h9,h10,h11,h12⟩⟩:=h
 ·obtain⟨_,_,_,rfl⟩:=h;exact⟨own',_,hA,hI.mono (by omega)⟩
 ·subst h12;exact⟨own',_,hA,hI.make h1 h2 h3 h4 h5 h6 h7 h8 h9 h11⟩
theorem LinkP.act {t:Int}(hI:BInv c st)(h:LinkP own H b st i s t r):ActP c own H b r:=by
 obtain⟨own',st',hA,_,rfl | ⟨m,n,d,x,l,rfl,rfl,h1,h2,h3,h4,h5,h6,h7,h8,h9,h10,rfl⟩⟩:=h
 ·exact⟨own',_,hA,hI.mono (by omega)⟩
 ·exact⟨own',_,hA,hI.link h1 h2 h3 h4 h5 h6 h7 h8 h9⟩
theorem MarkP.act {v:Int}(hI:BInv c st)(h:MarkP own H b st i v r):ActP c own H b r:=by
 obtain⟨_,own',st',hA,⟨_,rfl⟩ | ⟨n,x,h1,rfl,rfl⟩⟩:=h
 ·exact⟨own',_,hA,hI.mono (by omega)⟩
 ·exact⟨own',_,hA,(hI.mark h1 v).mono (by omega)⟩
theorem UnlP.act (hI:BInv c st)(h:UnlP own H b st i s r):ActP c own H b r:=by
 obtain⟨own',st',hA,_,⟨_,rfl⟩ | ⟨m,n,d,x,l,rfl,h1,h2,h3,h4,h5,h6,h7,rfl⟩⟩:=h
 ·exact⟨own',_,hA,hI.mono (by omega)⟩
 ·obtain⟨rk,hR⟩:=hI.rank;have hn1:n≠1:=fun e=>by
   obtain⟨z,hz,hk⟩:=hI.root;subst e;rw[hz]at h5;cases h5;exact h6 hk
  obtain⟨_,a,_,_⟩:=hI.lnk n x h5 hn1;exact⟨own',_,hA,(hI.away h1 h2 h3 h4 h5 h7 (fun e=>absurd e h6) (awayS h7 a (hI.hold n x h5)) hR).1.mono (by omega)⟩
theorem RenP.act {rk:Nat->Nat}{to:Int}{s2:Nam}(hI:BInv c st)(hR:RankInv st rk)(h:RenP rk own H b st i s to s2 r):ActP c own H b r:=by
 obtain⟨own',st',hA,_,rfl | ⟨m,mt,n,d,t,x,l,lt,st1,rfl,rfl,hD,rfl⟩⟩:=h
 ·exact⟨own',_,hA,hI.mono (by omega)⟩
 ·obtain⟨hnm,hnt,d1,l1,t1,lt1,f1,f2,f3,f4,f5,f6,f7,g1,g2,g3,g4,g5,g6,hx1,hdt⟩:=hD.facts hI.ki hI.ei hR;have hsl:=(hI.srt mt t lt hD.ht hD.htl).1;have key:BInv c st1/\RankInv st1 rk/\t1.kind=2/\lookD s2 lt1=none/\∀k y,st1.nod k=some y->∃z,st.nod k=some z/\z.parent=y.parent:=by
   rcases hD.st1 with⟨h0,rfl⟩ | ⟨n2,y,h0,h1,h2,h3,h4,rfl⟩
   ·have:=hD.ht;rw[g1]at this;cases this
    have:=hD.htl;rw[g5]at this;cases this
    exact⟨hI,hR,hD.htk,h0,fun k y hy=>⟨y,hy,rfl⟩⟩
   ·have hn2t:n2≠mt:=fun e=>by
     subst e;rw[hD.ht]at h2;cases h2
     have:=h4 hD.htk;rw[hD.htl]at this;cases this
     cases h0
    have hn1:n2≠1:=fun e=>by
     obtain⟨j,e1,j2,_⟩:=hI.ent mt t lt s2 _ hD.ht hD.htl h0;omega
    obtain⟨_,a,_,_⟩:=hI.lnk n2 y h2 hn1;have hS:=awayS (st:=st) (m:=mt) (d:=t) (l:=lt) (s:=s2) hn2t a (hI.hold n2 y h2);obtain⟨i1,i2⟩:=hI.away hD.ht hD.htk hD.htl h0 h2 hn2t h4 hS hR;have:=hS.nm;rw[g1]at this;injection this with this
    subst this;injection g5 with g5
    subst g5;refine⟨i1,i2,hD.htk,lookD_del_self hsl,fun k z hz=> ?_⟩;by_cases e1:k=mt
    ·subst e1;rw[hS.nm]at hz;cases hz;exact⟨t,hD.ht,rfl⟩
    ·by_cases e2:k=n2
     ·subst e2;rcases hS.nn with⟨_,e,_⟩ | ⟨_,e,_⟩
      ·rw[e]at hz;cases hz;exact⟨y,h2,rfl⟩
      ·rw[e]at hz;cases hz
     ·rw[hS.no k e1 e2]at hz;exact⟨z,hz,rfl⟩
  obtain⟨i1,i2,i3,i4,i5⟩:=key;exact⟨own',_,hA,i1.ren f1 f5 f6 g1 i3 g5 hD.hse i4 hx1 hnm hnt i2 fun hk=>by rw[upC_same i2 i5 _ _ t1 g1 i3];exact hD.nb hk⟩
theorem NewBr.okM {B:Nat}{K:Heap}{b:Nat}{room:Int}(h:NewBr B K b room)(hB:B<=b):∃own st,BrOk own K b st/\BInv 0 st/\(∀j,own j≠0->B<=j)/\∀k y,st.nod k=some y->y.marks=0:=by
 obtain⟨s,q,d,x,P,a1,a2,a3,a4,a5,a6,b1,b2,b3,b4,b5,b6,b7,b8⟩:=h.ex
 let nd:Nod:= { p:=x,q:=d,kind:=2,links:=1,holds:=0,marks:=0,parent:=1,body:=false,dir:=some [],target:=[] }
 let st:Brs:= { s:=s,q:=q,k:=199,free:=upQ 199,nod:=fun k=>if k=1 then some nd else none }
 obtain⟨p1,p2,sv,p3,p4⟩:=id a5;have hq:P q:=p1
 classical
 let own:Nat->Nat:=fun j=>if j=b then 203 else if j=s then 201 else if P j then 202 else if j=x∨j=d then 1 else 0
 have hPn:∀j,P j->j≠b/\j≠s/\j≠x/\j≠d:=fun j hj=>by
  rcases b8 j hj with e | e<;>omega
 have o1:own b=203:=if_pos rfl;have o2:own s=201:=by show(if s=b then _ else _)=_;rw[if_neg (by omega),if_pos rfl]
 have o3:∀j,P j↔own j=202:=fun j=>by
  show P j↔(if j=b then 203 else if j=s then 201 else if P j then 202 else if j=x∨j=d then 1 else 0)=202;by_cases e1:j=b
  ·rw[if_pos e1];exact⟨fun h=>absurd e1 (hPn j h).1,fun h=>by omega⟩
  ·rw[if_neg e1];by_cases e2:j=s
   ·rw[if_pos e2];exact⟨fun h=>absurd e2 (hPn j h).2.1,fun h=>by omega⟩
   ·rw[if_neg e2];by_cases e3:P j
    ·rw[if_pos e3];simp[e3]
    ·rw[if_neg e3];refine⟨fun h=>absurd h e3,fun h=> ?_⟩;split at h<;>omega
 have hnx:¬P x:=fun h=>(hPn x h).2.2.1 rfl;have hnd:¬P d:=fun h=>(hPn d h).2.2.2 rfl;have o4:own x=1:=by show(if x=b then _ else _)=_;rw[if_neg (by omega),if_neg (by omega),if_neg hnx,if_pos (.inl rfl)]
 have o5:own d=1:=by show(if d=b then _ else _)=_;rw[if_neg (by omega),if_neg (by omega),if_neg hnd,if_pos (.inr rfl)]
 have lb:=(ges a1).1;have ls:=(ges a2).1;have lx:=(ges a3).1;have ld:=(ges a4).1;have o6:∀j,own j≠0->j=b∨j=s∨P j∨j=x∨j=d:=fun j hj=>by
  by_cases e1:j=b
  ·exact .inl e1
  ·by_cases e2:j=s
   ·exact .inr (.inl e2)
   ·by_cases e3:P j
    ·exact .inr (.inr (.inl e3))
    ·refine .inr (.inr (.inr ?_));have:own j=if j=x∨j=d then 1 else 0:=by show(if j=b then _ else _)=_;rw[if_neg e1,if_neg e2,if_neg e3]
     rw[this]at hj;split at hj
     ·assumption
     ·exact absurd rfl hj
 have hlt:∀j,own j≠0->j<K.length:=fun j hj=>by
  rcases o6 j hj with rfl | rfl | h | rfl | rfl
  ·exact lb
  ·exact ls
  ·exact p2 j h
  ·exact lx
  ·exact ld
 have hcells:st.cells=rootC x:=by
  refine List.ext_getElem? fun k=> ?_;by_cases hk:k<201
  ·rw[st.cells_get hk];show some (match (if k=1 then some nd else none:Option Nod)with | none=>IV.nilPtr | some y=>.ptr y.p 0)=_
   match k,hk with
   | 0,_=>rfl
   | 1,_=>rfl
   | k+2,hk =>
    rw[if_neg (by omega)];unfold rootC;rw[List.getElem?_cons_succ,List.getElem?_cons_succ,List.getElem?_replicate,if_pos (by omega)]
  ·rw[List.getElem?_eq_none (by rw[st.cells_length];omega),List.getElem?_eq_none (by unfold rootC;rw[List.length_cons,List.length_cons,List.length_replicate];omega)]
 have only:∀k y,st.nod k=some y->k=1/\y=nd:=fun k y hy=>by
  have:(if k=1 then some nd else none)=some y:=hy;split at this
  ·cases this;exact⟨by assumption,rfl⟩
  ·cases this
 refine⟨own,st,⟨o1,o2,by rw[hcells];exact a1,⟨room,0,rfl,a2⟩,a5.iff o3,fun k y hy=> ?_,hlt⟩,⟨⟨fun k y hy=> ?_,fun k y hy=> ?_,fun k y hy=> ?_⟩,fun k y l hy hl=> ?_,fun it hi=> ?_,?_,⟨nd,rfl,rfl⟩,fun k y hy=> ?_,fun k y hy=> ?_,fun k y hy h1=> ?_,fun y hy=> ?_,fun k y l s w hy hl hk=> ?_,fun k y hy hk h1=> ?_,⟨fun _=>0,fun k y hy hk h1=> ?_⟩,fun k y l hy hl=> ?_⟩,fun j hj=> ?_,fun k y hy=> ?_⟩
 ·obtain⟨rfl,rfl⟩:=only k y hy;refine⟨Nat.le_refl _,by omega,o4,fun j hj=>hlt j (by omega),a3,(fun hb=>by cases hb),fun l hl=> ?_,fun hb=>by cases hb⟩
  cases hl
  exact⟨⟨o5,by show d≠x;omega⟩,fun j hj=>hlt j (by have:=hj.1;omega),⟨.nilSlice,a4,.inl ⟨rfl,rfl⟩⟩,trivial⟩
 ·obtain⟨rfl,rfl⟩:=only k y hy;exact⟨fun _=>rfl,fun _=>rfl⟩
 ·obtain⟨rfl,rfl⟩:=only k y hy;show(2:Int)=1↔false=true;decide
 ·obtain⟨rfl,rfl⟩:=only k y hy;show(1:Int)<=2/\(2:Int)<=4;decide
 ·obtain⟨rfl,rfl⟩:=only k y hy;cases hl;exact Nat.le_refl _
 ·obtain⟨j,hj,rfl⟩:=List.mem_map.1 hi;rw[List.mem_range]at hj;exact⟨j+2,by simp,by omega,by omega,by show(if j+2=1 then some nd else none)=none;rw[if_neg (by omega)]⟩
 ·show((upQ 199).map (·.n)).Nodup;unfold upQ;rw[List.map_map];exact List.Pairwise.map _ (fun a b h e=>h (by have e:((a:Nat):Int)+2=(b:Nat)+2:=e;omega)) List.nodup_range
 ·obtain⟨rfl,rfl⟩:=only k y hy;omega
 ·obtain⟨rfl,rfl⟩:=only k y hy;rfl
 ·exact absurd (only k y hy).1 h1
 ·obtain⟨_,rfl⟩:=only 1 y hy;show(1:Int)<=1/\(1:Int)<=20;decide
 ·obtain⟨rfl,rfl⟩:=only k y hy;cases hl;cases hk
 ·exact absurd (only k y hy).1 h1
 ·exact absurd (only k y hy).1 h1
 ·obtain⟨rfl,rfl⟩:=only k y hy;cases hl;exact⟨trivial,fun _ h=>by cases h⟩
 ·rcases o6 j hj with rfl | rfl | h | rfl | rfl
  ·exact hB
  ·exact b1
  ·rcases b8 j h with e | e<;>omega
  ·omega
  ·omega
 ·obtain⟨rfl,rfl⟩:=only k y hy;rfl
theorem NewBr.ok {B:Nat}{K:Heap}{room:Int}(h:NewBr B K b room)(hB:B<=b):∃own st,BrOk own K b st/\BInv 0 st/\∀j,own j≠0->B<=j:=by
 obtain⟨own,st,h1,h2,h3,_⟩:=h.okM hB;exact⟨own,st,h1,h2,h3⟩
end Go.Shade
