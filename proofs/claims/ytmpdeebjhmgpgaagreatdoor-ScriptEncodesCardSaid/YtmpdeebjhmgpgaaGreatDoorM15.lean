/- Part 15 of the proof. -/
import Derived.Test.YtmpdeebjhmgpgaaGreatDoorM14
import Derived.Test.YtmpdeebjhmgpgaaGreatDoorM2
import Derived.KernelRfl
import Derived.Test.YtmpdeebjhmgpgaaGreatDoorM3
set_option linter.all false
namespace Go.Shade
variable {N : Nat} {cal : FuncId -> Bool} {O : Oracle}
theorem may_key (c:Cl):c.may=(!(((((decide (c.op<1)||decide (20<c.op))||decide (c.fd< -4))||decide (35<c.fd))||decide (c.fl<0))||decide (63<c.fl))&&(((((decide (-256<=c.n)&&decide (c.n<=65279))&&decide (-256<=c.off))&&decide (c.off<=65279))&&decide ((c.a.length:Int)<=63))&&decide ((c.b.length:Int)<=63))):=by
 rw[Bool.eq_iff_iff,Cl.may_iff];simp only[Bool.and_eq_true,Bool.not_eq_true',Bool.or_eq_false_iff,decide_eq_true_eq,decide_eq_false_iff_not];omega
theorem ref_may (c:Cl)(H:Heap):vr08MayS cal O N (.agg c.cells) H=some (.bool c.may,H++[IObj.row c.cells false]):=by
 unfold vr08MayS;rw[may_key];have hb:lbox H (.agg c.cells)=some (.ptr H.length 0,H++[IObj.row c.cells false]):=lbox_agg rfl;simp only[hb,go_sem]
 cases h1:decide (c.op<1)
 case true=>simp only[go_sem,Cl.cells,h1,Bool.true_or,Bool.not_true,Bool.false_and]
 cases h2:decide (20<c.op)
 case true=>simp only[go_sem,Cl.cells,h1,h2,Bool.true_or,Bool.or_true,Bool.not_true,Bool.false_and]
 cases h3:decide (c.fd< -4)
 case true=>simp only[go_sem,Cl.cells,h1,h2,h3,Bool.true_or,Bool.or_true,Bool.not_true,Bool.false_and]
 cases h4:decide (35<c.fd)
 case true=>simp only[go_sem,Cl.cells,h1,h2,h3,h4,Bool.true_or,Bool.or_true,Bool.not_true,Bool.false_and]
 cases h5:decide (c.fl<0)
 case true=>simp only[go_sem,Cl.cells,h1,h2,h3,h4,h5,Bool.true_or,Bool.or_true,Bool.not_true,Bool.false_and]
 cases h6:decide (63<c.fl)
 case true=>simp only[go_sem,Cl.cells,h1,h2,h3,h4,h5,h6,Bool.true_or,Bool.or_true,Bool.not_true,Bool.false_and]
 cases k1:decide (-256<=c.n)
 case false=>simp only[go_sem,Cl.cells,h1,h2,h3,h4,h5,h6,k1,Bool.or_false,Bool.not_false,Bool.true_and,Bool.false_and]
 cases k2:decide (c.n<=65279)
 case false=>simp only[go_sem,Cl.cells,h1,h2,h3,h4,h5,h6,k1,k2,Bool.or_false,Bool.not_false,Bool.true_and,Bool.false_and]
 cases k3:decide (-256<=c.off)
 case false=>simp only[go_sem,Cl.cells,h1,h2,h3,h4,h5,h6,k1,k2,k3,Bool.or_false,Bool.not_false,Bool.true_and,Bool.false_and]
 cases k4:decide (c.off<=65279)
 case false=>simp only[go_sem,Cl.cells,h1,h2,h3,h4,h5,h6,k1,k2,k3,k4,Bool.or_false,Bool.not_false,Bool.true_and,Bool.false_and]
 cases k5:decide ((c.a.length:Int)<=63)
 case false=>simp only[go_sem,Cl.cells,h1,h2,h3,h4,h5,h6,k1,k2,k3,k4,k5,Bool.or_false,Bool.not_false,Bool.true_and,Bool.false_and]
 simp only[go_sem,Cl.cells,h1,h2,h3,h4,h5,h6,k1,k2,k3,k4,k5,Bool.or_false,Bool.not_false,Bool.true_and]
def RMayOk (O:Oracle)(f:FuncId):Prop:=∀(c:Cl) (H:Heap),O f [.agg c.cells] H=some (.bool c.may,H++[IObj.row c.cells false])
theorem ub_mod' (x:Int):ub (x % 256)=ub x:=by unfold ub;rw[Int.emod_emod]
theorem ref_two {x:Int}(h1: -256<=x)(h2:x<=65279)(H:Heap):vr08TwoS cal O N (.int .i64 x) H=some (.slice H.length 0 2 2 true 1,H++[IObj.row (bytes [ub ((x+256) / 256),ub (x+256)]) false]):=by
 unfold vr08TwoS;rw[lbin_add,ob_some,wrap_i64 (by omega) (by omega),lbin_quo (by decide),ob_some,Int.tdiv_eq_ediv_of_nonneg (by omega),wrap_i64 (by omega) (by omega),lcvt_int,ob_some,wrap_u8,ob_some,lbin_rem (by decide),ob_some,Int.tmod_eq_emod_of_nonneg (by omega),lcvt_int,ob_some,wrap_u8,ub_mod'];rfl
def RTwoOk (O:Oracle)(f:FuncId):Prop:=∀(x:Int) (H:Heap),-256<=x->x<=65279->O f [.int .i64 x] H=some (.slice H.length 0 2 2 true 1,H++[IObj.row (bytes [ub ((x+256) / 256),ub (x+256)]) false])
def REncP (c:Cl)(H:Heap)(r:Out):Prop:=Kp H r.2/\((c.may=true/\∃v',r.1=.tuple [v',.int .i64 0]/\BS r.2 v' c.enc/\low r.2.length v')∨(c.may=false/\r.1=.tuple [.nilSlice,.int .i64 22]))
def REncOk (O:Oracle)(f:FuncId):Prop:=∀(c:Cl) (H:Heap),Wp (O f [.agg c.cells] H) (REncP c H)
theorem Buf.push {B s:Nat}{H:Heap}{v:IV}{cs:List IV}(h:Buf B s H v cs)(X:Heap):Buf B s (H++X) v cs :=
 h.keep (Keep.push (B:=H.length) H X (Nat.le_refl _)) (fun r n m ex e=>by
  rcases h with⟨e',_⟩ | ⟨r',n',ex',e',_,hr,_⟩
  ·rw[e]at e';cases e'
  ·rw[e]at e';cases e';exact(ges hr).1)
theorem newBS (K:Heap)(bs:List UInt8){n:Nat}(hn:n=bs.length){ex:Bool}:BS (K++[IObj.row (bytes bs) false]) (.slice K.length 0 n n ex 1) bs:=by
 subst hn;exact ownBS (by simp)
theorem ref_enc {fm ft:FuncId}(hm:RMayOk O fm)(ht:RTwoOk O ft)(c:Cl)(H:Heap):Wp (vr08EncodeS cal O N fm ft (.agg c.cells) H) (REncP c H):=by
 unfold vr08EncodeS;have hb:lbox H (.agg c.cells)=some (.ptr H.length 0,H++[IObj.row c.cells false]):=lbox_agg rfl;rw[hb,ob_some];simp only;have r1:(H++[IObj.row c.cells false])[H.length]? =some (.row c.cells false):=by simp
 rw[cell7 r1,ob_some,hm,ob_some];simp only;have kk:Keep (H.length+1) (H++[IObj.row c.cells false]) (H++[IObj.row c.cells false]++[IObj.row c.cells false]):=Keep.push _ _ (by simp);have kh:Keep H.length H (H++[IObj.row c.cells false]):=Keep.push _ _ (Nat.le_refl _);have l1:(H++[IObj.row c.cells false]).length=H.length+1:=by simp
 generalize H++[IObj.row c.cells false]=K at *;have kc:∀{K'},Keep (H.length+1) K K'->K'[H.length]? =some (.row c.cells false):=fun k=>k.get (by omega) r1;have hl:∀{K'},Keep (H.length+1) K K'->H.length+1<=K'.length:=fun k=>by have:=k.2;omega
 rw[iun_not,ob_some]
 cases hmay:c.may with
 | false =>
  rw[Bool.not_false,cnd_true];exact Wp.ret ⟨kh.trans (kk.mono (by omega)),.inr ⟨hmay,rfl⟩⟩
 | true =>
  rw[Bool.not_true,cnd_false];generalize K++[IObj.row c.cells false]=K1 at *;obtain⟨⟨m1,m2⟩,⟨m3,m4⟩,⟨m5,m6⟩,⟨m7,m8⟩,⟨m9,m10⟩,m11,m12⟩:=c.may_iff.1 hmay;have hcell:∀{K'},Keep (H.length+1) K K'->∀k,lload1 K' (.ptr H.length k)=c.cells[k]? :=by
   intro K' h k;rw[lload1_ptr,kc h];rfl
  have w3:IntKind.wrap .i64 (c.op - 1)=c.op - 1:=wrap_i64 (by omega) (by omega);have w4:IntKind.wrap .i64 (c.fd+4)=c.fd+4:=wrap_i64 (by omega) (by omega);simp only[loff_ptr,Nat.zero_add,ob_some,hcell kk,Cl.c0,Cl.c1,Cl.c2,Cl.c3,Cl.c4,Cl.c5,Cl.c6,lbin_sub,lbin_add,w3,w4,lcvt_int,wrap_u8];have z1:lbldS K1 1 3 [.int .u8 0] [(0,.int .u8 ((ub (c.op - 1)).toNat:Int)),(1,.int .u8 ((ub (c.fd+4)).toNat:Int)),(2,.int .u8 ((ub c.fl).toNat:Int))]=some (.slice K1.length 0 3 3 true 1,K1++[.row (bytes [ub (c.op - 1),ub (c.fd+4),ub c.fl]) false]):=rfl;rw[z1,ob_some];simp only;have k2:=kk.trans (Keep.push K1 [.row (bytes [ub (c.op - 1),ub (c.fd+4),ub c.fl]) false] (hl kk));have b2:Buf (H.length+1) 1 (K1++[.row (bytes [ub (c.op - 1),ub (c.fd+4),ub c.fl]) false]) (.slice K1.length 0 3 3 true 1) (bytes [ub (c.op - 1),ub (c.fd+4),ub c.fl]):=.inr ⟨_,3,true,rfl,hl kk,by simp,rfl⟩;generalize K1++[.row (bytes [ub (c.op - 1),ub (c.fd+4),ub c.fl]) false]=K2 at *;simp only[hcell k2,Cl.c3,ob_some];rw[ht _ _ m7 m8,ob_some];simp only;have k3:=k2.trans (Keep.push K2 [IObj.row (bytes [ub ((c.n+256) / 256),ub (c.n+256)]) false] (hl k2));obtain⟨v3,K3,a3,b3,q3⟩:=app_bs (b2.push [IObj.row (bytes [ub ((c.n+256) / 256),ub (c.n+256)]) false]) (hl k3) (newBS K2 [ub ((c.n+256) / 256),ub (c.n+256)] (n:=2) rfl) (by simp);have k4:=k3.trans q3;rw[a3,ob_some];simp only[hcell k4,Cl.c4,ob_some];rw[ht _ _ m9 m10,ob_some];simp only;have k5:=k4.trans (Keep.push K3 [IObj.row (bytes [ub ((c.off+256) / 256),ub (c.off+256)]) false] (hl k4));obtain⟨v4,K4,a4,b4,q4⟩:=app_bs (b3.push [IObj.row (bytes [ub ((c.off+256) / 256),ub (c.off+256)]) false]) (hl k5) (newBS K3 [ub ((c.off+256) / 256),ub (c.off+256)] (n:=2) rfl) (by simp);have k6:=k5.trans q4;rw[a4,ob_some];simp only[hcell k6,Cl.c5,ob_some,llen_str,lcvt_int,wrap_u8];have z2:∀(K:Heap) (x:UInt8),lbldS K 1 1 [.int .u8 0] [(0,.int .u8 (x.toNat:Int))]=some (.slice K.length 0 1 1 true 1,K++[.row (bytes [x]) false]):=fun K x=>rfl;rw[z2,ob_some];simp only;have k7:=k6.trans (Keep.push K4 [IObj.row (bytes [ub (c.a.length:Nat)]) false] (hl k6));obtain⟨v5,K5,a5,b5,q5⟩:=app_bs (b4.push [IObj.row (bytes [ub (c.a.length:Nat)]) false]) (hl k7) (newBS K4 [ub (c.a.length:Nat)] (n:=1) rfl) (by simp);have k8:=k7.trans q5;rw[a5,ob_some];simp only[hcell k8,Cl.c5,ob_some];obtain⟨v6,K6,a6,b6,q6⟩:=app_str (b:=1) (l:=c.a) b5 (hl k8) (by simp[bytes_length];omega);have k9:=k8.trans q6;rw[a6,ob_some];simp only[hcell k9,Cl.c6,ob_some,llen_str,lcvt_int,wrap_u8];rw[z2,ob_some];simp only;rw[←bytes_append]at b6;have k10:=k9.trans (Keep.push K6 [IObj.row (bytes [ub (c.b.length:Nat)]) false] (hl k9));obtain⟨v7,K7,a7,b7,q7⟩:=app_bs (b6.push [IObj.row (bytes [ub (c.b.length:Nat)]) false]) (hl k10) (newBS K6 [ub (c.b.length:Nat)] (n:=1) rfl) (by simp;omega);have k11:=k10.trans q7;rw[a7,ob_some];simp only[hcell k11,Cl.c6,ob_some];obtain⟨v8,K8,a8,b8,q8⟩:=app_str (b:=1) (l:=c.b) b7 (hl k11) (by simp[bytes_length];omega);have k12:=k11.trans q8;rw[a8,ob_some];rw[←bytes_append]at b8;refine Wp.ret ⟨kh.trans (k12.mono (by omega)),.inl ⟨hmay,v8,rfl,?_,b8.bs.2.2⟩⟩;have:=b8.bs.1
  simpa[Cl.enc]using this
end Go.Shade
namespace Go.Shade
variable {l : List Cl}
def RScrP (l:List Cl)(H:Heap)(r:Out):Prop:=Kp H r.2/\((okScr l=true/\∃v',r.1=.tuple [v',.int .i64 0]/\BS r.2 v' (encs l)/\low r.2.length v')∨(okScr l=false/\r.1=.tuple [.nilSlice,.int .i64 22]))
theorem encs_snoc (l:List Cl)(c:Cl):encs (l++[c])=encs l++c.enc:=by simp[encs]
theorem take_snoc {i:Nat}{c:Cl}(h:l[i]? =some c):l.take (i+1)=l.take i++[c]:=by
 have hlt:=(ges h).1;have he:=(ges h).2;rw[List.take_succ_eq_append_getElem hlt,he]
theorem ref_script_go {cal:FuncId->Bool}{O:Oracle}{N:Nat}{fe:FuncId}(he:REncOk O fe){v:IV}{H0:Heap}(hl:low H0.length v)(hc0:CS H0 v l)(h200:l.length<=200) :
  ∀(d i n:Nat) (w:IV) (H:Heap),i+d=l.length->d<n->Keep H0.length H0 H->(l.take i).all Cl.may=true->Buf H0.length 1 H w (bytes (encs (l.take i))) ->
   Wp (vr08ScriptC0S cal O N fe (fun v4 H=>some ((.tuple [v4,(.int .i64 0)]),H)) n v w (.int .i64 (i:Nat)) H) (RScrP l H0):=by
 intro d
 induction d with
 | zero =>
  intro i n w H hi hn hK hm hw;obtain⟨n,rfl⟩:∃j,n=j+1:=⟨n - 1,by omega⟩;have hc:=hc0.keep' hl hK;rw[vr08ScriptC0S,hc.len,ob_some,lbin_lss,ob_some,decide_eq_false (by omega),cnd_false];rw[List.take_of_length_le (by omega)]at hm hw;obtain⟨b1,b2,b3⟩:=hw.bs;exact Wp.ret ⟨hK,.inl ⟨by unfold okScr;rw[decide_eq_true h200,hm];rfl,w,rfl,b1,b3⟩⟩
 | succ d ih =>
  intro i n w H hi hn hK hm hw;obtain⟨n,rfl⟩:∃j,n=j+1:=⟨n - 1,by omega⟩;have hc:=hc0.keep' hl hK;rw[vr08ScriptC0S,hc.len,ob_some,lbin_lss,ob_some,decide_eq_true (by omega),cnd_true];have e1:=List.getElem?_eq_getElem (l:=l) (i:=i) (by omega);obtain⟨b1,o1,x1,y1⟩:=hc.at e1;rw[x1,ob_some,y1,ob_some];generalize hcc:l[i]=c at *;refine Wp.call (he c H) ?_;rintro⟨r,H2⟩ ⟨k2,h⟩;have kk:=hK.trans (k2.mono hK.2);rcases h with⟨hmay,v',e,hb,hlo⟩ | ⟨hmay,e⟩
  ·simp only at e hb hlo k2 ⊢;subst e;rw[iextract_tuple,iextract_tuple];simp only[List.getElem?_cons_zero,List.getElem?_cons_succ,ob_some,lbin_neq,decide_true,Bool.not_true,cnd_false];have hw':Buf H0.length 1 H2 w (bytes (encs (l.take i))):=hw.keep k2 (fun r n m ex e=>by
    rcases hw with⟨e',_⟩ | ⟨r',n',ex',e',_,hr,_⟩
    ·rw[e]at e';cases e'
    ·rw[e]at e';cases e';exact(ges hr).1)
   have n1:=encs_len hm;have n2:=enc_len hmay;have n3:(l.take i).length<=200:=by simp;omega
   obtain⟨w3,H3,a3,b3,k3⟩:=app_bs hw' kk.2 hb (by omega);rw[a3,ob_some];simp only;rw[lbin_add,ob_some,wrap_i64 (by omega) (by omega),show((i:Nat):Int)+1=((i+1:Nat):Int) by omega];rw[←encs_snoc,←take_snoc e1]at b3;exact ih (i+1) n w3 H3 (by omega) (by omega) (kk.trans k3) (by rw[take_snoc e1,List.all_append,hm];simp[hmay]) b3
  ·simp only at e k2 ⊢;subst e;rw[iextract_tuple,iextract_tuple];have h22:decide ((22:Int)=0)=false:=rfl;simp only[List.getElem?_cons_zero,List.getElem?_cons_succ,ob_some,lbin_neq,h22,Bool.not_false,cnd_true];refine Wp.ret ⟨kk,.inr ⟨?_,rfl⟩⟩;unfold okScr;rw[Bool.and_eq_false_iff];right;rw[List.all_eq_false];exact⟨c,List.mem_of_getElem? e1,by simp[hmay]⟩
theorem ref_script {cal:FuncId->Bool}{O:Oracle}{N:Nat}{fe:FuncId}(hN:200<N)(he:REncOk O fe){v:IV}{H:Heap}(hl:low H.length v)(hc:CS H v l):Wp (vr08ScriptS cal O N fe v H) (RScrP l H):=by
 unfold vr08ScriptS vr08ScriptC6S vr08ScriptC5S vr08ScriptC4S vr08ScriptC3S vr08ScriptC2S vr08ScriptC1S;have z:lbldS H 1 0 [(.int .u8 0)] []=some (.slice H.length 0 0 0 true 1,H++[.row [] false]):=rfl;rw[z,ob_some];simp only;have k1:Keep H.length H (H++[.row [] false]):=Keep.push H _ (Nat.le_refl _);rw[(hc.keep' hl k1).len,ob_some,lbin_gtr,ob_some];refine Wp.dec (fun h=>Wp.ret ⟨k1,.inr ⟨?_,rfl⟩⟩) (fun h=> ?_)
 ·unfold okScr;rw[decide_eq_false (by omega)];rfl
 ·exact ref_script_go he hl hc (by omega) l.length 0 N _ _ (by omega) (by omega) k1 rfl (.inr ⟨_,0,true,rfl,Nat.le_refl _,by simp[bytes,encs],rfl⟩)
def RScrOk (O:Oracle)(f:FuncId):Prop:=∀(H:Heap) (v:IV) (l:List Cl),low H.length v->CS H v l->Wp (O f [v] H) (RScrP l H)
section
variable {cal : FuncId -> Bool} {O : Oracle} {N : Nat} {aw e re m rm s rs : FuncId} (ha : AwakeOk O aw) (he : EncOk O e) (hre : REncOk O re) (hm : MayOk O m) (hrm : RMayOk O rm) (hs : ScriptOk O s) (hrs : RScrOk O rs)
include he hre hm hrm
end
end Go.Shade
namespace Go.Shade
theorem fit_u8 {H:Heap}{e:List IV}(h:Fits H [.int .u8] e):∃x:UInt8,e=[.int .u8 (x.toNat:Int)]:=by
 simp only[Fits,Fit]at h;obtain⟨v,r,rfl,⟨n,rfl,hw⟩,rfl⟩:=h;refine⟨UInt8.ofNat n.toNat,?_⟩;have hmin:IntKind.u8.min=0:=by decide
 have hmax:IntKind.u8.max=255:=by decide
 have:0<=n/\n<256:=by simp only[Lit.wf]at hw;simp[hmin,hmax]at hw;omega
 simp only[UInt8.toNat_ofNat',List.cons.injEq,IV.int.injEq,true_and,and_true];omega
theorem fit_rows {H:Heap}:∀{elems:List (List IV)},(∀e∈elems,Fits H [.int .u8] e)->∃bs:List UInt8,elems.flatten=bytes bs/\bs.length=elems.length
 | [],_=>⟨[],rfl,rfl⟩
 | e::es,h=>by
  obtain⟨x,rfl⟩:=fit_u8 (h e (by simp));obtain⟨bs,h1,h2⟩:=fit_rows (elems:=es) (fun e' he'=>h e' (List.mem_cons_of_mem _ he'));exact⟨x::bs,by simp[h1,bytes],by simp[h2]⟩
theorem fit_bytes {H:Heap}{v:IV}(h:Fit H (.sl [.int .u8]) v):∃bs,BS H v bs/\v.one=true/\low H.length v:=by
 simp only[Fit]at h;rcases h with rfl | ⟨b,n,elems,rfl,h2,h3,h4,h5⟩
 ·exact⟨[],.inl ⟨rfl,rfl⟩,rfl,fun _ _ _ _ _ _ e=>by cases e⟩
 ·obtain⟨bs,k1,k2⟩:=fit_rows h5;refine⟨bs.take n,.inr ⟨b,0,n,elems.length,true,0,rfl,h3,.inl rfl,by simp;omega,fun _=>⟨_,true,h2,fun i hi=> ?_⟩⟩,rfl,lowAt (ges h2).1⟩;rw[k1];have:i<bs.length:=by omega
  simp[bytes,this,hi,List.getD_eq_getElem?_getD]
end Go.Shade
namespace Go.Shade
def callT :List CT:=[.int .i64,.int .i64,.int .i64,.int .i64,.int .i64,.str,.str]
theorem fit_call {H:Heap}{e:List IV}(h:Fits H callT e):∃c:Cl,e=c.cells/\c.a.length<=maxLen/\c.b.length<=maxLen:=by
 simp only[callT,Fits,Fit]at h;obtain⟨_,_,rfl,⟨n1,rfl,_⟩,_,_,rfl,⟨n2,rfl,_⟩,_,_,rfl,⟨n3,rfl,_⟩,_,_,rfl,⟨n4,rfl,_⟩,_,_,rfl,⟨n5,rfl,_⟩,_,_,rfl,⟨s6,rfl,h6⟩,_,_,rfl,⟨s7,rfl,h7⟩,rfl⟩:=h;exact⟨⟨n1,n2,n3,n4,n5,s6,s7⟩,rfl,h6,h7⟩
theorem fit_crows {H:Heap}:∀{elems:List (List IV)},(∀e∈elems,Fits H callT e)->∃l:List Cl,elems.flatten=flat7 l/\l.length=elems.length/\∀c∈l,c.a.length<=maxLen/\c.b.length<=maxLen
 | [],_=>⟨[],rfl,rfl,fun _ h=>by cases h⟩
 | e::es,h=>by
  obtain⟨c,rfl,k1,k2⟩:=fit_call (h e (by simp));obtain⟨l,h1,h2,h3⟩:=fit_crows (elems:=es) (fun e' he'=>h e' (List.mem_cons_of_mem _ he'));refine⟨c::l,by simp[h1,flat7],by simp[h2],fun d hd=> ?_⟩;rcases List.mem_cons.1 hd with rfl | hd
  ·exact⟨k1,k2⟩
  ·exact h3 d hd
theorem fit_calls {H:Heap}{v:IV}(h:Fit H (.sl callT) v):∃l,CS H v l/\v.one=true/\low H.length v/\∀c∈l,c.a.length<=maxLen/\c.b.length<=maxLen:=by
 simp only[Fit]at h;rcases h with rfl | ⟨b,n,elems,rfl,h2,h3,h4,h5⟩
 ·exact⟨[],.inl ⟨rfl,rfl⟩,rfl,(fun _ _ _ _ _ _ e=>by cases e),(fun _ h=>by cases h)⟩
 ·obtain⟨l,k1,k2,k3⟩:=fit_crows h5;refine⟨l.take n,.inr ⟨b,0,n,elems.length,true,0,rfl,h3,.inl rfl,by simp;omega,fun i c hi=> ?_⟩,rfl,lowAt (ges h2).1,fun c hc=>k3 c (List.mem_of_mem_take hc)⟩;rw[List.getElem?_take]at hi;split at hi
  ·have hlt:=(ges hi).1;rw[lloadn_ptr,h2,ogn_row,k1,flat7_get l i c hi |> fun h=>(by rw[Nat.zero_add];exact h:((flat7 l).drop (0+i*7)).take 7=c.cells),if_pos (by rw[flat7_length];omega)]
  ·cases hi
end Go.Shade
namespace Go.Shade
variable {m n t : Nat}
section
variable {α : Type}
def thr (n:Nat)(l:List α)(t:Nat):List α:=(List.range l.length).filterMap fun i=>if i % n=t then l[i]? else none
def deal (n:Nat)(l:List α):List (List α):=(List.range n).map (thr n l)
theorem fm_congr {β:Type}{f g:β->Option α}:∀{l:List β},(∀x∈l,f x=g x)->l.filterMap f=l.filterMap g
 | [],_=>rfl
 | x::l,h=>by
  rw[List.filterMap_cons,List.filterMap_cons,h x (List.mem_cons_self ..),fm_congr fun y hy=>h y (List.mem_cons_of_mem _ hy)]
theorem thr_nil (n t:Nat):thr n ([]:List α) t=[]:=rfl
theorem thr_snoc (n t:Nat)(l:List α)(c:α):thr n (l++[c]) t=thr n l t++if l.length % n=t then [c]else []:=by
 unfold thr;rw[List.length_append,List.length_singleton,List.range_succ,List.filterMap_append]
 congr 1
 ·refine fm_congr fun i hi=> ?_;rw[List.mem_range]at hi;rw[List.getElem?_append_left hi]
 ·simp only[List.filterMap_cons,List.filterMap_nil];split<;>rename_i h<;>split at h<;>simp_all
theorem cnt_succ (ht:t<n):(m+1+(n - 1 - t)) / n=(m+(n - 1 - t)) / n+if m % n=t then 1 else 0:=by
 rw[show m+1+(n - 1 - t)=(m+(n - 1 - t))+1 by omega,Nat.succ_div]
 congr 1
 have:n ∣ m+(n - 1 - t)+1↔m % n=t:=by
  rw[Nat.dvd_iff_mod_eq_zero];have e:m+(n - 1 - t)+1=m+(n - t):=by omega
  rw[e];have hm:=Nat.div_add_mod m n;have hlt:=Nat.mod_lt m (show 0<n by omega);constructor
  ·intro h;have:(m % n+(n - t)) % n=0:=by
    rw[Nat.add_mod,Nat.mod_mod,←Nat.add_mod];exact h
   rcases Nat.lt_or_ge (m % n+(n - t)) n with h1 | h1
   ·rw[Nat.mod_eq_of_lt h1]at this;omega
   ·have h2:(m % n+(n - t)) % n=m % n+(n - t) - n:=by
     rw[Nat.mod_eq_sub_mod h1,Nat.mod_eq_of_lt (by omega)]
    omega
  ·intro h;have:(m % n+(n - t)) % n=0:=by rw[h,show t+(n - t)=n by omega,Nat.mod_self]
   rw[Nat.add_mod,Nat.mod_mod,←Nat.add_mod]at this;exact this
 simp only[this]
theorem thr_len (ht:t<n)(l:List α):(thr n l t).length=(l.length+(n - 1 - t)) / n:=by
 generalize hm:l.length=m
 induction m generalizing l with
 | zero =>
  have:l=[]:=List.length_eq_zero_iff.1 hm;subst this;rw[thr_nil,Nat.zero_add,Nat.div_eq_of_lt (by omega)];rfl
 | succ m ih =>
  have hne:l≠ []:=fun e=>by subst e;simp at hm
  rw[←List.dropLast_concat_getLast hne,thr_snoc,List.length_append,ih _ (by simp;omega),cnt_succ ht];have e:l.dropLast.length=m:=by simp;omega
  rw[e]
  congr 1
  split<;>rfl
theorem cnt_lt {k:Nat}(ht:t<n):k<(m+(n - 1 - t)) / n↔k*n+t<m:=by
 show k+1<=_↔_;rw[Nat.le_div_iff_mul_le (by omega),Nat.add_mul];omega
theorem thr_get (ht:t<n)(l:List α)(k:Nat):(thr n l t)[k]? =l[k*n+t]? :=by
 generalize hm:l.length=m
 induction m generalizing l with
 | zero =>
  have:l=[]:=List.length_eq_zero_iff.1 hm;subst this;rfl
 | succ m ih =>
  have hne:l≠ []:=fun e=>by subst e;simp at hm
  have e:l.dropLast.length=m:=by simp;omega
  rw[←List.dropLast_concat_getLast hne,thr_snoc,e];generalize l.getLast hne=c at *;generalize l.dropLast=p at *;have hl:=thr_len ht p;rw[e]at hl;have hc:=cnt_lt (m:=m) (k:=k) ht;rw[List.getElem?_append,List.getElem?_append,ih p e,hl,e];by_cases h1:k*n+t<m
  ·rw[if_pos (hc.2 h1),if_pos h1]
  ·rw[if_neg (fun h=>h1 (hc.1 h)),if_neg h1];have hmd:=Nat.div_add_mod m n;by_cases hq:m % n=t
   ·rw[if_pos hq];have hd:(m+(n - 1 - t)) / n=m / n:=by
     rw[hq]at hmd;have:m+(n - 1 - t)=n*(m / n)+(n - 1):=by omega
     rw[this,Nat.mul_add_div (by omega),Nat.div_eq_of_lt (show n - 1<n by omega),Nat.add_zero]
    rw[hd];by_cases h2:k=m / n
    ·subst h2;rw[Nat.mul_comm,hq.symm,hmd];simp
    ·have h3:m / n+1<=k:=by
      have:=hd▸(fun h=>h1 (hc.1 h));omega
     have h4:=Nat.mul_le_mul_left n h3;rw[Nat.mul_add,Nat.mul_one]at h4;rw[List.getElem?_eq_none (by simp;omega),List.getElem?_eq_none (by simp;rw[Nat.mul_comm k n];omega)]
   ·rw[if_neg hq,List.getElem?_nil,List.getElem?_eq_none];rw[List.length_singleton];have:k*n+t≠m:=fun h=>hq (by rw[←h,Nat.mul_comm,Nat.mul_add_mod,Nat.mod_eq_of_lt ht]);omega
theorem deal_len (n:Nat)(l:List α):(deal n l).length=n:=by simp[deal]
theorem deal_get (ht:t<n)(l:List α):(deal n l)[t]? =some (thr n l t):=by simp[deal,ht]
theorem thr_of {n t:Nat}(ht:t<n){l x:List α}(hl:x.length=(l.length+(n - 1 - t)) / n)(hx:∀k,k<x.length->x[k]? =l[k*n+t]?):x=thr n l t:=by
 apply List.ext_getElem?;intro k;rw[thr_get ht];by_cases h:k<x.length
 ·exact hx k h
 ·rw[List.getElem?_eq_none (by omega),List.getElem?_eq_none];rw[hl,cnt_lt ht]at h;omega
theorem deal_snoc (hn:0<n)(l:List α)(c:α):deal n (l++[c])=(deal n l).set (l.length % n) (thr n l (l.length % n)++[c]):=by
 apply List.ext_getElem?;intro t;have hm:=Nat.mod_lt l.length hn;by_cases ht:t<n
 ·rw[deal_get ht,thr_snoc,List.getElem?_set,deal_get ht,deal_len];by_cases e:l.length % n=t
  ·subst e;simp[ht]
  ·simp[e]
 ·rw[List.getElem?_eq_none (by simp[deal];omega),List.getElem?_eq_none (by simp[deal];omega)]
theorem deal_sum {n:Nat}(hn:0<n)(l:List α):((deal n l).map List.length).sum=l.length:=by
 generalize hm:l.length=m
 induction m generalizing l with
 | zero =>
  have:l=[]:=List.length_eq_zero_iff.1 hm;subst this;have z:∀r:List Nat,(r.map fun _=>0).sum=0:=fun r=>by induction r<;>simp_all
  have e:((deal n ([]:List α)).map List.length)=(List.range n).map fun _=>0:=by simp only[deal,List.map_map];rfl
  rw[e,z]
 | succ m ih =>
  have hne:l≠ []:=fun e=>by subst e;simp at hm
  have e:l.dropLast.length=m:=by simp;omega
  rw[←List.dropLast_concat_getLast hne,deal_snoc hn];generalize l.getLast hne=c at *;generalize l.dropLast=p at *;have hm:=Nat.mod_lt p.length hn;have key:∀(T:List (List α)) (t:Nat) (x:List α),T[t]? =some x->((T.set t (x++[c])).map List.length).sum=(T.map List.length).sum+1:=by
   intro T
   induction T with
   | nil=>intro t x h;simp at h
   | cons a T ihT =>
    intro t x h
    cases t with
    | zero=>simp at h;subst h;simp;omega
    | succ t=>simp at h;have:=ihT t x h;simp at this ⊢;omega
  rw[key _ _ _ (deal_get hm p),ih p e]
theorem fm_take (l:List α):∀n:Nat,((List.range n).filterMap fun t=>l[t]?)=l.take n
 | 0=>by simp
 | n+1=>by
  rw[List.range_succ,List.filterMap_append,fm_take l n,List.take_add_one]
  cases h:l[n]? <;>simp[h]
def round (n:Nat)(T:List (List α))(k:Nat):List α:=(List.range n).filterMap fun t=>(T[t]?.getD [])[k]?
def inter (n:Nat)(T:List (List α)):List α:=(List.range (T[0]?.getD []).length).flatMap (round n T)
theorem round_deal (l:List α)(k:Nat):round n (deal n l) k=(l.drop (k*n)).take n:=by
 rw[←fm_take];refine fm_congr fun t ht=> ?_;rw[List.mem_range]at ht;rw[deal_get ht,Option.getD_some,thr_get ht,List.getElem?_drop]
theorem rounds_deal {n:Nat}(l:List α):∀K:Nat,(List.range K).flatMap (round n (deal n l))=l.take (K*n)
 | 0=>by simp
 | K+1=>by
  rw[List.range_succ,List.flatMap_append,rounds_deal l K,List.flatMap_cons,List.flatMap_nil,List.append_nil,round_deal,Nat.add_mul,Nat.one_mul,←List.take_add]
theorem inter_deal (hn:0<n)(l:List α):inter n (deal n l)=l:=by
 unfold inter;rw[rounds_deal,deal_get hn,Option.getD_some,thr_len hn,List.take_of_length_le];have:=Nat.div_add_mod (l.length+(n - 1 - 0)) n;have:=Nat.mod_lt (l.length+(n - 1 - 0)) hn;rw[Nat.mul_comm];omega
def flatR (n:Nat)(T:List (List α))(m:Nat):List α:=(List.range m).filterMap fun i=>(T[i % n]?.getD [])[i / n]?
theorem flatR_succ (n:Nat)(T:List (List α))(m:Nat):flatR n T (m+1)=flatR n T m++((T[m % n]?.getD [])[m / n]?).toList:=by
 unfold flatR;rw[List.range_succ,List.filterMap_append]
 cases h:(T[m % n]?.getD [])[m / n]? <;>simp[h]
theorem flatR_len {n:Nat}{T:List (List α)}:∀{m:Nat},(∀i,i<m->i / n<(T[i % n]?.getD []).length)->(flatR n T m).length=m/\∀i,i<m->(flatR n T m)[i]? =(T[i % n]?.getD [])[i / n]?
 | 0,h=>⟨rfl,fun i hi=>by omega⟩
 | m+1,h=>by
  obtain⟨h1,h2⟩:=flatR_len (m:=m) fun i hi=>h i (by omega);have e:=List.getElem?_eq_getElem (h m (by omega));rw[flatR_succ,e];refine⟨by simp[h1],fun i hi=> ?_⟩;by_cases c:i<m
  ·rw[List.getElem?_append_left (by omega),h2 i c]
  ·obtain rfl:i=m:=by omega
   rw[List.getElem?_append_right (by omega),h1,Nat.sub_self,e];rfl
theorem deal_of (hn:0<n){T:List (List α)}(hT:T.length=n)(hl:∀t,t<n->(T[t]?.getD []).length=(m+(n - 1 - t)) / n):T=deal n (flatR n T m):=by
 have hi:∀i,i<m->i / n<(T[i % n]?.getD []).length:=fun i hi=>by
  have ht:=Nat.mod_lt i hn;rw[hl _ ht,cnt_lt ht,Nat.mul_comm,Nat.div_add_mod];exact hi
 obtain⟨h1,h2⟩:=flatR_len hi;apply List.ext_getElem?;intro t;by_cases ht:t<n
 ·rw[deal_get ht,List.getElem?_eq_getElem (by omega)]
  congr 1
  have e:T[t]?.getD []=T[t]'(by omega):=by rw[List.getElem?_eq_getElem (by omega)];rfl
  have hlt:=hl t ht;rw[e]at hlt;refine thr_of ht (by rw[h1];exact hlt) fun k hk=> ?_;rw[hlt,cnt_lt ht]at hk;rw[h2 _ hk];have q1:(k*n+t) % n=t:=by rw[Nat.mul_comm,Nat.mul_add_mod,Nat.mod_eq_of_lt ht]
  have q2:(k*n+t) / n=k:=by rw[Nat.mul_comm,Nat.mul_add_div hn,Nat.div_eq_of_lt ht,Nat.add_zero]
  rw[q1,q2,e]
 ·rw[List.getElem?_eq_none (by omega),List.getElem?_eq_none (by rw[deal_len];omega)]
theorem all_eq :∀{a b:List Nat},a.length=b.length->(∀i,i<a.length->a[i]?.getD 0<=b[i]?.getD 0)->a.sum=b.sum->a=b
 | [],[],_,_,_=>rfl
 | x::a,y::b,hl,h,hs=>by
  have h0:x<=y:=by simpa using h 0 (by simp)
  have ht:∀i,i<a.length->a[i]?.getD 0<=b[i]?.getD 0:=fun i hi=>by simpa using h (i+1) (by simpa using hi)
  have hle:∀{a b:List Nat},a.length=b.length->(∀i,i<a.length->a[i]?.getD 0<=b[i]?.getD 0)->a.sum<=b.sum:=by
   intro a
   induction a with
   | nil=>intro b hl _;cases b with
    | nil=>exact Nat.le_refl _
    | cons=>simp at hl
   | cons x a ih=>intro b hl h;cases b with
    | nil=>simp at hl
    | cons y b =>
     have:=ih (b:=b) (by simpa using hl) fun i hi=>by simpa using h (i+1) (by simpa using hi)
     have h0:x<=y:=by simpa using h 0 (by simp)
     simp;omega
  have:=hle (a:=a) (b:=b) (by simpa using hl) ht;simp at hs;have hxy:x=y:=by omega
  subst hxy;rw[all_eq (by simpa using hl) ht (by omega)]
 | [],_::_,hl,_,_=>by simp at hl
 | _::_,[],hl,_,_=>by simp at hl
theorem deal_ofR (hn:0<n){T:List (List α)}(hT:T.length=n)(hi:∀i,i<(T.map List.length).sum->i / n<(T[i % n]?.getD []).length):T=deal n (flatR n T (T.map List.length).sum):=by
 generalize hm:(T.map List.length).sum=m at *;refine deal_of hn hT fun t ht=> ?_;have hs:=deal_sum hn (List.replicate m ());rw[List.length_replicate]at hs;have h1:∀i,i<n->((deal n (List.replicate m ())).map List.length)[i]?.getD 0=(m+(n - 1 - i)) / n:=fun i h=>by
  rw[List.getElem?_map,deal_get h];simp only[Option.map_some,Option.getD_some];rw[thr_len h,List.length_replicate]
 have h2:∀i,i<n->(T.map List.length)[i]?.getD 0=(T[i]?.getD []).length:=fun i h=>by
  rw[List.getElem?_map,List.getElem?_eq_getElem (by omega)];rfl
 have:=all_eq (a:=(deal n (List.replicate m ())).map List.length) (b:=T.map List.length) (by simp[deal_len,hT]) (fun i h=>by
  rw[List.length_map,deal_len]at h;rw[h1 i h,h2 i h];refine Nat.le_of_not_lt fun hlt=> ?_;have:=(cnt_lt (m:=m) h).1 hlt;have q:=hi _ this;rw[Nat.mul_comm,Nat.mul_add_mod,Nat.mod_eq_of_lt h,Nat.mul_add_div hn,Nat.div_eq_of_lt h,Nat.add_zero]at q;omega) (hs.trans hm.symm)
 rw[←h2 t ht,←this,h1 t ht]
theorem thr_app {n t:Nat}(ht:t<n)(l k:List α){i:Nat}(hi:i<(thr n l t).length):(thr n (l++k) t)[i]? =(thr n l t)[i]? :=by
 rw[thr_len ht,cnt_lt ht]at hi;rw[thr_get ht,thr_get ht,List.getElem?_append_left hi]
theorem thr_mono (ht:t<n)(l k:List α):(thr n l t).length<=(thr n (l++k) t).length:=by
 rw[thr_len ht,thr_len ht,List.length_append];exact Nat.div_le_div_right (by omega)
end
end Go.Shade
namespace Go.Shade
end Go.Shade
namespace Go.Shade
end Go.Shade
namespace Go.Shade
end Go.Shade
namespace Go.Shade
abbrev Nam :=List UInt8
abbrev cmpB :=Go.Lib.compareBytes
theorem cmpB_self :∀a:Nam,cmpB a a=0
 | []=>rfl
 | x::a=>by
  have:¬x<x:=by simp[UInt8.lt_iff_toNat_lt]
  simp only[cmpB,Go.Lib.compareBytes,this,if_false];exact cmpB_self a
abbrev Dr :=List (Nam×Int)
def SrtD :Dr->Prop
 | []=>True
 | e::l=>(∀f∈l,cmpB e.1 f.1<0)/\SrtD l
def lookD (s:Nam):Dr->Option Int
 | []=>none
 | e::l=>if e.1=s then some e.2 else lookD s l
theorem SrtD.mk :∀{a b:Dr},SrtD a->SrtD b->(∀e∈a,∀f∈b,cmpB e.1 f.1<0)->SrtD (a++b)
 | [],b,_,h,_=>h
 | x::a,b,h,k,hx=>⟨fun f hf=>by
   rcases List.mem_append.1 hf with hf | hf
   ·exact h.1 f hf
   ·exact hx x (by simp) f hf,SrtD.mk h.2 k fun e he=>hx e (List.mem_cons_of_mem _ he)⟩
theorem ltne {a b:Nam}(h:cmpB a b<0):a≠b:=fun e=>by subst e;rw[cmpB_self]at h;omega
theorem lookD_app {s:Nam}:∀{a b:Dr},(∀e∈a,cmpB e.1 s<0)->lookD s (a++b)=lookD s b
 | [],b,_=>rfl
 | x::a,b,h=>by
  show(if x.1=s then _ else _)=_;rw[if_neg (ltne (h x (by simp)))];exact lookD_app fun e he=>h e (List.mem_cons_of_mem _ he)
theorem lookD_gt {s:Nam}:∀{b:Dr},(∀e∈b,0<cmpB e.1 s)->lookD s b=none
 | [],_=>rfl
 | x::b,h=>by
  show(if x.1=s then _ else _)=_;rw[if_neg (fun e=>by have:=h x (by simp);rw[e,cmpB_self]at this;omega)];exact lookD_gt fun e he=>h e (List.mem_cons_of_mem _ he)
theorem lookD_at {s:Nam}{w:Int}{b:Dr}:lookD s ((s,w)::b)=some w:=if_pos rfl
structure PosD (s:Nam)(l:Dr)(i:Nat)(found:Bool):Prop where
 le:i<=l.length
 lo:∀e∈l.take i,cmpB e.1 s<0
 hi:if found=true then ∃v,l.drop i=(s,v)::l.drop (i+1)else ∀e∈l.drop i,0<cmpB e.1 s
theorem PosD.split {s:Nam}{l:Dr}{i:Nat}{f:Bool}(h:PosD s l i f):l=l.take i++l.drop i:=(List.take_append_drop i l).symm
theorem PosD.look {s:Nam}{l:Dr}{i:Nat}{f:Bool}(h:PosD s l i f):lookD s l=if f=true then(l[i]?).map (·.2)else none:=by
 rw[h.split,lookD_app h.lo];have:=h.hi
 cases f with
 | true =>
  rw[if_pos rfl]at this ⊢;obtain⟨v,e⟩:=this;rw[←h.split];have h2:l[i]? =some (s,v):=by
   have:=congrArg (fun k=>k[0]?) e
   simpa using this
  rw[e,lookD_at,h2];rfl
 | false =>
  rw[if_neg (by simp)]at this;rw[lookD_gt this];rfl
end Go.Shade
namespace Go.Shade
def prs (l:Dr):List Pr:=l.map fun e=>(.str e.1,.int .i64 e.2)
theorem prs_length (l:Dr):(prs l).length=l.length:=by simp[prs]
theorem prs_get {l:Dr}{i:Nat}{e:Nam×Int}(h:l[i]? =some e):(prs l)[i]? =some (.str e.1,.int .i64 e.2):=by simp[prs,h]
theorem fl_get1 {l:List Pr}{j:Nat}{p:Pr}(h:l[j]? =some p):(fl l)[2*j+1]? =some p.2:=by
 have:=fl_ld h;have h2:(((fl l).drop (2*j)).take 2)[1]? =some p.2:=by rw[this];rfl
 rw[List.getElem?_take,if_pos (by omega),List.getElem?_drop]at h2;exact h2
def DSl (P:Nat->Prop)(H:Heap)(sv:IV)(l:Dr):Prop :=
 (sv=.nilSlice/\l=[])∨∃r rest ex,sv=.slice r 0 l.length (l.length+rest.length) ex 2/\P r/\one2 rest/\0<l.length+rest.length/\H[r]? =some (.row (fl (prs l++rest)) false)
theorem DSl.ix {P:Nat->Prop}{H:Heap}{sv:IV}{l:Dr}(h:DSl P H sv l){i:Nat}{e:Nam×Int}(hi:l[i]? =some e):∃r rest ex,sv=.slice r 0 l.length (l.length+rest.length) ex 2/\P r/\one2 rest/\H[r]? =some (.row (fl (prs l++rest)) false)/\lix 2 sv (.int .i64 (i:Nat))=some (.ptr r (2*i))/\lloadn H 2 (.ptr r (2*i))=some (.agg [.str e.1,.int .i64 e.2])/\lload1 H (.ptr r (2*i+1))=some (.int .i64 e.2):=by
 have hlt:=(ges hi).1;rcases h with⟨rfl,rfl⟩ | ⟨r,rest,ex,rfl,h2,h3,h4,h5⟩
 ·simp at hlt
 ·have hg:(prs l++rest)[i]? =some (.str e.1,.int .i64 e.2):=by rw[List.getElem?_append_left (by rw[prs_length];exact hlt)];exact prs_get hi
  exact⟨r,rest,ex,rfl,h2,h3,h5,by rw[lix_slice,if_pos (by omega)];simp;omega,ld2 h5 hg,by rw[ld1 h5];exact fl_get1 hg⟩
section
variable {cal : FuncId -> Bool} {O : Oracle} {N : Nat}
end
end Go.Shade
namespace Go.Shade
section
variable {cal : FuncId -> Bool} {O : Oracle} {N : Nat}
end
end Go.Shade
namespace Go.Shade
section
variable {cal : FuncId -> Bool} {O : Oracle} {N : Nat}
end
end Go.Shade
namespace Go.Shade
end Go.Shade
namespace Go.Shade
structure ChOk (es:List Ent)(c:Nat):Prop where
 key:∀e∈es,∃k:Int,e.1=.int .i64 k/\0<=k/\k<=65536
 val:∀e∈es,∃cs,e.2.1=.agg cs/\cs.length=16/\cs.all IV.one=true
 id:∀e∈es,e.2.2<c
 nodup:(es.map (·.1)).Nodup
 idup:(es.map (·.2.2)).Nodup
theorem ChOk.add {es:List Ent}{c:Nat}{k:Int}{cs:List IV}(h:ChOk es c)(hk:0<=k/\k<=65536)(hn:∀e∈es,e.1≠ .int .i64 k)(hl:cs.length=16)(h1:cs.all IV.one=true):ChOk (es++[(.int .i64 k,.agg cs,c)]) (c+1):=by
 refine⟨fun q hq=> ?_,fun q hq=> ?_,fun q hq=> ?_,?_,?_⟩
 ·rcases List.mem_append.1 hq with h' | h'
  ·exact h.key q h'
  ·rw[List.mem_singleton]at h';subst h';exact⟨k,rfl,hk⟩
 ·rcases List.mem_append.1 hq with h' | h'
  ·exact h.val q h'
  ·rw[List.mem_singleton]at h';subst h';exact⟨cs,rfl,hl,h1⟩
 ·rcases List.mem_append.1 hq with h' | h'
  ·have:=h.id q h';omega
  ·rw[List.mem_singleton]at h';subst h';simp
 ·rw[List.map_append];refine List.nodup_append.2 ⟨h.nodup,by simp,fun a ha b hb=> ?_⟩;simp at hb;subst hb;obtain⟨e,he,rfl⟩:=List.mem_map.1 ha;exact hn e he
 ·rw[List.map_append];refine List.nodup_append.2 ⟨h.idup,by simp,fun a ha b hb=> ?_⟩;simp at hb;subst hb;obtain⟨e,he,rfl⟩:=List.mem_map.1 ha;have:=h.id e he;omega
section
variable {cal : FuncId -> Bool} {O : Oracle} {N : Nat}
end
end Go.Shade
namespace Go.Shade
section
variable {cal : FuncId -> Bool} {O : Oracle} {N : Nat}
end
end Go.Shade
namespace Go.Shade
structure Nod where
 p:Nat
 q:Nat
 kind:Int
 links:Int
 holds:Int
 marks:Int
 parent:Int
 body:Bool
 dir:Option Dr
 target:Nam
def Nod.c (x:Nod):List IV:=[.int .i64 x.kind,.int .i64 x.links,.int .i64 x.holds,.int .i64 x.marks,.int .i64 x.parent,(if x.body=true then .ptr x.q 0 else .nilPtr),(if x.dir.isSome=true then .ptr x.q 0 else .nilPtr),.str x.target]
theorem Nod.c_length (x:Nod):x.c.length=8:=rfl
theorem Nod.c_one (x:Nod):x.c.all IV.one=true:=by
 unfold Nod.c
 cases x.body<;>cases x.dir<;>rfl
structure Brs where
 s:Nat
 q:Nat
 k:Int
 free:List It
 nod:Nat->Option Nod
def Brs.cell (st:Brs)(i:Nat):IV:=match st.nod i with
 | none=>.nilPtr
 | some x=>.ptr x.p 0
section
variable {own : Nat -> Nat} {H H' : Heap} {b i : Nat} {st : Brs} {x x' : Nod} {P' : Nat -> Prop}
end
end Go.Shade
namespace Go.Shade
variable {H : Heap} {v : IV}
def TS (s:Nat)(P:Nat->Prop)(H:Heap)(v:IV)(cs:List IV):Prop :=
 (v=.nilSlice/\cs=[])∨∃r n ex,v=.slice r 0 n n ex s/\P r/\H[r]? =some (.row cs false)/\cs.length=n*s
theorem TS.frame {s:Nat}{P F:Nat->Prop}{H':Heap}{cs:List IV}(h:TS s P H v cs)(k:Frame F H H')(hf:∀j,P j->¬F j):TS s P H' v cs:=by
 rcases h with h | ⟨r,n,ex,h1,h2,h3,h4⟩
 ·exact .inl h
 ·exact .inr ⟨r,n,ex,h1,h2,k.get (hf r h2) h3,h4⟩
theorem TS.mono {s:Nat}{P Q:Nat->Prop}{cs:List IV}(h:TS s P H v cs)(k:∀j,P j->Q j):TS s Q H v cs:=by
 rcases h with h | ⟨r,n,ex,h1,h2,h3,h4⟩
 ·exact .inl h
 ·exact .inr ⟨r,n,ex,h1,k r h2,h3,h4⟩
theorem TS.one {s:Nat}{P:Nat->Prop}{H:Heap}{v:IV}{cs:List IV}(h:TS s P H v cs):v.one=true:=by
 rcases h with⟨rfl,_⟩ | ⟨r,n,ex,rfl,_⟩<;>rfl
theorem TS.app {s b:Nat}{P:Nat->Prop}{H:Heap}{v xv:IV}{cs new:List IV}(h:TS s P H v cs)(hs:0<s)(hx:xlen xv=some 1)(hc:lxcells H s xv 1=some new)(hl:new.length=s)(h1:new.all IV.one=true)(hb:(cs.length+s)*b<=140737488355328) :
  Wp (lapp H s b v xv) fun r=>Frame P H r.2/\TS s (fun j=>H.length<=j/\j<r.2.length) r.2 r.1 (cs++new):=by
 have hnew:new.length=1*s:=by omega
 unfold lapp lappend;rw[hx];simp only[Option.bind_some];rw[if_neg (by omega),hc];simp only[Option.bind_some];rw[if_pos ⟨hnew,h1⟩];rcases h with⟨rfl,rfl⟩ | ⟨r,n,ex,rfl,g1,g2,g3⟩
 ·have hk:1*b<=140737488355328:=Nat.le_trans (Nat.mul_le_mul_right b (by simp;omega)) hb;rw[lfresh_eq hk (by simpa using hnew)];exact⟨_,rfl,Frame.push _ _ _,.inr ⟨H.length,1,false,rfl,⟨Nat.le_refl _,by simp⟩,newRow,by simpa using hnew⟩⟩
 ·have hold:lsl H s (.slice r 0 n n ex s) n=some cs:=Buf.cells (B:=0) (.inr ⟨r,n,ex,rfl,by omega,g2,g3⟩) rfl;have hlen:(cs++new).length=(n+1)*s:=by rw[List.length_append,g3,hl,Nat.add_mul,Nat.one_mul]
  have hk:(n+1)*b<=140737488355328:=by
   refine Nat.le_trans (Nat.mul_le_mul_right b ?_) hb;have:n<=cs.length:=by rw[g3];exact Nat.le_mul_of_pos_right n hs
   omega
  simp only;rw[if_neg (by omega),hold];simp only[Option.bind_some]
  cases ex with
  | true =>
   rw[if_pos rfl,lfresh_eq hk hlen];exact⟨_,rfl,Frame.push _ _ _,.inr ⟨H.length,n+1,false,rfl,⟨Nat.le_refl _,by simp⟩,newRow,hlen⟩⟩
  | false =>
   rw[if_neg (by simp),g2];simp only;rw[if_pos trivial,lfresh_eq hk hlen];exact⟨_,rfl,(Frame.set _ _ g1).tr (Frame.push _ _ _),.inr ⟨(H.set r .dead).length,n+1,false,rfl,⟨by simp,by simp⟩,newRow,hlen⟩⟩
def EntR (e:Nam×Int):Prop:=1<=e.2/\e.2<=200/\e.1.length<=60
def RCell (c:Nat)(own:Nat->Nat)(H:Heap)(i k:Nat)(v:IV):Prop :=
 if k<4 then ∃z:Int,v=.int .i64 z
 else if k=4 then ∃z:Int,v=.int .i64 z/\0<=z/\z<=200
 else if k=5 then ∃cs:List IV,TS 1 (fun j=>own j=3*i+1) H v cs/\cs.all IV.one=true/\cs.length<=65536
 else if k=6 then ∃bs:List Bool,TS 1 (fun j=>own j=3*i+2) H v (bs.map .bool)/\bs.length<=4096
 else if k=7 then ∃l:Dr,TS 2 (fun j=>own j=3*i+3) H v (fl (prs l))/\l.length<=c/\∀e∈l,EntR e
 else ∃t:Nam,v=.str t
structure RB (c:Nat)(own:Nat->Nat)(H:Heap)(b:Nat)(s:Nat)(R:List IV):Prop where
 ob:own b=701
 row:H[b]? =some (.row R false)
 len:R.length=1810
 r0:R[0]? =some (.ptr s 0)
 os:own s=700
 sto:∃x y:Int,H[s]? =some (.row [.int .i64 x,.int .i64 y] false)
 cel:∀i k,i<=200->k<9->∃v,R[1+9*i+k]? =some v/\RCell c own H i k v
 lt:∀j,own j≠0->j<H.length
section
variable {c c' : Nat} {own : Nat -> Nat} {H H' : Heap} {b s : Nat} {R R' : List IV}
theorem RB.ptr (h:RB c own H b s R){i k:Nat}(hi:i<=200)(hk:k<9):∃v,lload1 H (.ptr b (1+i*9+k))=some v/\R[1+9*i+k]? =some v/\RCell c own H i k v:=by
 obtain⟨v,a,d⟩:=h.cel i k hi hk;exact⟨v,by rw[ld1 h.row,show 1+i*9+k=1+9*i+k by omega];exact a,a,d⟩
theorem RB.int (h:RB c own H b s R){i k:Nat}(hi:i<=200)(hk:k<5):∃z:Int,lload1 H (.ptr b (1+i*9+k))=some (.int .i64 z)/\(k=4->0<=z/\z<=200):=by
 obtain⟨v,a,_,d⟩:=h.ptr hi (show k<9 by omega);unfold RCell at d;split at d
 ·obtain⟨z,rfl⟩:=d;exact⟨z,a,fun e=>by omega⟩
 ·rw[if_pos (by omega)]at d;obtain⟨z,rfl,e⟩:=d;exact⟨z,a,fun _=>e⟩
end
theorem RCell.body {c:Nat}{own:Nat->Nat}{i:Nat}:RCell c own H i 5 v↔∃cs:List IV,TS 1 (fun j=>own j=3*i+1) H v cs/\cs.all IV.one=true/\cs.length<=65536:=by
 unfold RCell;rw[if_neg (by omega),if_neg (by omega),if_pos rfl]
section
variable {cal : FuncId -> Bool} {O : Oracle} {N : Nat}
end
end Go.Shade
namespace Go.Shade
variable {H H' : Heap} {T : List (List Cl)} {v : IV}
def TV (H:Heap)(v:IV)(T:List (List Cl)):Prop :=
 (v=.nilSlice/\T=[])∨∃b o n lb ex sz,v=.slice b o n lb ex sz/\b<H.length/\n<=lb/\(sz=0∨sz=1)/\T.length=n/\∀t c,T[t]? =some c->∃w,lload1 H (.ptr b (o+t))=some w/\CS H w c/\low H.length w
theorem Kp.refl (H:Heap):Kp H H:=Keep.refl _ _
theorem Kp.tr {H'':Heap}(h:Kp H H')(k:Kp H' H''):Kp H H'':=Keep.trans h (Keep.mono k h.2)
theorem Kp.push (H X:Heap):Kp H (H++X):=Keep.push _ _ (Nat.le_refl _)
theorem Kp.get {H H':Heap}(h:Kp H H'){i:Nat}{o:IObj}(e:H[i]? =some o):H'[i]? =some o:=Keep.get h (ges e).1 e
theorem Kp.ld1 (h:Kp H H'){b o:Nat}(hb:b<H.length):lload1 H' (.ptr b o)=lload1 H (.ptr b o):=by
 rw[lload1_ptr,lload1_ptr,h.1 b hb]
theorem TV.keep (h:TV H v T)(k:Kp H H'):TV H' v T:=by
 rcases h with h | ⟨b,o,n,lb,ex,sz,h1,h2,h3,h4,h5,h6⟩
 ·exact .inl h
 ·refine .inr ⟨b,o,n,lb,ex,sz,h1,Nat.lt_of_lt_of_le h2 k.2,h3,h4,h5,fun t c hc=> ?_⟩;obtain⟨w,g1,g2,g3⟩:=h6 t c hc;exact⟨w,by rw[k.ld1 h2];exact g1,g2.keep' g3 k,low_mono g3 k.2⟩
theorem TV.len (h:TV H v T):llen H .slice v=some (.int .i64 (T.length:Nat)):=by
 rcases h with⟨rfl,rfl⟩ | ⟨b,o,n,lb,ex,sz,rfl,h2,h3,h4,h5,h6⟩
 ·rfl
 ·subst h5;rfl
theorem TV.at {H:Heap}{v:IV}{T:List (List Cl)}(h:TV H v T){t:Nat}(ht:t<T.length):∃p w,lix 1 v (.int .i64 (t:Nat))=some p/\lload1 H p=some w/\CS H w T[t]/\low H.length w:=by
 rcases h with⟨rfl,rfl⟩ | ⟨b,o,n,lb,ex,sz,rfl,h2,h3,h4,h5,h6⟩
 ·simp at ht
 ·obtain⟨w,g1,g2,g3⟩:=h6 t _ (List.getElem?_eq_getElem ht);refine⟨.ptr b (o+t),w,?_,g1,g2,g3⟩;rw[lix_slice,if_pos (by omega)];simp
theorem fit_threads (h:Fit H (.sl [.sl callT]) v):∃T,TV H v T:=by
 simp only[Fit]at h;rcases h with rfl | ⟨b,n,elems,rfl,h2,h3,h4,h5⟩
 ·exact⟨[],.inl ⟨rfl,rfl⟩⟩
 ·have hb:=(ges h2).1;have key:∀{es:List (List IV)},(∀e∈es,Fits H [.sl callT] e)->∃(ws:List IV) (T:List (List Cl)),es.flatten=ws/\ws.length=es.length/\T.length=es.length/\∀(t:Nat) (w:IV) (c:List Cl),ws[t]? =some w->T[t]? =some c->CS H w c/\low H.length w:=by
   intro es
   induction es with
   | nil=>exact fun _=>⟨[],[],rfl,rfl,rfl,fun t w c h=>by simp at h⟩
   | cons e es ih =>
    intro h;obtain⟨ws,T,k1,k2,k3,k4⟩:=ih fun e' he'=>h e' (List.mem_cons_of_mem _ he');have he:=h e (List.mem_cons_self ..);simp only[Fits]at he;obtain⟨w,r,rfl,hw,rfl⟩:=he;obtain⟨l,q1,q2,q3,_⟩:=fit_calls hw;refine⟨w::ws,l::T,by simp[k1],by simp[k2],by simp[k3],fun t w' c h1 h2=> ?_⟩
    cases t with
    | zero=>simp at h1 h2;subst h1;subst h2;exact⟨q1,q3⟩
    | succ t=>exact k4 t w' c (by simpa using h1) (by simpa using h2)
  obtain⟨ws,T,k1,k2,k3,k4⟩:=key h5;refine⟨T.take n,.inr ⟨b,0,n,elems.length,true,0,rfl,hb,h3,.inl rfl,by simp;omega,fun t c hc=> ?_⟩⟩;rw[List.getElem?_take]at hc;split at hc
  ·have hlt:=(ges hc).1;have hw:=List.getElem?_eq_getElem (l:=ws) (i:=t) (by omega);obtain⟨q1,q2⟩:=k4 t _ c hw hc;refine⟨_,?_,q1,q2⟩;rw[lload1_ptr,h2,og1_row,k1,Nat.zero_add];exact hw
  ·cases hc
structure Thr (B q:Nat)(own:Nat->Nat)(H:Heap)(T:List (List Cl)):Prop where
 row:∃vs:List IV,H[q]? =some (.row vs false)/\vs.length=T.length/\∀t c,T[t]? =some c->∃w,vs[t]? =some w/\TS 7 (fun j=>B<=j/\own j=t+1) H w (flat7 c)
 lq:q<B
 lB:B<=H.length
 lt:∀j,own j≠0->j<H.length
theorem Thr.app {B q:Nat}{own:Nat->Nat}{H:Heap}{T:List (List Cl)}(h:Thr B q own H T){t:Nat}{c0:List Cl}(ht:T[t]? =some c0)(hc0:c0.length<=1000)(c:Cl) :
  ∃w,lload1 H (.ptr q t)=some w/\Wp (lapp (H++[.row c.cells false]) 7 72 w (.slice H.length 0 1 1 true 7)) fun r=>∃H3 own',lstV r.2 1 (.ptr q t) r.1=some (.tuple [],H3)/\Thr B q own' H3 (T.set t (c0++[c]))/\(∀i,i<B->i≠q->H3[i]? =H[i]?)/\H.length<=H3.length:=by
 obtain⟨vs,hv,hl,hT⟩:=h.row;obtain⟨w,hw,hS⟩:=hT t c0 ht;have htl:=(ges ht).1;have lB:=h.lB;have lq:=h.lq;refine⟨w,by rw[lload1_ptr,hv];exact hw,?_⟩;have k1:Frame NoF H (H++[IObj.row c.cells false]):=Frame.push _ _ _;have l1:(H++[IObj.row c.cells false]).length=H.length+1:=by simp
 have hS1:TS 7 (fun j=>B<=j/\own j=t+1) (H++[IObj.row c.cells false]) w (flat7 c0):=hS.frame k1 fun _ _ h=>h;have hx:xlen (.slice H.length 0 1 1 true 7)=some 1:=rfl;have hc:lxcells (H++[IObj.row c.cells false]) 7 (.slice H.length 0 1 1 true 7) 1=some c.cells:=Buf.cells (B:=0) (.inr ⟨_,1,true,rfl,Nat.zero_le _,newRow,rfl⟩) rfl;obtain⟨⟨v',H2⟩,h2,k2,n2⟩:=hS1.app (b:=72) (by decide) hx hc rfl (show c.cells.all IV.one=true from rfl) (by rw[flat7_length];omega);refine⟨_,h2,?_⟩;simp only at k2 n2 ⊢;have hq2:H2[q]? =some (.row vs false):=(k2.get (fun h=>by omega) (k1.get (fun h=>h) hv));have l2:=k2.1;refine⟨H2.set q (.row (vs.set t v') false),fun j=>if H.length<=j then(if j<H2.length then t+1 else 0)else own j,?_,⟨⟨vs.set t v',setAt hq2,by simp[hl],fun u cu hu=> ?_⟩,lq,by rw[List.length_set];omega,fun j hj=> ?_⟩,fun i hi hne=> ?_,by rw[List.length_set];omega⟩
 ·rw[lstV_ptr,hq2,putO_one n2.one (by omega)];rfl
 ·rw[List.getElem?_set]at hu;have kq:Frame (· =q) H2 (H2.set q (.row (vs.set t v') false)):=Frame.set _ _ rfl;by_cases e:t=u
  ·subst e;rw[if_pos rfl,if_pos htl]at hu
   cases hu
   refine⟨v',by rw[List.getElem?_set,if_pos rfl,if_pos (by omega)],?_⟩;rw[flat7_append];refine TS.mono (TS.frame (by simpa[flat7]using n2) kq fun j hj e=>by omega) fun j hj=>⟨by omega,?_⟩;rw[if_pos (by omega),if_pos hj.2]
  ·rw[if_neg e]at hu;obtain⟨w',hw',hS'⟩:=hT u cu hu;refine⟨w',by rw[List.getElem?_set_ne e];exact hw',?_⟩;have q1:=hS'.frame k1 fun _ _ h=>h;have q2:=q1.frame k2 fun j hj hk=>by omega
   refine TS.mono (q2.frame kq fun j hj e=>by omega) fun j hj=>⟨hj.1,?_⟩;rw[if_neg (by have:=h.lt j (by omega);omega)];exact hj.2
 ·rw[List.length_set];split at hj
  ·split at hj
   ·assumption
   ·exact absurd rfl hj
  ·have:=h.lt j hj;omega
 ·rw[List.getElem?_set_ne (Ne.symm hne),k2.2 i (by omega) (by omega),k1.2 i (by omega) (fun h=>h)]
theorem Thr.start {q n:Nat}{H:Heap}(hq:H[q]? =some (.row (List.replicate n .nilSlice) false)):Thr H.length q (fun _=>0) H (deal n []):=by
 refine⟨⟨_,hq,by simp[deal_len],fun t c hc=>⟨.nilSlice,?_,.inl ⟨rfl,?_⟩⟩⟩,(ges hq).1,Nat.le_refl _,fun j hj=>absurd rfl hj⟩
 ·have:=(ges hc).1;rw[deal_len]at this;simp[this]
 ·have:=(ges hc).1;rw[deal_len]at this;rw[deal_get this]at hc
  cases hc;rfl
theorem TS.calls {P:Nat->Prop}{H:Heap}{w:IV}{l:List Cl}(h:TS 7 P H w (flat7 l)):CS H w l/\low H.length w:=by
 rcases h with⟨rfl,e⟩ | ⟨r,n,ex,rfl,_,g2,g3⟩
 ·have:l=[]:=by cases l with
   | nil=>rfl
   | cons c l=>simp[flat7,Cl.cells]at e
  subst this;exact⟨.inl ⟨rfl,rfl⟩,lowNil⟩
 ·exact⟨Buf.calls (B:=0) (.inr ⟨r,n,ex,rfl,Nat.zero_le _,g2,g3⟩),lowAt (ges g2).1⟩
theorem Thr.tv {B q n:Nat}{own:Nat->Nat}{ex:Bool}(h:Thr B q own H T)(hn:T.length=n):TV H (.slice q 0 n n ex 1) T:=by
 obtain⟨vs,hv,hl,hT⟩:=h.row;refine .inr ⟨q,0,n,n,ex,1,rfl,(ges hv).1,Nat.le_refl _,.inr rfl,hn,fun t c hc=> ?_⟩;obtain⟨w,hw,hS⟩:=hT t c hc;obtain⟨q1,q2⟩:=hS.calls;exact⟨w,by rw[lload1_ptr,hv,Nat.zero_add];exact hw,q1,q2⟩
end Go.Shade
namespace Go.Shade
def X10K2 :LC:=.seq (.reg [ qO 47 (.bin .lss (.t 46) (.t 45))]) (.seq (.cond (.t 47) .skip (.exit 0)) (.seq (.block 1 (.seq (.reg [ qM 48 46,qO 49 (.ix 7 (.t 44) (.t 46)),qO 50 (.ldn 7 (.t 49)),qO 10 (.zbox (.agg [(.int .i64 0),(.int .i64 0),(.int .i64 0),(.int .i64 0),(.int .i64 0),(.str []),(.str [])])),qM 9 48,⟨none,(.st 7 (.t 10) (.t 50)),none⟩]) (.seq (.reg [ qM 51 9,qM 52 6,qO 53 (.len .slice (.t 52)),qO 54 (.bin .rem (.t 51) (.t 53)),qM 11 54]) (.drw [ qM 55 6,qM 56 11,qM 57 6,qM 58 11,qO 59 (.ix 1 (.t 57) (.t 58)),qO 60 (.ld1 (.t 59)),qO 61 (.ldn 7 (.t 10)),qO 62 (.bldS 7 1 [(.int .i64 0),(.int .i64 0),(.int .i64 0),(.int .i64 0),(.int .i64 0),(.str []),(.str [])] [(0,(.t 61))]),qO 63 (.app 7 72 (.t 60) (.t 62)),qO 64 (.ix 1 (.t 55) (.t 56)),⟨none,(.st 1 (.t 64) (.t 63)),none⟩] [(5,7)])))) (.reg [ qO 65 (.bin .add (.t 46) (k6 1)),qM 46 65])))
def scriptDecodeC0 (f0:FuncId):LC:=.loop X10K2
def scriptDecodeC1 (f0:FuncId):LC:=.block 0 (scriptDecodeC0 f0)
def X10K14 (f0:FuncId):LC:=.reg [ qM 37 0,qM 38 8,qM 39 0,qO 40 (.len .slice (.t 39)),qM 41 0,qO 42 (.len .slice (.t 41)),qO 43 (.slc (.slice 1) (.t 37) (some (.t 38)) (some (.t 40)) (some (.t 42))),qO 44 (.callF f0 [(.t 43)]),qO 45 (.len .slice (.t 44)),qO 46 (.mv (k6 0))]
def scriptDecodeC2 (f0:FuncId):LC:=.seq (X10K14 f0) (scriptDecodeC1 f0)
def X10K27 :LC:=.seq (.reg [ qM 66 6,qM 67 7,qM 2 66,qM 3 67]) .ret
def scriptDecodeC3 (f0:FuncId):LC:=.seq (scriptDecodeC2 f0) X10K27
def X10K28 :LC:=.reg [ qM 34 7,qM 35 0,qO 36 (.cpy 1 (.t 34) (.t 35)),qM 8 36]
def scriptDecodeC4 (f0:FuncId):LC:=.seq X10K28 (scriptDecodeC3 f0)
def X10K20 :LC:=.reg [ qM 30 4,qO 31 (.ix 1 (.t 30) (k6 1)),qO 32 (.ld1 (.t 31)),qO 33 (.mkS 1 1 [(.int .u8 0)] (.t 32) (.t 32)),qM 7 33]
def scriptDecodeC5 (f0:FuncId):LC:=.seq X10K20 (scriptDecodeC4 f0)
def X10K15 :LC:=.reg [ qM 23 4,qO 24 (.ix 1 (.t 23) (k6 0)),qO 25 (.ld1 (.t 24)),qO 26 (.cvt .i64 (.t 25)),qO 27 (.bin .rem (.t 26) (k6 64)),qO 28 (.bin .add (k6 1) (.t 27)),qO 29 (.mkS 1 24 [.nilSlice] (.t 28) (.t 28)),qM 6 29]
def scriptDecodeC6 (f0:FuncId):LC:=.seq X10K15 (scriptDecodeC5 f0)
def X10K16 :LC:=.reg [ qM 16 0,qM 17 5,qM 18 0,qO 19 (.len .slice (.t 18)),qM 20 0,qO 21 (.len .slice (.t 20)),qO 22 (.slc (.slice 1) (.t 16) (some (.t 17)) (some (.t 19)) (some (.t 21))),qM 0 22]
def scriptDecodeC7 (f0:FuncId):LC:=.seq X10K16 (scriptDecodeC6 f0)
def X10K29 :LC:=.reg [ qM 13 4,qM 14 0,qO 15 (.cpy 1 (.t 13) (.t 14)),qM 5 15]
def scriptDecodeC8 (f0:FuncId):LC:=.seq X10K29 (scriptDecodeC7 f0)
def X10K39 :LC:=.reg [ qO 12 (.mkS 1 1 [(.int .u8 0)] (k6 2) (k6 2)),qM 4 12]
def scriptDecodeC9 (f0:FuncId):LC:=.seq X10K39 (scriptDecodeC8 f0)
def scriptDecodeC10 (f0:FuncId):LC:=.seq (.reg [ qO 2 (.mv (.k .nilSlice)),qO 3 (.mv (.k .nilSlice))]) (scriptDecodeC9 f0)
def scriptDecodeC0S (cal:CB)(O:Oracle)(N:Nat)(f0:FuncId)(gE0:IV->IV->Heap->OH):Nat->IV->IV->IV->IV->IV->Heap->OH
 | 0,_,_,_,_,_,_=>none
 | n+1,v6,v7,v44,v45,v46,H =>ob (lbin .lss v46 v45) fun t1 =>cnd t1
  (ob (lix 7 v44 v46) fun t2 =>ob (lloadn H 7 t2) fun t3 =>ob (lzbox H (.agg [(.int .i64 0),(.int .i64 0),(.int .i64 0),(.int .i64 0),(.int .i64 0),(.str []),(.str [])])) fun r4 =>ob (lstV r4.2 7 r4.1 t3) fun r5 =>ob (llen r5.2 .slice v6) fun t6 =>ob (lbin .rem v46 t6) fun t7 =>ob (lix 1 v6 t7) fun t8 =>ob (lload1 r5.2 t8) fun t9 =>ob (lloadn r5.2 7 r4.1) fun t10 =>ob (lbldS r5.2 7 1 [(.int .i64 0),(.int .i64 0),(.int .i64 0),(.int .i64 0),(.int .i64 0),(.str []),(.str [])] [(0,t10)]) fun r11 =>ob (lapp r11.2 7 72 t9 r11.1) fun r12 =>ob (lix 1 v6 t7) fun t13 =>ob (lstV r12.2 1 t13 r12.1) fun r14 =>
   ckd ((!(true)||((!(false))&&ivo (lload1 r5.2 t8) t9&&ivo (lload1 r11.2 t8) t9))&&true) <|
  ob (lbin .add v46 (.int .i64 1)) fun t15 =>
   scriptDecodeC0S cal O N f0 gE0 n v6 v7 v44 v45 t15 r14.2)
  (gE0 v6 v7 H)
theorem scriptDecodeC0Eq (cal:CB)(O:Oracle)(N:Nat)(f0:FuncId){k:KT (IV×Heap)}(gE0:IV->IV->Heap->OH)(hgE0:∀E H,k (.exit 0) E H=gE0 (lk E 6) (lk E 7) H):∀(n:Nat) (E:Sg) (H:Heap),itK (lxK cal O N X10K2) n E H k=scriptDecodeC0S cal O N f0 gE0 n (lk E 6) (lk E 7) (lk E 44) (lk E 45) (lk E 46) H:=by
 have hk:k=(kE 0 (fun E H=>gE0 (lk E 6) (lk E 7) H) k):=(kE_mk hgE0 rfl);intro n
 induction n with
 | zero=>intro E H;rfl
 | succ n ih =>
  intro E H;rw[itK_succ,seqK_mk (g:=fun E H=>scriptDecodeC0S cal O N f0 gE0 n (lk E 6) (lk E 7) (lk E 44) (lk E 45) (lk E 46) H) ih,hk];kernel_rfl
def scriptDecodeC1S (cal:CB)(O:Oracle)(N:Nat)(f0:FuncId)(gN:IV->IV->Heap->OH)(v6 v7 v44 v45 v46:IV)(H:Heap):OH :=
  scriptDecodeC0S cal O N f0 (fun v6 v7 H=>gN v6 v7 H) N v6 v7 v44 v45 v46 H
theorem scriptDecodeC1Eq (cal:CB)(O:Oracle)(N:Nat)(f0:FuncId){k:KT (IV×Heap)}(gN:IV->IV->Heap->OH)(hgN:∀E H,k .normal E H=gN (lk E 6) (lk E 7) H):∀(E:Sg) (H:Heap),lxK cal O N (scriptDecodeC1 f0) E H k=scriptDecodeC1S cal O N f0 gN (lk E 6) (lk E 7) (lk E 44) (lk E 45) (lk E 46) H:=by
 have hk:k=(kN (fun E H=>gN (lk E 6) (lk E 7) H) k):=(kN_mk hgN rfl);intro E H;rw[hk];show lxK cal O N (scriptDecodeC0 f0) E H (blockK 0 (kN (fun E H=>gN (lk E 6) (lk E 7) H) k))=_;exact(scriptDecodeC0Eq cal O N f0 (k:=(blockK 0 (kN (fun E H=>gN (lk E 6) (lk E 7) H) k))) gN (fun _ _=>by kernel_rfl) N E H).trans (by kernel_rfl)
def scriptDecodeC2S (cal:CB)(O:Oracle)(N:Nat)(f0:FuncId)(gN:IV->IV->Heap->OH)(v0 v6 v7 v8:IV)(H:Heap):OH :=
 ob (llen H .slice v0) fun t1 =>ob (llen H .slice v0) fun t2 =>ob (lslice H (.slice 1) v0 (some v8) (some t1) (some t2)) fun t3 =>ob (O f0 [t3] H) fun r4 =>ob (llen r4.2 .slice r4.1) fun t5 =>
  scriptDecodeC1S cal O N f0 (fun v6 v7 H=>gN v6 v7 H) v6 v7 r4.1 t5 (.int .i64 0) r4.2
theorem scriptDecodeC2Eq (cal:CB)(O:Oracle)(N:Nat)(f0:FuncId){k:KT (IV×Heap)}(gN:IV->IV->Heap->OH)(hgN:∀E H,k .normal E H=gN (lk E 6) (lk E 7) H):∀(E:Sg) (H:Heap),lxK cal O N (scriptDecodeC2 f0) E H k=scriptDecodeC2S cal O N f0 gN (lk E 0) (lk E 6) (lk E 7) (lk E 8) H:=by
 have hk:k=(kN (fun E H=>gN (lk E 6) (lk E 7) H) k):=(kN_mk hgN rfl);intro E H;rw[hk];show lxK cal O N (X10K14 f0) E H (seqK (lxK cal O N (scriptDecodeC1 f0)) (kN (fun E H=>gN (lk E 6) (lk E 7) H) k))=_;rw[seqK_mk (g:=fun E H=>scriptDecodeC1S cal O N f0 gN (lk E 6) (lk E 7) (lk E 44) (lk E 45) (lk E 46) H) (scriptDecodeC1Eq cal O N f0 (k:=(kN (fun E H=>gN (lk E 6) (lk E 7) H) k)) gN (fun _ _=>by kernel_rfl))];kernel_rfl
def scriptDecodeC3S (cal:CB)(O:Oracle)(N:Nat)(f0:FuncId)(v0 v6 v7 v8:IV)(H:Heap):OH :=
  scriptDecodeC2S cal O N f0 (fun v6 v7 H=>some ((.tuple [v6,v7]),H)) v0 v6 v7 v8 H
theorem scriptDecodeC3Eq (cal:CB)(O:Oracle)(N:Nat)(f0:FuncId){k:KT (IV×Heap)}(hR:∀E H,k .ret E H=resK [(.tmp 2),(.tmp 3)] [] E H):∀(E:Sg) (H:Heap),lxK cal O N (scriptDecodeC3 f0) E H k=scriptDecodeC3S cal O N f0 (lk E 0) (lk E 6) (lk E 7) (lk E 8) H:=by
 have hk:k=(kR (resK [(.tmp 2),(.tmp 3)] []) k):=(kR_mk hR rfl);intro E H;rw[hk];show lxK cal O N (scriptDecodeC2 f0) E H (seqK (lxK cal O N X10K27) (kR (resK [(.tmp 2),(.tmp 3)] []) k))=_;exact(scriptDecodeC2Eq cal O N f0 (k:=(seqK (lxK cal O N X10K27) (kR (resK [(.tmp 2),(.tmp 3)] []) k))) (fun v6 v7 H=>some ((.tuple [v6,v7]),H)) (fun _ _=>by kernel_rfl) E H).trans (by kernel_rfl)
def scriptDecodeC4S (cal:CB)(O:Oracle)(N:Nat)(f0:FuncId)(v0 v6 v7:IV)(H:Heap):OH :=
 ob (lcpy H 1 v7 v0) fun r1 =>
  scriptDecodeC3S cal O N f0 v0 v6 v7 r1.1 r1.2
theorem scriptDecodeC4Eq (cal:CB)(O:Oracle)(N:Nat)(f0:FuncId){k:KT (IV×Heap)}(hR:∀E H,k .ret E H=resK [(.tmp 2),(.tmp 3)] [] E H):∀(E:Sg) (H:Heap),lxK cal O N (scriptDecodeC4 f0) E H k=scriptDecodeC4S cal O N f0 (lk E 0) (lk E 6) (lk E 7) H:=by
 have hk:k=(kR (resK [(.tmp 2),(.tmp 3)] []) k):=(kR_mk hR rfl);intro E H;rw[hk];show lxK cal O N X10K28 E H (seqK (lxK cal O N (scriptDecodeC3 f0)) (kR (resK [(.tmp 2),(.tmp 3)] []) k))=_;rw[seqK_mk (g:=fun E H=>scriptDecodeC3S cal O N f0 (lk E 0) (lk E 6) (lk E 7) (lk E 8) H) (scriptDecodeC3Eq cal O N f0 (k:=(kR (resK [(.tmp 2),(.tmp 3)] []) k)) (fun _ _=>by kernel_rfl))];kernel_rfl
def scriptDecodeC5S (cal:CB)(O:Oracle)(N:Nat)(f0:FuncId)(v0 v4 v6:IV)(H:Heap):OH :=
 ob (lix 1 v4 (.int .i64 1)) fun t1 =>ob (lload1 H t1) fun t2 =>ob (lmkS H 1 1 [(.int .u8 0)] t2 t2) fun r3 =>
  scriptDecodeC4S cal O N f0 v0 v6 r3.1 r3.2
theorem scriptDecodeC5Eq (cal:CB)(O:Oracle)(N:Nat)(f0:FuncId){k:KT (IV×Heap)}(hR:∀E H,k .ret E H=resK [(.tmp 2),(.tmp 3)] [] E H):∀(E:Sg) (H:Heap),lxK cal O N (scriptDecodeC5 f0) E H k=scriptDecodeC5S cal O N f0 (lk E 0) (lk E 4) (lk E 6) H:=by
 have hk:k=(kR (resK [(.tmp 2),(.tmp 3)] []) k):=(kR_mk hR rfl);intro E H;rw[hk];show lxK cal O N X10K20 E H (seqK (lxK cal O N (scriptDecodeC4 f0)) (kR (resK [(.tmp 2),(.tmp 3)] []) k))=_;rw[seqK_mk (g:=fun E H=>scriptDecodeC4S cal O N f0 (lk E 0) (lk E 6) (lk E 7) H) (scriptDecodeC4Eq cal O N f0 (k:=(kR (resK [(.tmp 2),(.tmp 3)] []) k)) (fun _ _=>by kernel_rfl))];kernel_rfl
def scriptDecodeC6S (cal:CB)(O:Oracle)(N:Nat)(f0:FuncId)(v0 v4:IV)(H:Heap):OH :=
 ob (lix 1 v4 (.int .i64 0)) fun t1 =>ob (lload1 H t1) fun t2 =>ob (lcvt .i64 t2) fun t3 =>ob (lbin .rem t3 (.int .i64 64)) fun t4 =>ob (lbin .add (.int .i64 1) t4) fun t5 =>ob (lmkS H 1 24 [.nilSlice] t5 t5) fun r6 =>
  scriptDecodeC5S cal O N f0 v0 v4 r6.1 r6.2
theorem scriptDecodeC6Eq (cal:CB)(O:Oracle)(N:Nat)(f0:FuncId){k:KT (IV×Heap)}(hR:∀E H,k .ret E H=resK [(.tmp 2),(.tmp 3)] [] E H):∀(E:Sg) (H:Heap),lxK cal O N (scriptDecodeC6 f0) E H k=scriptDecodeC6S cal O N f0 (lk E 0) (lk E 4) H:=by
 have hk:k=(kR (resK [(.tmp 2),(.tmp 3)] []) k):=(kR_mk hR rfl);intro E H;rw[hk];show lxK cal O N X10K15 E H (seqK (lxK cal O N (scriptDecodeC5 f0)) (kR (resK [(.tmp 2),(.tmp 3)] []) k))=_;rw[seqK_mk (g:=fun E H=>scriptDecodeC5S cal O N f0 (lk E 0) (lk E 4) (lk E 6) H) (scriptDecodeC5Eq cal O N f0 (k:=(kR (resK [(.tmp 2),(.tmp 3)] []) k)) (fun _ _=>by kernel_rfl))];kernel_rfl
def scriptDecodeC7S (cal:CB)(O:Oracle)(N:Nat)(f0:FuncId)(v0 v4 v5:IV)(H:Heap):OH :=
 ob (llen H .slice v0) fun t1 =>ob (llen H .slice v0) fun t2 =>ob (lslice H (.slice 1) v0 (some v5) (some t1) (some t2)) fun t3 =>
  scriptDecodeC6S cal O N f0 t3 v4 H
theorem scriptDecodeC7Eq (cal:CB)(O:Oracle)(N:Nat)(f0:FuncId){k:KT (IV×Heap)}(hR:∀E H,k .ret E H=resK [(.tmp 2),(.tmp 3)] [] E H):∀(E:Sg) (H:Heap),lxK cal O N (scriptDecodeC7 f0) E H k=scriptDecodeC7S cal O N f0 (lk E 0) (lk E 4) (lk E 5) H:=by
 have hk:k=(kR (resK [(.tmp 2),(.tmp 3)] []) k):=(kR_mk hR rfl);intro E H;rw[hk];show lxK cal O N X10K16 E H (seqK (lxK cal O N (scriptDecodeC6 f0)) (kR (resK [(.tmp 2),(.tmp 3)] []) k))=_;rw[seqK_mk (g:=fun E H=>scriptDecodeC6S cal O N f0 (lk E 0) (lk E 4) H) (scriptDecodeC6Eq cal O N f0 (k:=(kR (resK [(.tmp 2),(.tmp 3)] []) k)) (fun _ _=>by kernel_rfl))];kernel_rfl
def scriptDecodeC8S (cal:CB)(O:Oracle)(N:Nat)(f0:FuncId)(v0 v4:IV)(H:Heap):OH :=
 ob (lcpy H 1 v4 v0) fun r1 =>
  scriptDecodeC7S cal O N f0 v0 v4 r1.1 r1.2
theorem scriptDecodeC8Eq (cal:CB)(O:Oracle)(N:Nat)(f0:FuncId){k:KT (IV×Heap)}(hR:∀E H,k .ret E H=resK [(.tmp 2),(.tmp 3)] [] E H):∀(E:Sg) (H:Heap),lxK cal O N (scriptDecodeC8 f0) E H k=scriptDecodeC8S cal O N f0 (lk E 0) (lk E 4) H:=by
 have hk:k=(kR (resK [(.tmp 2),(.tmp 3)] []) k):=(kR_mk hR rfl);intro E H;rw[hk];show lxK cal O N X10K29 E H (seqK (lxK cal O N (scriptDecodeC7 f0)) (kR (resK [(.tmp 2),(.tmp 3)] []) k))=_;rw[seqK_mk (g:=fun E H=>scriptDecodeC7S cal O N f0 (lk E 0) (lk E 4) (lk E 5) H) (scriptDecodeC7Eq cal O N f0 (k:=(kR (resK [(.tmp 2),(.tmp 3)] []) k)) (fun _ _=>by kernel_rfl))];kernel_rfl
def scriptDecodeC9S (cal:CB)(O:Oracle)(N:Nat)(f0:FuncId)(v0:IV)(H:Heap):OH :=
 ob (lmkS H 1 1 [(.int .u8 0)] (.int .i64 2) (.int .i64 2)) fun r1 =>
  scriptDecodeC8S cal O N f0 v0 r1.1 r1.2
theorem scriptDecodeC9Eq (cal:CB)(O:Oracle)(N:Nat)(f0:FuncId){k:KT (IV×Heap)}(hR:∀E H,k .ret E H=resK [(.tmp 2),(.tmp 3)] [] E H):∀(E:Sg) (H:Heap),lxK cal O N (scriptDecodeC9 f0) E H k=scriptDecodeC9S cal O N f0 (lk E 0) H:=by
 have hk:k=(kR (resK [(.tmp 2),(.tmp 3)] []) k):=(kR_mk hR rfl);intro E H;rw[hk];show lxK cal O N X10K39 E H (seqK (lxK cal O N (scriptDecodeC8 f0)) (kR (resK [(.tmp 2),(.tmp 3)] []) k))=_;rw[seqK_mk (g:=fun E H=>scriptDecodeC8S cal O N f0 (lk E 0) (lk E 4) H) (scriptDecodeC8Eq cal O N f0 (k:=(kR (resK [(.tmp 2),(.tmp 3)] []) k)) (fun _ _=>by kernel_rfl))];kernel_rfl
def scriptDecodeC10S (cal:CB)(O:Oracle)(N:Nat)(f0:FuncId)(v0:IV)(H:Heap):OH :=
  scriptDecodeC9S cal O N f0 v0 H
theorem scriptDecodeC10Eq (cal:CB)(O:Oracle)(N:Nat)(f0:FuncId){k:KT (IV×Heap)}(hR:∀E H,k .ret E H=resK [(.tmp 2),(.tmp 3)] [] E H):∀(E:Sg) (H:Heap),lxK cal O N (scriptDecodeC10 f0) E H k=scriptDecodeC10S cal O N f0 (lk E 0) H:=by
 have hk:k=(kR (resK [(.tmp 2),(.tmp 3)] []) k):=(kR_mk hR rfl);intro E H;rw[hk];show lxK cal O N (.reg [ qO 2 (.mv (.k .nilSlice)),qO 3 (.mv (.k .nilSlice))]) E H (seqK (lxK cal O N (scriptDecodeC9 f0)) (kR (resK [(.tmp 2),(.tmp 3)] []) k))=_;rw[seqK_mk (g:=fun E H=>scriptDecodeC9S cal O N f0 (lk E 0) H) (scriptDecodeC9Eq cal O N f0 (k:=(kR (resK [(.tmp 2),(.tmp 3)] []) k)) (fun _ _=>by kernel_rfl))];kernel_rfl
def scriptDecode (f0:FuncId):LFun:=⟨(scriptDecodeC10 f0),[(.tmp 2),(.tmp 3)],68⟩
def scriptDecodeS (cal:CB)(O:Oracle)(N:Nat)(f0:FuncId)(v0:IV)(H:Heap):OH :=
  scriptDecodeC10S cal O N f0 v0 H
theorem scriptDecodeEq (cal:CB)(O:Oracle)(N:Nat)(f0:FuncId)(v0:IV)(H:Heap):lrunK cal O N (scriptDecode f0) [v0] H=scriptDecodeS cal O N f0 v0 H:=by
 show lxK cal O N (scriptDecodeC10 f0) (initFrom 0 [v0]) H (endK [(.tmp 2),(.tmp 3)])=_;exact scriptDecodeC10Eq cal O N f0 (k:=(endK [(.tmp 2),(.tmp 3)])) (fun _ _=>by kernel_rfl) (initFrom 0 [v0]) H
def X10K6 :LC:=.seq (.reg [ qO 39 (.bin .lss (.t 38) (.t 37))]) (.seq (.cond (.t 39) .skip (.exit 2)) (.seq (.block 3 (.seq (.reg [ qM 40 38,qM 9 40]) (.seq (.reg [ qM 41 8,qM 42 0,qM 43 9,qO 44 (.ix 1 (.t 42) (.t 43)),qO 45 (.ld1 (.t 44)),qO 46 (.len .slice (.t 45)),qO 47 (.bin .lss (.t 41) (.t 46))]) (.cond (.t 47) (.reg [ qM 48 7,qM 49 0,qM 50 9,qO 51 (.ix 1 (.t 49) (.t 50)),qO 52 (.ld1 (.t 51)),qM 53 8,qO 54 (.ix 7 (.t 52) (.t 53)),qO 55 (.ldn 7 (.t 54)),qO 56 (.bldS 7 1 [(.int .i64 0),(.int .i64 0),(.int .i64 0),(.int .i64 0),(.int .i64 0),(.str []),(.str [])] [(0,(.t 55))]),qO 57 (.app 7 72 (.t 48) (.t 56)),qM 7 57]) .skip)))) (.reg [ qO 58 (.bin .add (.t 38) (k6 1)),qM 38 58])))
def scriptEncodeC0 (f0:FuncId):LC:=.loop X10K6
def scriptEncodeC1 (f0:FuncId):LC:=.block 2 (scriptEncodeC0 f0)
def X10K36 :LC:=.reg [ qM 36 0,qO 37 (.len .slice (.t 36)),qO 38 (.mv (k6 0))]
def scriptEncodeC2 (f0:FuncId):LC:=.seq X10K36 (scriptEncodeC1 f0)
def scriptEncodeC3 (f0:FuncId):LC:=.block 1 (scriptEncodeC2 f0)
def X10K32 :LC:=.reg [ qM 34 8,qO 35 (.bin .add (.t 34) (k6 1)),qM 8 35]
def scriptEncodeC4 (f0:FuncId):LC:=.seq (scriptEncodeC3 f0) X10K32
def X10K18 :LC:=.seq (.reg [ qM 28 8,qM 29 0,qO 30 (.ix 1 (.t 29) (k6 0)),qO 31 (.ld1 (.t 30)),qO 32 (.len .slice (.t 31)),qO 33 (.bin .lss (.t 28) (.t 32))]) (.cond (.t 33) .skip (.exit 0))
def scriptEncodeC5 (f0:FuncId):LC:=.seq X10K18 (scriptEncodeC4 f0)
def scriptEncodeC6 (f0:FuncId):LC:=.loop (scriptEncodeC5 f0)
def scriptEncodeC7 (f0:FuncId):LC:=.block 0 (scriptEncodeC6 f0)
def scriptEncodeC8 (f0:FuncId):LC:=.seq (.reg [ qO 8 (.mv (k6 0))]) (scriptEncodeC7 f0)
def X10K41 :LC:=.seq (.reg [ qO 4 (.mv (.k .nilSlice)),qO 5 (.mv (k6 22))]) .ret
def X10K5 :LC:=.seq (.reg [ qO 62 (.bin .lss (.t 61) (.t 60))]) (.seq (.cond (.t 62) .skip (.exit 4)) (.seq (.block 5 (.seq (.reg [ qM 63 61,qM 10 63]) (.seq (.reg [ qM 64 7,qO 65 (.len .slice (.t 64)),qM 66 10,qO 67 (.bin .sub (.t 65) (.t 66)),qM 68 6,qO 69 (.bin .add (.t 67) (.t 68)),qO 70 (.bin .sub (.t 69) (k6 1)),qM 71 6,qO 72 (.bin .quo (.t 70) (.t 71)),qM 11 72]) (.seq (.reg [ qM 73 0,qM 74 10,qO 75 (.ix 1 (.t 73) (.t 74)),qO 76 (.ld1 (.t 75)),qO 77 (.len .slice (.t 76)),qM 78 11,qO 79 (.bin .neq (.t 77) (.t 78))]) (.cond (.t 79) X10K41 .skip))))) (.reg [ qO 80 (.bin .add (.t 61) (k6 1)),qM 61 80])))
def scriptEncodeC9 (f0:FuncId):LC:=.loop X10K5
def scriptEncodeC10 (f0:FuncId):LC:=.block 4 (scriptEncodeC9 f0)
def X10K37 :LC:=.reg [ qM 59 0,qO 60 (.len .slice (.t 59)),qO 61 (.mv (k6 0))]
def scriptEncodeC11 (f0:FuncId):LC:=.seq X10K37 (scriptEncodeC10 f0)
def X10K3 (f0:FuncId):LC:=.seq (.reg [ qM 82 7,qO 83 (.callF f0 [(.t 82)]),qM 81 83,qO 84 (.ext (.t 81) 0),qO 85 (.ext (.t 81) 1),qM 12 84,qM 13 85]) (.seq (.seq (.reg [ qM 86 13,qO 87 (.bin .neq (.t 86) (k6 0))]) (.cond (.t 87) (.seq (.reg [ qM 88 13,qO 4 (.mv (.k .nilSlice)),qM 5 88]) .ret) .skip)) (.seq (.reg [ qM 89 6,qO 90 (.bin .sub (.t 89) (k6 1)),qO 91 (.cvt .u8 (.t 90)),qM 92 1,qO 93 (.len .slice (.t 92)),qO 94 (.cvt .u8 (.t 93)),qO 95 (.bldS 1 2 [(.int .u8 0)] [(0,(.t 91)),(1,(.t 94))]),qM 14 95]) (.seq (.reg [ qM 96 14,qM 97 1,qO 98 (.app 1 1 (.t 96) (.t 97)),qM 14 98]) (.seq (.reg [ qM 99 14,qM 100 12,qO 101 (.app 1 1 (.t 99) (.t 100)),qM 4 101,qO 5 (.mv (k6 0))]) .ret))))
def scriptEncodeC12 (f0:FuncId):LC:=.seq (scriptEncodeC11 f0) (X10K3 f0)
def scriptEncodeC13 (f0:FuncId):LC:=.seq (scriptEncodeC8 f0) (scriptEncodeC12 f0)
def scriptEncodeC14 (f0:FuncId):LC:=.seq (.reg [ qO 7 (.mv (.k .nilSlice))]) (scriptEncodeC13 f0)
def X10K38 :LC:=.cond (.t 27) X10K41 .skip
def X10K11 :LC:=.seq (.reg [ qM 17 6,qO 18 (.bin .lss (.t 17) (k6 1)),qM 19 18,⟨(some 20),(.mv (.t 6)),(some (19,false))⟩,⟨(some 21),(.bin .gtr (.t 20) (k6 64)),(some (19,false))⟩,qO 22 (.pick (.t 19) (.k (.bool true)) (.t 21)),qM 23 22,⟨(some 24),(.mv (.t 1)),(some (23,false))⟩,⟨(some 25),(.len .slice (.t 24)),(some (23,false))⟩,⟨(some 26),(.bin .gtr (.t 25) (k6 255)),(some (23,false))⟩,qO 27 (.pick (.t 23) (.k (.bool true)) (.t 26))]) X10K38
def scriptEncodeC15 (f0:FuncId):LC:=.seq X10K11 (scriptEncodeC14 f0)
def X10K40 :LC:=.reg [ qM 15 0,qO 16 (.len .slice (.t 15)),qM 6 16]
def scriptEncodeC16 (f0:FuncId):LC:=.seq X10K40 (scriptEncodeC15 f0)
def X10K42 :LC:=.reg [ qO 4 (.mv (.k .nilSlice)),qO 5 (.mv (k6 0))]
def scriptEncodeC17 (f0:FuncId):LC:=.seq X10K42 (scriptEncodeC16 f0)
def scriptEncodeC9S (cal:CB)(O:Oracle)(N:Nat)(f0:FuncId)(gE4:IV->IV->IV->Heap->OH):Nat->IV->IV->IV->IV->IV->IV->Heap->OH
 | 0,_,_,_,_,_,_,_=>none
 | n+1,v0,v1,v6,v7,v60,v61,H =>ob (lbin .lss v61 v60) fun t1 =>cnd t1
  (ob (llen H .slice v7) fun t2 =>ob (lbin .sub t2 v61) fun t3 =>ob (lbin .add t3 v6) fun t4 =>ob (lbin .sub t4 (.int .i64 1)) fun t5 =>ob (lbin .quo t5 v6) fun t6 =>ob (lix 1 v0 v61) fun t7 =>ob (lload1 H t7) fun t8 =>ob (llen H .slice t8) fun t9 =>ob (lbin .neq t9 t6) fun t10 =>cnd t10
  (some ((.tuple [.nilSlice,(.int .i64 22)]),H))
  (ob (lbin .add v61 (.int .i64 1)) fun t11 =>
   scriptEncodeC9S cal O N f0 gE4 n v0 v1 v6 v7 v60 t11 H))
  (gE4 v1 v6 v7 H)
theorem scriptEncodeC9Eq (cal:CB)(O:Oracle)(N:Nat)(f0:FuncId){k:KT (IV×Heap)}(gE4:IV->IV->IV->Heap->OH)(hgE4:∀E H,k (.exit 4) E H=gE4 (lk E 1) (lk E 6) (lk E 7) H)(hR:∀E H,k .ret E H=resK [(.tmp 4),(.tmp 5)] [] E H):∀(n:Nat) (E:Sg) (H:Heap),itK (lxK cal O N X10K5) n E H k=scriptEncodeC9S cal O N f0 gE4 n (lk E 0) (lk E 1) (lk E 6) (lk E 7) (lk E 60) (lk E 61) H:=by
 have hk:k=(kE 4 (fun E H=>gE4 (lk E 1) (lk E 6) (lk E 7) H) (kR (resK [(.tmp 4),(.tmp 5)] []) k)):=(kE_mk hgE4 (kR_mk hR rfl));intro n
 induction n with
 | zero=>intro E H;rfl
 | succ n ih =>
  intro E H;rw[itK_succ,seqK_mk (g:=fun E H=>scriptEncodeC9S cal O N f0 gE4 n (lk E 0) (lk E 1) (lk E 6) (lk E 7) (lk E 60) (lk E 61) H) ih,hk];kernel_rfl
def scriptEncodeC10S (cal:CB)(O:Oracle)(N:Nat)(f0:FuncId)(gN:IV->IV->IV->Heap->OH)(v0 v1 v6 v7 v60 v61:IV)(H:Heap):OH :=
  scriptEncodeC9S cal O N f0 (fun v1 v6 v7 H=>gN v1 v6 v7 H) N v0 v1 v6 v7 v60 v61 H
theorem scriptEncodeC10Eq (cal:CB)(O:Oracle)(N:Nat)(f0:FuncId){k:KT (IV×Heap)}(gN:IV->IV->IV->Heap->OH)(hgN:∀E H,k .normal E H=gN (lk E 1) (lk E 6) (lk E 7) H)(hR:∀E H,k .ret E H=resK [(.tmp 4),(.tmp 5)] [] E H):∀(E:Sg) (H:Heap),lxK cal O N (scriptEncodeC10 f0) E H k=scriptEncodeC10S cal O N f0 gN (lk E 0) (lk E 1) (lk E 6) (lk E 7) (lk E 60) (lk E 61) H:=by
 have hk:k=(kN (fun E H=>gN (lk E 1) (lk E 6) (lk E 7) H) (kR (resK [(.tmp 4),(.tmp 5)] []) k)):=(kN_mk hgN (kR_mk hR rfl));intro E H;rw[hk];show lxK cal O N (scriptEncodeC9 f0) E H (blockK 4 (kN (fun E H=>gN (lk E 1) (lk E 6) (lk E 7) H) (kR (resK [(.tmp 4),(.tmp 5)] []) k)))=_;exact(scriptEncodeC9Eq cal O N f0 (k:=(blockK 4 (kN (fun E H=>gN (lk E 1) (lk E 6) (lk E 7) H) (kR (resK [(.tmp 4),(.tmp 5)] []) k)))) gN (fun _ _=>by kernel_rfl) (fun _ _=>by kernel_rfl) N E H).trans (by kernel_rfl)
def scriptEncodeC11S (cal:CB)(O:Oracle)(N:Nat)(f0:FuncId)(gN:IV->IV->IV->Heap->OH)(v0 v1 v6 v7:IV)(H:Heap):OH :=
 ob (llen H .slice v0) fun t1 =>
  scriptEncodeC10S cal O N f0 (fun v1 v6 v7 H=>gN v1 v6 v7 H) v0 v1 v6 v7 t1 (.int .i64 0) H
theorem scriptEncodeC11Eq (cal:CB)(O:Oracle)(N:Nat)(f0:FuncId){k:KT (IV×Heap)}(gN:IV->IV->IV->Heap->OH)(hgN:∀E H,k .normal E H=gN (lk E 1) (lk E 6) (lk E 7) H)(hR:∀E H,k .ret E H=resK [(.tmp 4),(.tmp 5)] [] E H):∀(E:Sg) (H:Heap),lxK cal O N (scriptEncodeC11 f0) E H k=scriptEncodeC11S cal O N f0 gN (lk E 0) (lk E 1) (lk E 6) (lk E 7) H:=by
 have hk:k=(kN (fun E H=>gN (lk E 1) (lk E 6) (lk E 7) H) (kR (resK [(.tmp 4),(.tmp 5)] []) k)):=(kN_mk hgN (kR_mk hR rfl));intro E H;rw[hk];show lxK cal O N X10K37 E H (seqK (lxK cal O N (scriptEncodeC10 f0)) (kN (fun E H=>gN (lk E 1) (lk E 6) (lk E 7) H) (kR (resK [(.tmp 4),(.tmp 5)] []) k)))=_;rw[seqK_mk (g:=fun E H=>scriptEncodeC10S cal O N f0 gN (lk E 0) (lk E 1) (lk E 6) (lk E 7) (lk E 60) (lk E 61) H) (scriptEncodeC10Eq cal O N f0 (k:=(kN (fun E H=>gN (lk E 1) (lk E 6) (lk E 7) H) (kR (resK [(.tmp 4),(.tmp 5)] []) k))) gN (fun _ _=>by kernel_rfl) (fun _ _=>by kernel_rfl))];kernel_rfl
def scriptEncodeC12S (cal:CB)(O:Oracle)(N:Nat)(f0:FuncId)(v0 v1 v6 v7:IV)(H:Heap):OH :=
  scriptEncodeC11S cal O N f0 (fun v1 v6 v7 H=>ob (O f0 [v7] H) fun r1 =>ob (iextract r1.1 0) fun t2 =>ob (iextract r1.1 1) fun t3 =>ob (lbin .neq t3 (.int .i64 0)) fun t4 =>cnd t4
 (some ((.tuple [.nilSlice,t3]),r1.2))
 (ob (lbin .sub v6 (.int .i64 1)) fun t5 =>ob (lcvt .u8 t5) fun t6 =>ob (llen r1.2 .slice v1) fun t7 =>ob (lcvt .u8 t7) fun t8 =>ob (lbldS r1.2 1 2 [(.int .u8 0)] [(0,t6),(1,t8)]) fun r9 =>ob (lapp r9.2 1 1 r9.1 v1) fun r10 =>ob (lapp r10.2 1 1 r10.1 t2) fun r11 =>some ((.tuple [r11.1,(.int .i64 0)]),r11.2))) v0 v1 v6 v7 H
theorem scriptEncodeC12Eq (cal:CB)(O:Oracle)(N:Nat)(f0:FuncId){k:KT (IV×Heap)}(hR:∀E H,k .ret E H=resK [(.tmp 4),(.tmp 5)] [] E H):∀(E:Sg) (H:Heap),lxK cal O N (scriptEncodeC12 f0) E H k=scriptEncodeC12S cal O N f0 (lk E 0) (lk E 1) (lk E 6) (lk E 7) H:=by
 have hk:k=(kR (resK [(.tmp 4),(.tmp 5)] []) k):=(kR_mk hR rfl);intro E H;rw[hk];show lxK cal O N (scriptEncodeC11 f0) E H (seqK (lxK cal O N (X10K3 f0)) (kR (resK [(.tmp 4),(.tmp 5)] []) k))=_;exact(scriptEncodeC11Eq cal O N f0 (k:=(seqK (lxK cal O N (X10K3 f0)) (kR (resK [(.tmp 4),(.tmp 5)] []) k))) (fun v1 v6 v7 H=>ob (O f0 [v7] H) fun r1 =>ob (iextract r1.1 0) fun t2 =>ob (iextract r1.1 1) fun t3 =>ob (lbin .neq t3 (.int .i64 0)) fun t4 =>cnd t4
(some ((.tuple [.nilSlice,t3]),r1.2))
(ob (lbin .sub v6 (.int .i64 1)) fun t5 =>ob (lcvt .u8 t5) fun t6 =>ob (llen r1.2 .slice v1) fun t7 =>ob (lcvt .u8 t7) fun t8 =>ob (lbldS r1.2 1 2 [(.int .u8 0)] [(0,t6),(1,t8)]) fun r9 =>ob (lapp r9.2 1 1 r9.1 v1) fun r10 =>ob (lapp r10.2 1 1 r10.1 t2) fun r11 =>some ((.tuple [r11.1,(.int .i64 0)]),r11.2))) (fun _ _=>by kernel_rfl) (fun _ _=>by kernel_rfl) E H).trans (by kernel_rfl)
def scriptEncodeC0S (cal:CB)(O:Oracle)(N:Nat)(f0:FuncId)(gE2:IV->IV->IV->IV->IV->Heap->OH):Nat->IV->IV->IV->IV->IV->IV->IV->Heap->OH
 | 0,_,_,_,_,_,_,_,_=>none
 | n+1,v0,v1,v6,v7,v8,v37,v38,H =>ob (lbin .lss v38 v37) fun t1 =>cnd t1
  (jn (fun(j3:IV) (H18:Heap) =>ob (lbin .add v38 (.int .i64 1)) fun t19 =>
   scriptEncodeC0S cal O N f0 gE2 n v0 v1 v6 j3 v8 v37 t19 H18) fun J2 =>ob (lix 1 v0 v38) fun t20 =>ob (lload1 H t20) fun t21 =>ob (llen H .slice t21) fun t22 =>ob (lbin .lss v8 t22) fun t23 =>cnd t23
  (ob (lix 1 v0 v38) fun t24 =>ob (lload1 H t24) fun t25 =>ob (lix 7 t25 v8) fun t26 =>ob (lloadn H 7 t26) fun t27 =>ob (lbldS H 7 1 [(.int .i64 0),(.int .i64 0),(.int .i64 0),(.int .i64 0),(.int .i64 0),(.str []),(.str [])] [(0,t27)]) fun r28 =>ob (lapp r28.2 7 72 v7 r28.1) fun r29 =>J2 r29.1 r29.2)
  (J2 v7 H))
  (gE2 v0 v1 v6 v7 v8 H)
theorem scriptEncodeC0Eq (cal:CB)(O:Oracle)(N:Nat)(f0:FuncId){k:KT (IV×Heap)}(gE2:IV->IV->IV->IV->IV->Heap->OH)(hgE2:∀E H,k (.exit 2) E H=gE2 (lk E 0) (lk E 1) (lk E 6) (lk E 7) (lk E 8) H):∀(n:Nat) (E:Sg) (H:Heap),itK (lxK cal O N X10K6) n E H k=scriptEncodeC0S cal O N f0 gE2 n (lk E 0) (lk E 1) (lk E 6) (lk E 7) (lk E 8) (lk E 37) (lk E 38) H:=by
 have hk:k=(kE 2 (fun E H=>gE2 (lk E 0) (lk E 1) (lk E 6) (lk E 7) (lk E 8) H) k):=(kE_mk hgE2 rfl);intro n
 induction n with
 | zero=>intro E H;rfl
 | succ n ih =>
  intro E H;rw[itK_succ,seqK_mk (g:=fun E H=>scriptEncodeC0S cal O N f0 gE2 n (lk E 0) (lk E 1) (lk E 6) (lk E 7) (lk E 8) (lk E 37) (lk E 38) H) ih,hk];kernel_rfl
def scriptEncodeC1S (cal:CB)(O:Oracle)(N:Nat)(f0:FuncId)(gN:IV->IV->IV->IV->IV->Heap->OH)(v0 v1 v6 v7 v8 v37 v38:IV)(H:Heap):OH :=
  scriptEncodeC0S cal O N f0 (fun v0 v1 v6 v7 v8 H=>gN v0 v1 v6 v7 v8 H) N v0 v1 v6 v7 v8 v37 v38 H
theorem scriptEncodeC1Eq (cal:CB)(O:Oracle)(N:Nat)(f0:FuncId){k:KT (IV×Heap)}(gN:IV->IV->IV->IV->IV->Heap->OH)(hgN:∀E H,k .normal E H=gN (lk E 0) (lk E 1) (lk E 6) (lk E 7) (lk E 8) H):∀(E:Sg) (H:Heap),lxK cal O N (scriptEncodeC1 f0) E H k=scriptEncodeC1S cal O N f0 gN (lk E 0) (lk E 1) (lk E 6) (lk E 7) (lk E 8) (lk E 37) (lk E 38) H:=by
 have hk:k=(kN (fun E H=>gN (lk E 0) (lk E 1) (lk E 6) (lk E 7) (lk E 8) H) k):=(kN_mk hgN rfl);intro E H;rw[hk];show lxK cal O N (scriptEncodeC0 f0) E H (blockK 2 (kN (fun E H=>gN (lk E 0) (lk E 1) (lk E 6) (lk E 7) (lk E 8) H) k))=_;exact(scriptEncodeC0Eq cal O N f0 (k:=(blockK 2 (kN (fun E H=>gN (lk E 0) (lk E 1) (lk E 6) (lk E 7) (lk E 8) H) k))) gN (fun _ _=>by kernel_rfl) N E H).trans (by kernel_rfl)
def scriptEncodeC2S (cal:CB)(O:Oracle)(N:Nat)(f0:FuncId)(gN:IV->IV->IV->IV->IV->Heap->OH)(v0 v1 v6 v7 v8:IV)(H:Heap):OH :=
 ob (llen H .slice v0) fun t1 =>
  scriptEncodeC1S cal O N f0 (fun v0 v1 v6 v7 v8 H=>gN v0 v1 v6 v7 v8 H) v0 v1 v6 v7 v8 t1 (.int .i64 0) H
theorem scriptEncodeC2Eq (cal:CB)(O:Oracle)(N:Nat)(f0:FuncId){k:KT (IV×Heap)}(gN:IV->IV->IV->IV->IV->Heap->OH)(hgN:∀E H,k .normal E H=gN (lk E 0) (lk E 1) (lk E 6) (lk E 7) (lk E 8) H):∀(E:Sg) (H:Heap),lxK cal O N (scriptEncodeC2 f0) E H k=scriptEncodeC2S cal O N f0 gN (lk E 0) (lk E 1) (lk E 6) (lk E 7) (lk E 8) H:=by
 have hk:k=(kN (fun E H=>gN (lk E 0) (lk E 1) (lk E 6) (lk E 7) (lk E 8) H) k):=(kN_mk hgN rfl);intro E H;rw[hk];show lxK cal O N X10K36 E H (seqK (lxK cal O N (scriptEncodeC1 f0)) (kN (fun E H=>gN (lk E 0) (lk E 1) (lk E 6) (lk E 7) (lk E 8) H) k))=_;rw[seqK_mk (g:=fun E H=>scriptEncodeC1S cal O N f0 gN (lk E 0) (lk E 1) (lk E 6) (lk E 7) (lk E 8) (lk E 37) (lk E 38) H) (scriptEncodeC1Eq cal O N f0 (k:=(kN (fun E H=>gN (lk E 0) (lk E 1) (lk E 6) (lk E 7) (lk E 8) H) k)) gN (fun _ _=>by kernel_rfl))];kernel_rfl
def scriptEncodeC3S (cal:CB)(O:Oracle)(N:Nat)(f0:FuncId)(gN:IV->IV->IV->IV->IV->Heap->OH)(v0 v1 v6 v7 v8:IV)(H:Heap):OH :=
  scriptEncodeC2S cal O N f0 (fun v0 v1 v6 v7 v8 H=>gN v0 v1 v6 v7 v8 H) v0 v1 v6 v7 v8 H
theorem scriptEncodeC3Eq (cal:CB)(O:Oracle)(N:Nat)(f0:FuncId){k:KT (IV×Heap)}(gN:IV->IV->IV->IV->IV->Heap->OH)(hgN:∀E H,k .normal E H=gN (lk E 0) (lk E 1) (lk E 6) (lk E 7) (lk E 8) H):∀(E:Sg) (H:Heap),lxK cal O N (scriptEncodeC3 f0) E H k=scriptEncodeC3S cal O N f0 gN (lk E 0) (lk E 1) (lk E 6) (lk E 7) (lk E 8) H:=by
 have hk:k=(kN (fun E H=>gN (lk E 0) (lk E 1) (lk E 6) (lk E 7) (lk E 8) H) k):=(kN_mk hgN rfl);intro E H;rw[hk];show lxK cal O N (scriptEncodeC2 f0) E H (blockK 1 (kN (fun E H=>gN (lk E 0) (lk E 1) (lk E 6) (lk E 7) (lk E 8) H) k))=_;exact(scriptEncodeC2Eq cal O N f0 (k:=(blockK 1 (kN (fun E H=>gN (lk E 0) (lk E 1) (lk E 6) (lk E 7) (lk E 8) H) k))) gN (fun _ _=>by kernel_rfl) E H).trans (by kernel_rfl)
def scriptEncodeC4S (cal:CB)(O:Oracle)(N:Nat)(f0:FuncId)(gN:IV->IV->IV->IV->IV->Heap->OH)(v0 v1 v6 v7 v8:IV)(H:Heap):OH :=
  scriptEncodeC3S cal O N f0 (fun v0 v1 v6 v7 v8 H=>ob (lbin .add v8 (.int .i64 1)) fun t1 =>
 gN v0 v1 v6 v7 t1 H) v0 v1 v6 v7 v8 H
theorem scriptEncodeC4Eq (cal:CB)(O:Oracle)(N:Nat)(f0:FuncId){k:KT (IV×Heap)}(gN:IV->IV->IV->IV->IV->Heap->OH)(hgN:∀E H,k .normal E H=gN (lk E 0) (lk E 1) (lk E 6) (lk E 7) (lk E 8) H):∀(E:Sg) (H:Heap),lxK cal O N (scriptEncodeC4 f0) E H k=scriptEncodeC4S cal O N f0 gN (lk E 0) (lk E 1) (lk E 6) (lk E 7) (lk E 8) H:=by
 have hk:k=(kN (fun E H=>gN (lk E 0) (lk E 1) (lk E 6) (lk E 7) (lk E 8) H) k):=(kN_mk hgN rfl);intro E H;rw[hk];show lxK cal O N (scriptEncodeC3 f0) E H (seqK (lxK cal O N X10K32) (kN (fun E H=>gN (lk E 0) (lk E 1) (lk E 6) (lk E 7) (lk E 8) H) k))=_;exact(scriptEncodeC3Eq cal O N f0 (k:=(seqK (lxK cal O N X10K32) (kN (fun E H=>gN (lk E 0) (lk E 1) (lk E 6) (lk E 7) (lk E 8) H) k))) (fun v0 v1 v6 v7 v8 H=>ob (lbin .add v8 (.int .i64 1)) fun t1 =>
gN v0 v1 v6 v7 t1 H) (fun _ _=>by kernel_rfl) E H).trans (by kernel_rfl)
def scriptEncodeC5S (cal:CB)(O:Oracle)(N:Nat)(f0:FuncId)(gE0:IV->IV->IV->IV->Heap->OH)(gN:IV->IV->IV->IV->IV->Heap->OH)(v0 v1 v6 v7 v8:IV)(H:Heap):OH :=
 ob (lix 1 v0 (.int .i64 0)) fun t1 =>ob (lload1 H t1) fun t2 =>ob (llen H .slice t2) fun t3 =>ob (lbin .lss v8 t3) fun t4 =>cnd t4
  (scriptEncodeC4S cal O N f0 (fun v0 v1 v6 v7 v8 H=>gN v0 v1 v6 v7 v8 H) v0 v1 v6 v7 v8 H)
 (gE0 v0 v1 v6 v7 H)
theorem scriptEncodeC5Eq (cal:CB)(O:Oracle)(N:Nat)(f0:FuncId){k:KT (IV×Heap)}(gE0:IV->IV->IV->IV->Heap->OH)(gN:IV->IV->IV->IV->IV->Heap->OH)(hgE0:∀E H,k (.exit 0) E H=gE0 (lk E 0) (lk E 1) (lk E 6) (lk E 7) H)(hgN:∀E H,k .normal E H=gN (lk E 0) (lk E 1) (lk E 6) (lk E 7) (lk E 8) H):∀(E:Sg) (H:Heap),lxK cal O N (scriptEncodeC5 f0) E H k=scriptEncodeC5S cal O N f0 gE0 gN (lk E 0) (lk E 1) (lk E 6) (lk E 7) (lk E 8) H:=by
 have hk:k=(kN (fun E H=>gN (lk E 0) (lk E 1) (lk E 6) (lk E 7) (lk E 8) H) (kE 0 (fun E H=>gE0 (lk E 0) (lk E 1) (lk E 6) (lk E 7) H) k)):=(kN_mk hgN (kE_mk hgE0 rfl));intro E H;rw[hk];show lxK cal O N X10K18 E H (seqK (lxK cal O N (scriptEncodeC4 f0)) (kN (fun E H=>gN (lk E 0) (lk E 1) (lk E 6) (lk E 7) (lk E 8) H) (kE 0 (fun E H=>gE0 (lk E 0) (lk E 1) (lk E 6) (lk E 7) H) k)))=_;rw[seqK_mk (g:=fun E H=>scriptEncodeC4S cal O N f0 gN (lk E 0) (lk E 1) (lk E 6) (lk E 7) (lk E 8) H) (scriptEncodeC4Eq cal O N f0 (k:=(kN (fun E H=>gN (lk E 0) (lk E 1) (lk E 6) (lk E 7) (lk E 8) H) (kE 0 (fun E H=>gE0 (lk E 0) (lk E 1) (lk E 6) (lk E 7) H) k))) gN (fun _ _=>by kernel_rfl))];kernel_rfl
def scriptEncodeC6S (cal:CB)(O:Oracle)(N:Nat)(f0:FuncId)(gE0:IV->IV->IV->IV->Heap->OH):Nat->IV->IV->IV->IV->IV->Heap->OH
 | 0,_,_,_,_,_,_=>none
 | n+1,v0,v1,v6,v7,v8,H =>
  scriptEncodeC5S cal O N f0 (fun v0 v1 v6 v7 H=>gE0 v0 v1 v6 v7 H) (fun v0 v1 v6 v7 v8 H=>scriptEncodeC6S cal O N f0 gE0 n v0 v1 v6 v7 v8 H) v0 v1 v6 v7 v8 H
theorem scriptEncodeC6Eq (cal:CB)(O:Oracle)(N:Nat)(f0:FuncId){k:KT (IV×Heap)}(gE0:IV->IV->IV->IV->Heap->OH)(hgE0:∀E H,k (.exit 0) E H=gE0 (lk E 0) (lk E 1) (lk E 6) (lk E 7) H):∀(n:Nat) (E:Sg) (H:Heap),itK (lxK cal O N (scriptEncodeC5 f0)) n E H k=scriptEncodeC6S cal O N f0 gE0 n (lk E 0) (lk E 1) (lk E 6) (lk E 7) (lk E 8) H:=by
 have hk:k=(kE 0 (fun E H=>gE0 (lk E 0) (lk E 1) (lk E 6) (lk E 7) H) k):=(kE_mk hgE0 rfl);intro n
 induction n with
 | zero=>intro E H;rfl
 | succ n ih =>
  intro E H;rw[itK_succ,seqK_mk (g:=fun E H=>scriptEncodeC6S cal O N f0 gE0 n (lk E 0) (lk E 1) (lk E 6) (lk E 7) (lk E 8) H) ih,hk];exact(scriptEncodeC5Eq cal O N f0 (k:=(kN (fun E H=>scriptEncodeC6S cal O N f0 gE0 n (lk E 0) (lk E 1) (lk E 6) (lk E 7) (lk E 8) H) (kE 0 (fun E H=>gE0 (lk E 0) (lk E 1) (lk E 6) (lk E 7) H) k))) gE0 (fun v0 v1 v6 v7 v8 H=>scriptEncodeC6S cal O N f0 gE0 n v0 v1 v6 v7 v8 H) (fun _ _=>by kernel_rfl) (fun _ _=>by kernel_rfl) E H).trans (by kernel_rfl)
def scriptEncodeC7S (cal:CB)(O:Oracle)(N:Nat)(f0:FuncId)(gN:IV->IV->IV->IV->Heap->OH)(v0 v1 v6 v7 v8:IV)(H:Heap):OH :=
  scriptEncodeC6S cal O N f0 (fun v0 v1 v6 v7 H=>gN v0 v1 v6 v7 H) N v0 v1 v6 v7 v8 H
theorem scriptEncodeC7Eq (cal:CB)(O:Oracle)(N:Nat)(f0:FuncId){k:KT (IV×Heap)}(gN:IV->IV->IV->IV->Heap->OH)(hgN:∀E H,k .normal E H=gN (lk E 0) (lk E 1) (lk E 6) (lk E 7) H):∀(E:Sg) (H:Heap),lxK cal O N (scriptEncodeC7 f0) E H k=scriptEncodeC7S cal O N f0 gN (lk E 0) (lk E 1) (lk E 6) (lk E 7) (lk E 8) H:=by
 have hk:k=(kN (fun E H=>gN (lk E 0) (lk E 1) (lk E 6) (lk E 7) H) k):=(kN_mk hgN rfl);intro E H;rw[hk];show lxK cal O N (scriptEncodeC6 f0) E H (blockK 0 (kN (fun E H=>gN (lk E 0) (lk E 1) (lk E 6) (lk E 7) H) k))=_;exact(scriptEncodeC6Eq cal O N f0 (k:=(blockK 0 (kN (fun E H=>gN (lk E 0) (lk E 1) (lk E 6) (lk E 7) H) k))) gN (fun _ _=>by kernel_rfl) N E H).trans (by kernel_rfl)
def scriptEncodeC8S (cal:CB)(O:Oracle)(N:Nat)(f0:FuncId)(gN:IV->IV->IV->IV->Heap->OH)(v0 v1 v6 v7:IV)(H:Heap):OH :=
  scriptEncodeC7S cal O N f0 (fun v0 v1 v6 v7 H=>gN v0 v1 v6 v7 H) v0 v1 v6 v7 (.int .i64 0) H
theorem scriptEncodeC8Eq (cal:CB)(O:Oracle)(N:Nat)(f0:FuncId){k:KT (IV×Heap)}(gN:IV->IV->IV->IV->Heap->OH)(hgN:∀E H,k .normal E H=gN (lk E 0) (lk E 1) (lk E 6) (lk E 7) H):∀(E:Sg) (H:Heap),lxK cal O N (scriptEncodeC8 f0) E H k=scriptEncodeC8S cal O N f0 gN (lk E 0) (lk E 1) (lk E 6) (lk E 7) H:=by
 have hk:k=(kN (fun E H=>gN (lk E 0) (lk E 1) (lk E 6) (lk E 7) H) k):=(kN_mk hgN rfl);intro E H;rw[hk];show lxK cal O N (.reg [ qO 8 (.mv (k6 0))]) E H (seqK (lxK cal O N (scriptEncodeC7 f0)) (kN (fun E H=>gN (lk E 0) (lk E 1) (lk E 6) (lk E 7) H) k))=_;rw[seqK_mk (g:=fun E H=>scriptEncodeC7S cal O N f0 gN (lk E 0) (lk E 1) (lk E 6) (lk E 7) (lk E 8) H) (scriptEncodeC7Eq cal O N f0 (k:=(kN (fun E H=>gN (lk E 0) (lk E 1) (lk E 6) (lk E 7) H) k)) gN (fun _ _=>by kernel_rfl))];kernel_rfl
def scriptEncodeC13S (cal:CB)(O:Oracle)(N:Nat)(f0:FuncId)(v0 v1 v6 v7:IV)(H:Heap):OH :=
  scriptEncodeC8S cal O N f0 (fun v0 v1 v6 v7 H=>scriptEncodeC12S cal O N f0 v0 v1 v6 v7 H) v0 v1 v6 v7 H
theorem scriptEncodeC13Eq (cal:CB)(O:Oracle)(N:Nat)(f0:FuncId){k:KT (IV×Heap)}(hR:∀E H,k .ret E H=resK [(.tmp 4),(.tmp 5)] [] E H):∀(E:Sg) (H:Heap),lxK cal O N (scriptEncodeC13 f0) E H k=scriptEncodeC13S cal O N f0 (lk E 0) (lk E 1) (lk E 6) (lk E 7) H:=by
 have hk:k=(kR (resK [(.tmp 4),(.tmp 5)] []) k):=(kR_mk hR rfl);intro E H;rw[hk];show lxK cal O N (scriptEncodeC8 f0) E H (seqK (lxK cal O N (scriptEncodeC12 f0)) (kR (resK [(.tmp 4),(.tmp 5)] []) k))=_;rw[seqK_mk (g:=fun E H=>scriptEncodeC12S cal O N f0 (lk E 0) (lk E 1) (lk E 6) (lk E 7) H) (scriptEncodeC12Eq cal O N f0 (k:=(kR (resK [(.tmp 4),(.tmp 5)] []) k)) (fun _ _=>by kernel_rfl))];exact(scriptEncodeC8Eq cal O N f0 (k:=(kN (fun E H=>scriptEncodeC12S cal O N f0 (lk E 0) (lk E 1) (lk E 6) (lk E 7) H) (kR (resK [(.tmp 4),(.tmp 5)] []) k))) (fun v0 v1 v6 v7 H=>scriptEncodeC12S cal O N f0 v0 v1 v6 v7 H) (fun _ _=>by kernel_rfl) E H).trans (by kernel_rfl)
def scriptEncodeC14S (cal:CB)(O:Oracle)(N:Nat)(f0:FuncId)(v0 v1 v6:IV)(H:Heap):OH :=
  scriptEncodeC13S cal O N f0 v0 v1 v6 .nilSlice H
theorem scriptEncodeC14Eq (cal:CB)(O:Oracle)(N:Nat)(f0:FuncId){k:KT (IV×Heap)}(hR:∀E H,k .ret E H=resK [(.tmp 4),(.tmp 5)] [] E H):∀(E:Sg) (H:Heap),lxK cal O N (scriptEncodeC14 f0) E H k=scriptEncodeC14S cal O N f0 (lk E 0) (lk E 1) (lk E 6) H:=by
 have hk:k=(kR (resK [(.tmp 4),(.tmp 5)] []) k):=(kR_mk hR rfl);intro E H;rw[hk];show lxK cal O N (.reg [ qO 7 (.mv (.k .nilSlice))]) E H (seqK (lxK cal O N (scriptEncodeC13 f0)) (kR (resK [(.tmp 4),(.tmp 5)] []) k))=_;rw[seqK_mk (g:=fun E H=>scriptEncodeC13S cal O N f0 (lk E 0) (lk E 1) (lk E 6) (lk E 7) H) (scriptEncodeC13Eq cal O N f0 (k:=(kR (resK [(.tmp 4),(.tmp 5)] []) k)) (fun _ _=>by kernel_rfl))];kernel_rfl
def scriptEncodeC15S (cal:CB)(O:Oracle)(N:Nat)(f0:FuncId)(v0 v1 v6:IV)(H:Heap):OH :=
 ob (lbin .lss v6 (.int .i64 1)) fun t1 =>ob (gq (isB t1 false) (some v6)) fun t2 =>ob (gq (isB t1 false) (lbin .gtr t2 (.int .i64 64))) fun t3 =>ob (lpick t1 (.bool true) t3) fun t4 =>ob (gq (isB t4 false) (some v1)) fun t5 =>ob (gq (isB t4 false) (llen H .slice t5)) fun t6 =>ob (gq (isB t4 false) (lbin .gtr t6 (.int .i64 255))) fun t7 =>ob (lpick t4 (.bool true) t7) fun t8 =>cnd t8
 (some ((.tuple [.nilSlice,(.int .i64 22)]),H))
  (scriptEncodeC14S cal O N f0 v0 v1 v6 H)
theorem scriptEncodeC15Eq (cal:CB)(O:Oracle)(N:Nat)(f0:FuncId){k:KT (IV×Heap)}(hR:∀E H,k .ret E H=resK [(.tmp 4),(.tmp 5)] [] E H):∀(E:Sg) (H:Heap),lxK cal O N (scriptEncodeC15 f0) E H k=scriptEncodeC15S cal O N f0 (lk E 0) (lk E 1) (lk E 6) H:=by
 have hk:k=(kR (resK [(.tmp 4),(.tmp 5)] []) k):=(kR_mk hR rfl);intro E H;rw[hk];show lxK cal O N X10K11 E H (seqK (lxK cal O N (scriptEncodeC14 f0)) (kR (resK [(.tmp 4),(.tmp 5)] []) k))=_;rw[seqK_mk (g:=fun E H=>scriptEncodeC14S cal O N f0 (lk E 0) (lk E 1) (lk E 6) H) (scriptEncodeC14Eq cal O N f0 (k:=(kR (resK [(.tmp 4),(.tmp 5)] []) k)) (fun _ _=>by kernel_rfl))];kernel_rfl
def scriptEncodeC16S (cal:CB)(O:Oracle)(N:Nat)(f0:FuncId)(v0 v1:IV)(H:Heap):OH :=
 ob (llen H .slice v0) fun t1 =>
  scriptEncodeC15S cal O N f0 v0 v1 t1 H
theorem scriptEncodeC16Eq (cal:CB)(O:Oracle)(N:Nat)(f0:FuncId){k:KT (IV×Heap)}(hR:∀E H,k .ret E H=resK [(.tmp 4),(.tmp 5)] [] E H):∀(E:Sg) (H:Heap),lxK cal O N (scriptEncodeC16 f0) E H k=scriptEncodeC16S cal O N f0 (lk E 0) (lk E 1) H:=by
 have hk:k=(kR (resK [(.tmp 4),(.tmp 5)] []) k):=(kR_mk hR rfl);intro E H;rw[hk];show lxK cal O N X10K40 E H (seqK (lxK cal O N (scriptEncodeC15 f0)) (kR (resK [(.tmp 4),(.tmp 5)] []) k))=_;rw[seqK_mk (g:=fun E H=>scriptEncodeC15S cal O N f0 (lk E 0) (lk E 1) (lk E 6) H) (scriptEncodeC15Eq cal O N f0 (k:=(kR (resK [(.tmp 4),(.tmp 5)] []) k)) (fun _ _=>by kernel_rfl))];kernel_rfl
def scriptEncodeC17S (cal:CB)(O:Oracle)(N:Nat)(f0:FuncId)(v0 v1:IV)(H:Heap):OH :=
  scriptEncodeC16S cal O N f0 v0 v1 H
theorem scriptEncodeC17Eq (cal:CB)(O:Oracle)(N:Nat)(f0:FuncId){k:KT (IV×Heap)}(hR:∀E H,k .ret E H=resK [(.tmp 4),(.tmp 5)] [] E H):∀(E:Sg) (H:Heap),lxK cal O N (scriptEncodeC17 f0) E H k=scriptEncodeC17S cal O N f0 (lk E 0) (lk E 1) H:=by
 have hk:k=(kR (resK [(.tmp 4),(.tmp 5)] []) k):=(kR_mk hR rfl);intro E H;rw[hk];show lxK cal O N X10K42 E H (seqK (lxK cal O N (scriptEncodeC16 f0)) (kR (resK [(.tmp 4),(.tmp 5)] []) k))=_;rw[seqK_mk (g:=fun E H=>scriptEncodeC16S cal O N f0 (lk E 0) (lk E 1) H) (scriptEncodeC16Eq cal O N f0 (k:=(kR (resK [(.tmp 4),(.tmp 5)] []) k)) (fun _ _=>by kernel_rfl))];kernel_rfl
def scriptEncode (f0:FuncId):LFun:=⟨(scriptEncodeC17 f0),[(.tmp 4),(.tmp 5)],102⟩
def scriptEncodeS (cal:CB)(O:Oracle)(N:Nat)(f0:FuncId)(v0 v1:IV)(H:Heap):OH :=
  scriptEncodeC17S cal O N f0 v0 v1 H
theorem scriptEncodeEq (cal:CB)(O:Oracle)(N:Nat)(f0:FuncId)(v0 v1:IV)(H:Heap):lrunK cal O N (scriptEncode f0) [v0,v1] H=scriptEncodeS cal O N f0 v0 v1 H:=by
 show lxK cal O N (scriptEncodeC17 f0) (initFrom 0 [v0,v1]) H (endK [(.tmp 4),(.tmp 5)])=_;exact scriptEncodeC17Eq cal O N f0 (k:=(endK [(.tmp 4),(.tmp 5)])) (fun _ _=>by kernel_rfl) (initFrom 0 [v0,v1]) H
def vr20At :LFun:=⟨(.seq (.reg [ qO 4 (.mv (k6 0))]) (.seq (.seq (.reg [ qM 5 1,qM 6 0,qO 7 (.len .slice (.t 6)),qO 8 (.bin .lss (.t 5) (.t 7))]) (.cond (.t 8) (.seq (.reg [ qM 9 0,qM 10 1,qO 11 (.ix 1 (.t 9) (.t 10)),qO 12 (.ld1 (.t 11)),qO 13 (.cvt .i64 (.t 12)),qM 4 13]) .ret) .skip)) (.seq (.reg [ qO 4 (.mv (k6 0))]) .ret))),[(.tmp 4)],14⟩
def vr20AtS (cal:CB)(O:Oracle)(N:Nat)(v0 v1:IV)(H:Heap):OH :=
 ob (llen H .slice v0) fun t1 =>ob (lbin .lss v1 t1) fun t2 =>cnd t2
 (ob (lix 1 v0 v1) fun t3 =>ob (lload1 H t3) fun t4 =>ob (lcvt .i64 t4) fun t5 =>some (t5,H))
 (some ((.int .i64 0),H))
theorem vr20AtEq (cal:CB)(O:Oracle)(N:Nat)(v0 v1:IV)(H:Heap):lrunK cal O N (vr20At) [v0,v1] H=vr20AtS cal O N v0 v1 H:=by
 kernel_rfl
def X10K10 (f0:FuncId):LC:=.seq (.seq (.reg [ qM 22 7,qM 23 5,qO 24 (.bin .lss (.t 22) (.t 23))]) (.cond (.t 24) .skip (.exit 0))) (.seq (.block 1 (.reg [ qM 27 6,qM 28 0,qM 29 7,qO 30 (.bin .add (k6 2) (.t 29)),qO 31 (.callF f0 [(.t 28),(.t 30)]),qO 32 (.cvt .u8 (.t 31)),qO 33 (.bldS 1 1 [(.int .u8 0)] [(0,(.t 32))]),qO 34 (.app 1 1 (.t 27) (.t 33)),qM 6 34])) (.reg [ qM 25 7,qO 26 (.bin .add (.t 25) (k6 1)),qM 7 26]))
def vr20DecodeC0 (f0 f1:FuncId):LC:=.loop (X10K10 f0)
def vr20DecodeC1 (f0 f1:FuncId):LC:=.block 0 (vr20DecodeC0 f0 f1)
def vr20DecodeC2 (f0 f1:FuncId):LC:=.seq (.reg [ qO 7 (.mv (k6 0))]) (vr20DecodeC1 f0 f1)
def X10K12 :LC:=.seq (.seq (.reg [ qM 38 9,qM 39 0,qO 40 (.len .slice (.t 39)),qO 41 (.bin .lss (.t 38) (.t 40))]) (.cond (.t 41) .skip (.exit 2))) (.seq (.block 3 (.reg [ qM 44 8,qM 45 0,qM 46 9,qO 47 (.ix 1 (.t 45) (.t 46)),qO 48 (.ld1 (.t 47)),qO 49 (.bldS 1 1 [(.int .u8 0)] [(0,(.t 48))]),qO 50 (.app 1 1 (.t 44) (.t 49)),qM 8 50])) (.reg [ qM 42 9,qO 43 (.bin .add (.t 42) (k6 1)),qM 9 43]))
def vr20DecodeC3 (f0 f1:FuncId):LC:=.loop X10K12
def vr20DecodeC4 (f0 f1:FuncId):LC:=.block 2 (vr20DecodeC3 f0 f1)
def X10K33 :LC:=.reg [ qM 36 5,qO 37 (.bin .add (k6 2) (.t 36)),qM 9 37]
def vr20DecodeC5 (f0 f1:FuncId):LC:=.seq X10K33 (vr20DecodeC4 f0 f1)
def X10K9 :LC:=.seq (.seq (.reg [ qM 61 14,qM 62 10,qO 63 (.len .slice (.t 62)),qO 64 (.bin .lss (.t 61) (.t 63))]) (.cond (.t 64) .skip (.exit 6))) (.seq (.block 7 (.reg [ qM 68 13,qM 69 10,qM 70 14,qO 71 (.ix 7 (.t 69) (.t 70)),qO 72 (.ldn 7 (.t 71)),qO 73 (.bldS 7 1 [(.int .i64 0),(.int .i64 0),(.int .i64 0),(.int .i64 0),(.int .i64 0),(.str []),(.str [])] [(0,(.t 72))]),qO 74 (.app 7 72 (.t 68) (.t 73)),qM 13 74])) (.reg [ qM 65 14,qM 66 4,qO 67 (.bin .add (.t 65) (.t 66)),qM 14 67]))
def vr20DecodeC6 (f0 f1:FuncId):LC:=.loop X10K9
def vr20DecodeC7 (f0 f1:FuncId):LC:=.block 6 (vr20DecodeC6 f0 f1)
def vr20DecodeC8 (f0 f1:FuncId):LC:=.seq (.reg [ qM 60 12,qM 14 60]) (vr20DecodeC7 f0 f1)
def X10K21 :LC:=.reg [ qM 75 11,qM 76 13,qO 77 (.bldS 1 1 [.nilSlice] [(0,(.t 76))]),qO 78 (.app 1 24 (.t 75) (.t 77)),qM 11 78]
def vr20DecodeC9 (f0 f1:FuncId):LC:=.seq (vr20DecodeC8 f0 f1) X10K21
def X10K23 :LC:=.reg [ qO 59 (.bldS 7 0 [(.int .i64 0),(.int .i64 0),(.int .i64 0),(.int .i64 0),(.int .i64 0),(.str []),(.str [])] []),qM 13 59]
def vr20DecodeC10 (f0 f1:FuncId):LC:=.seq X10K23 (vr20DecodeC9 f0 f1)
def vr20DecodeC11 (f0 f1:FuncId):LC:=.block 5 (vr20DecodeC10 f0 f1)
def X10K31 :LC:=.reg [ qM 57 12,qO 58 (.bin .add (.t 57) (k6 1)),qM 12 58]
def vr20DecodeC12 (f0 f1:FuncId):LC:=.seq (vr20DecodeC11 f0 f1) X10K31
def X10K25 :LC:=.seq (.reg [ qM 54 12,qM 55 4,qO 56 (.bin .lss (.t 54) (.t 55))]) (.cond (.t 56) .skip (.exit 4))
def vr20DecodeC13 (f0 f1:FuncId):LC:=.seq X10K25 (vr20DecodeC12 f0 f1)
def vr20DecodeC14 (f0 f1:FuncId):LC:=.loop (vr20DecodeC13 f0 f1)
def vr20DecodeC15 (f0 f1:FuncId):LC:=.block 4 (vr20DecodeC14 f0 f1)
def vr20DecodeC16 (f0 f1:FuncId):LC:=.seq (.reg [ qO 12 (.mv (k6 0))]) (vr20DecodeC15 f0 f1)
def X10K26 :LC:=.seq (.reg [ qM 79 11,qM 80 6,qM 2 79,qM 3 80]) .ret
def vr20DecodeC17 (f0 f1:FuncId):LC:=.seq (vr20DecodeC16 f0 f1) X10K26
def vr20DecodeC18 (f0 f1:FuncId):LC:=.seq (.reg [ qO 53 (.bldS 1 0 [.nilSlice] []),qM 11 53]) (vr20DecodeC17 f0 f1)
def X10K34 (f0:FuncId):LC:=.reg [ qM 51 8,qO 52 (.callF f0 [(.t 51)]),qM 10 52]
def vr20DecodeC19 (f0 f1:FuncId):LC:=.seq (X10K34 f1) (vr20DecodeC18 f0 f1)
def vr20DecodeC20 (f0 f1:FuncId):LC:=.seq (vr20DecodeC5 f0 f1) (vr20DecodeC19 f0 f1)
def X10K43 :LC:=.reg [ qO 35 (.bldS 1 0 [(.int .u8 0)] []),qM 8 35]
def vr20DecodeC21 (f0 f1:FuncId):LC:=.seq X10K43 (vr20DecodeC20 f0 f1)
def vr20DecodeC22 (f0 f1:FuncId):LC:=.seq (vr20DecodeC2 f0 f1) (vr20DecodeC21 f0 f1)
def X10K44 :LC:=.reg [ qO 21 (.bldS 1 0 [(.int .u8 0)] []),qM 6 21]
def vr20DecodeC23 (f0 f1:FuncId):LC:=.seq X10K44 (vr20DecodeC22 f0 f1)
def X10K30 (f0:FuncId):LC:=.reg [ qM 19 0,qO 20 (.callF f0 [(.t 19),(k6 1)]),qM 5 20]
def vr20DecodeC24 (f0 f1:FuncId):LC:=.seq (X10K30 f0) (vr20DecodeC23 f0 f1)
def X10K19 (f0:FuncId):LC:=.reg [ qM 15 0,qO 16 (.callF f0 [(.t 15),(k6 0)]),qO 17 (.bin .rem (.t 16) (k6 64)),qO 18 (.bin .add (k6 1) (.t 17)),qM 4 18]
def vr20DecodeC25 (f0 f1:FuncId):LC:=.seq (X10K19 f0) (vr20DecodeC24 f0 f1)
def vr20DecodeC26 (f0 f1:FuncId):LC:=.seq (.reg [ qO 2 (.mv (.k .nilSlice)),qO 3 (.mv (.k .nilSlice))]) (vr20DecodeC25 f0 f1)
def vr20DecodeC6S (cal:CB)(O:Oracle)(N:Nat)(f0 f1:FuncId)(gE6:IV->IV->IV->IV->IV->IV->Heap->OH):Nat->IV->IV->IV->IV->IV->IV->IV->Heap->OH
 | 0,_,_,_,_,_,_,_,_=>none
 | n+1,v4,v6,v10,v11,v12,v13,v14,H =>ob (llen H .slice v10) fun t1 =>ob (lbin .lss v14 t1) fun t2 =>cnd t2
  (ob (lix 7 v10 v14) fun t3 =>ob (lloadn H 7 t3) fun t4 =>ob (lbldS H 7 1 [(.int .i64 0),(.int .i64 0),(.int .i64 0),(.int .i64 0),(.int .i64 0),(.str []),(.str [])] [(0,t4)]) fun r5 =>ob (lapp r5.2 7 72 v13 r5.1) fun r6 =>ob (lbin .add v14 v4) fun t7 =>
   vr20DecodeC6S cal O N f0 f1 gE6 n v4 v6 v10 v11 v12 r6.1 t7 r6.2)
  (gE6 v4 v6 v10 v11 v12 v13 H)
theorem vr20DecodeC6Eq (cal:CB)(O:Oracle)(N:Nat)(f0 f1:FuncId){k:KT (IV×Heap)}(gE6:IV->IV->IV->IV->IV->IV->Heap->OH)(hgE6:∀E H,k (.exit 6) E H=gE6 (lk E 4) (lk E 6) (lk E 10) (lk E 11) (lk E 12) (lk E 13) H):∀(n:Nat) (E:Sg) (H:Heap),itK (lxK cal O N X10K9) n E H k=vr20DecodeC6S cal O N f0 f1 gE6 n (lk E 4) (lk E 6) (lk E 10) (lk E 11) (lk E 12) (lk E 13) (lk E 14) H:=by
 have hk:k=(kE 6 (fun E H=>gE6 (lk E 4) (lk E 6) (lk E 10) (lk E 11) (lk E 12) (lk E 13) H) k):=(kE_mk hgE6 rfl);intro n
 induction n with
 | zero=>intro E H;rfl
 | succ n ih =>
  intro E H;rw[itK_succ,seqK_mk (g:=fun E H=>vr20DecodeC6S cal O N f0 f1 gE6 n (lk E 4) (lk E 6) (lk E 10) (lk E 11) (lk E 12) (lk E 13) (lk E 14) H) ih,hk];kernel_rfl
def vr20DecodeC7S (cal:CB)(O:Oracle)(N:Nat)(f0 f1:FuncId)(gN:IV->IV->IV->IV->IV->IV->Heap->OH)(v4 v6 v10 v11 v12 v13 v14:IV)(H:Heap):OH :=
  vr20DecodeC6S cal O N f0 f1 (fun v4 v6 v10 v11 v12 v13 H=>gN v4 v6 v10 v11 v12 v13 H) N v4 v6 v10 v11 v12 v13 v14 H
theorem vr20DecodeC7Eq (cal:CB)(O:Oracle)(N:Nat)(f0 f1:FuncId){k:KT (IV×Heap)}(gN:IV->IV->IV->IV->IV->IV->Heap->OH)(hgN:∀E H,k .normal E H=gN (lk E 4) (lk E 6) (lk E 10) (lk E 11) (lk E 12) (lk E 13) H):∀(E:Sg) (H:Heap),lxK cal O N (vr20DecodeC7 f0 f1) E H k=vr20DecodeC7S cal O N f0 f1 gN (lk E 4) (lk E 6) (lk E 10) (lk E 11) (lk E 12) (lk E 13) (lk E 14) H:=by
 have hk:k=(kN (fun E H=>gN (lk E 4) (lk E 6) (lk E 10) (lk E 11) (lk E 12) (lk E 13) H) k):=(kN_mk hgN rfl);intro E H;rw[hk];show lxK cal O N (vr20DecodeC6 f0 f1) E H (blockK 6 (kN (fun E H=>gN (lk E 4) (lk E 6) (lk E 10) (lk E 11) (lk E 12) (lk E 13) H) k))=_;exact(vr20DecodeC6Eq cal O N f0 f1 (k:=(blockK 6 (kN (fun E H=>gN (lk E 4) (lk E 6) (lk E 10) (lk E 11) (lk E 12) (lk E 13) H) k))) gN (fun _ _=>by kernel_rfl) N E H).trans (by kernel_rfl)
def vr20DecodeC8S (cal:CB)(O:Oracle)(N:Nat)(f0 f1:FuncId)(gN:IV->IV->IV->IV->IV->IV->Heap->OH)(v4 v6 v10 v11 v12 v13:IV)(H:Heap):OH :=
  vr20DecodeC7S cal O N f0 f1 (fun v4 v6 v10 v11 v12 v13 H=>gN v4 v6 v10 v11 v12 v13 H) v4 v6 v10 v11 v12 v13 v12 H
theorem vr20DecodeC8Eq (cal:CB)(O:Oracle)(N:Nat)(f0 f1:FuncId){k:KT (IV×Heap)}(gN:IV->IV->IV->IV->IV->IV->Heap->OH)(hgN:∀E H,k .normal E H=gN (lk E 4) (lk E 6) (lk E 10) (lk E 11) (lk E 12) (lk E 13) H):∀(E:Sg) (H:Heap),lxK cal O N (vr20DecodeC8 f0 f1) E H k=vr20DecodeC8S cal O N f0 f1 gN (lk E 4) (lk E 6) (lk E 10) (lk E 11) (lk E 12) (lk E 13) H:=by
 have hk:k=(kN (fun E H=>gN (lk E 4) (lk E 6) (lk E 10) (lk E 11) (lk E 12) (lk E 13) H) k):=(kN_mk hgN rfl);intro E H;rw[hk];show lxK cal O N (.reg [ qM 60 12,qM 14 60]) E H (seqK (lxK cal O N (vr20DecodeC7 f0 f1)) (kN (fun E H=>gN (lk E 4) (lk E 6) (lk E 10) (lk E 11) (lk E 12) (lk E 13) H) k))=_;rw[seqK_mk (g:=fun E H=>vr20DecodeC7S cal O N f0 f1 gN (lk E 4) (lk E 6) (lk E 10) (lk E 11) (lk E 12) (lk E 13) (lk E 14) H) (vr20DecodeC7Eq cal O N f0 f1 (k:=(kN (fun E H=>gN (lk E 4) (lk E 6) (lk E 10) (lk E 11) (lk E 12) (lk E 13) H) k)) gN (fun _ _=>by kernel_rfl))];kernel_rfl
def vr20DecodeC9S (cal:CB)(O:Oracle)(N:Nat)(f0 f1:FuncId)(gN:IV->IV->IV->IV->IV->Heap->OH)(v4 v6 v10 v11 v12 v13:IV)(H:Heap):OH :=
  vr20DecodeC8S cal O N f0 f1 (fun v4 v6 v10 v11 v12 v13 H=>ob (lbldS H 1 1 [.nilSlice] [(0,v13)]) fun r1 =>ob (lapp r1.2 1 24 v11 r1.1) fun r2 =>
 gN v4 v6 v10 r2.1 v12 r2.2) v4 v6 v10 v11 v12 v13 H
theorem vr20DecodeC9Eq (cal:CB)(O:Oracle)(N:Nat)(f0 f1:FuncId){k:KT (IV×Heap)}(gN:IV->IV->IV->IV->IV->Heap->OH)(hgN:∀E H,k .normal E H=gN (lk E 4) (lk E 6) (lk E 10) (lk E 11) (lk E 12) H):∀(E:Sg) (H:Heap),lxK cal O N (vr20DecodeC9 f0 f1) E H k=vr20DecodeC9S cal O N f0 f1 gN (lk E 4) (lk E 6) (lk E 10) (lk E 11) (lk E 12) (lk E 13) H:=by
 have hk:k=(kN (fun E H=>gN (lk E 4) (lk E 6) (lk E 10) (lk E 11) (lk E 12) H) k):=(kN_mk hgN rfl);intro E H;rw[hk];show lxK cal O N (vr20DecodeC8 f0 f1) E H (seqK (lxK cal O N X10K21) (kN (fun E H=>gN (lk E 4) (lk E 6) (lk E 10) (lk E 11) (lk E 12) H) k))=_;exact(vr20DecodeC8Eq cal O N f0 f1 (k:=(seqK (lxK cal O N X10K21) (kN (fun E H=>gN (lk E 4) (lk E 6) (lk E 10) (lk E 11) (lk E 12) H) k))) (fun v4 v6 v10 v11 v12 v13 H=>ob (lbldS H 1 1 [.nilSlice] [(0,v13)]) fun r1 =>ob (lapp r1.2 1 24 v11 r1.1) fun r2 =>
gN v4 v6 v10 r2.1 v12 r2.2) (fun _ _=>by kernel_rfl) E H).trans (by kernel_rfl)
def vr20DecodeC10S (cal:CB)(O:Oracle)(N:Nat)(f0 f1:FuncId)(gN:IV->IV->IV->IV->IV->Heap->OH)(v4 v6 v10 v11 v12:IV)(H:Heap):OH :=
 ob (lbldS H 7 0 [(.int .i64 0),(.int .i64 0),(.int .i64 0),(.int .i64 0),(.int .i64 0),(.str []),(.str [])] []) fun r1 =>
  vr20DecodeC9S cal O N f0 f1 (fun v4 v6 v10 v11 v12 H=>gN v4 v6 v10 v11 v12 H) v4 v6 v10 v11 v12 r1.1 r1.2
theorem vr20DecodeC10Eq (cal:CB)(O:Oracle)(N:Nat)(f0 f1:FuncId){k:KT (IV×Heap)}(gN:IV->IV->IV->IV->IV->Heap->OH)(hgN:∀E H,k .normal E H=gN (lk E 4) (lk E 6) (lk E 10) (lk E 11) (lk E 12) H):∀(E:Sg) (H:Heap),lxK cal O N (vr20DecodeC10 f0 f1) E H k=vr20DecodeC10S cal O N f0 f1 gN (lk E 4) (lk E 6) (lk E 10) (lk E 11) (lk E 12) H:=by
 have hk:k=(kN (fun E H=>gN (lk E 4) (lk E 6) (lk E 10) (lk E 11) (lk E 12) H) k):=(kN_mk hgN rfl);intro E H;rw[hk];show lxK cal O N X10K23 E H (seqK (lxK cal O N (vr20DecodeC9 f0 f1)) (kN (fun E H=>gN (lk E 4) (lk E 6) (lk E 10) (lk E 11) (lk E 12) H) k))=_;rw[seqK_mk (g:=fun E H=>vr20DecodeC9S cal O N f0 f1 gN (lk E 4) (lk E 6) (lk E 10) (lk E 11) (lk E 12) (lk E 13) H) (vr20DecodeC9Eq cal O N f0 f1 (k:=(kN (fun E H=>gN (lk E 4) (lk E 6) (lk E 10) (lk E 11) (lk E 12) H) k)) gN (fun _ _=>by kernel_rfl))];kernel_rfl
def vr20DecodeC11S (cal:CB)(O:Oracle)(N:Nat)(f0 f1:FuncId)(gN:IV->IV->IV->IV->IV->Heap->OH)(v4 v6 v10 v11 v12:IV)(H:Heap):OH :=
  vr20DecodeC10S cal O N f0 f1 (fun v4 v6 v10 v11 v12 H=>gN v4 v6 v10 v11 v12 H) v4 v6 v10 v11 v12 H
theorem vr20DecodeC11Eq (cal:CB)(O:Oracle)(N:Nat)(f0 f1:FuncId){k:KT (IV×Heap)}(gN:IV->IV->IV->IV->IV->Heap->OH)(hgN:∀E H,k .normal E H=gN (lk E 4) (lk E 6) (lk E 10) (lk E 11) (lk E 12) H):∀(E:Sg) (H:Heap),lxK cal O N (vr20DecodeC11 f0 f1) E H k=vr20DecodeC11S cal O N f0 f1 gN (lk E 4) (lk E 6) (lk E 10) (lk E 11) (lk E 12) H:=by
 have hk:k=(kN (fun E H=>gN (lk E 4) (lk E 6) (lk E 10) (lk E 11) (lk E 12) H) k):=(kN_mk hgN rfl);intro E H;rw[hk];show lxK cal O N (vr20DecodeC10 f0 f1) E H (blockK 5 (kN (fun E H=>gN (lk E 4) (lk E 6) (lk E 10) (lk E 11) (lk E 12) H) k))=_;exact(vr20DecodeC10Eq cal O N f0 f1 (k:=(blockK 5 (kN (fun E H=>gN (lk E 4) (lk E 6) (lk E 10) (lk E 11) (lk E 12) H) k))) gN (fun _ _=>by kernel_rfl) E H).trans (by kernel_rfl)
def vr20DecodeC12S (cal:CB)(O:Oracle)(N:Nat)(f0 f1:FuncId)(gN:IV->IV->IV->IV->IV->Heap->OH)(v4 v6 v10 v11 v12:IV)(H:Heap):OH :=
  vr20DecodeC11S cal O N f0 f1 (fun v4 v6 v10 v11 v12 H=>ob (lbin .add v12 (.int .i64 1)) fun t1 =>
 gN v4 v6 v10 v11 t1 H) v4 v6 v10 v11 v12 H
theorem vr20DecodeC12Eq (cal:CB)(O:Oracle)(N:Nat)(f0 f1:FuncId){k:KT (IV×Heap)}(gN:IV->IV->IV->IV->IV->Heap->OH)(hgN:∀E H,k .normal E H=gN (lk E 4) (lk E 6) (lk E 10) (lk E 11) (lk E 12) H):∀(E:Sg) (H:Heap),lxK cal O N (vr20DecodeC12 f0 f1) E H k=vr20DecodeC12S cal O N f0 f1 gN (lk E 4) (lk E 6) (lk E 10) (lk E 11) (lk E 12) H:=by
 have hk:k=(kN (fun E H=>gN (lk E 4) (lk E 6) (lk E 10) (lk E 11) (lk E 12) H) k):=(kN_mk hgN rfl);intro E H;rw[hk];show lxK cal O N (vr20DecodeC11 f0 f1) E H (seqK (lxK cal O N X10K31) (kN (fun E H=>gN (lk E 4) (lk E 6) (lk E 10) (lk E 11) (lk E 12) H) k))=_;exact(vr20DecodeC11Eq cal O N f0 f1 (k:=(seqK (lxK cal O N X10K31) (kN (fun E H=>gN (lk E 4) (lk E 6) (lk E 10) (lk E 11) (lk E 12) H) k))) (fun v4 v6 v10 v11 v12 H=>ob (lbin .add v12 (.int .i64 1)) fun t1 =>
gN v4 v6 v10 v11 t1 H) (fun _ _=>by kernel_rfl) E H).trans (by kernel_rfl)
def vr20DecodeC13S (cal:CB)(O:Oracle)(N:Nat)(f0 f1:FuncId)(gE4:IV->IV->Heap->OH)(gN:IV->IV->IV->IV->IV->Heap->OH)(v4 v6 v10 v11 v12:IV)(H:Heap):OH :=
 ob (lbin .lss v12 v4) fun t1 =>cnd t1
  (vr20DecodeC12S cal O N f0 f1 (fun v4 v6 v10 v11 v12 H=>gN v4 v6 v10 v11 v12 H) v4 v6 v10 v11 v12 H)
 (gE4 v6 v11 H)
theorem vr20DecodeC13Eq (cal:CB)(O:Oracle)(N:Nat)(f0 f1:FuncId){k:KT (IV×Heap)}(gE4:IV->IV->Heap->OH)(gN:IV->IV->IV->IV->IV->Heap->OH)(hgE4:∀E H,k (.exit 4) E H=gE4 (lk E 6) (lk E 11) H)(hgN:∀E H,k .normal E H=gN (lk E 4) (lk E 6) (lk E 10) (lk E 11) (lk E 12) H):∀(E:Sg) (H:Heap),lxK cal O N (vr20DecodeC13 f0 f1) E H k=vr20DecodeC13S cal O N f0 f1 gE4 gN (lk E 4) (lk E 6) (lk E 10) (lk E 11) (lk E 12) H:=by
 have hk:k=(kN (fun E H=>gN (lk E 4) (lk E 6) (lk E 10) (lk E 11) (lk E 12) H) (kE 4 (fun E H=>gE4 (lk E 6) (lk E 11) H) k)):=(kN_mk hgN (kE_mk hgE4 rfl));intro E H;rw[hk];show lxK cal O N X10K25 E H (seqK (lxK cal O N (vr20DecodeC12 f0 f1)) (kN (fun E H=>gN (lk E 4) (lk E 6) (lk E 10) (lk E 11) (lk E 12) H) (kE 4 (fun E H=>gE4 (lk E 6) (lk E 11) H) k)))=_;rw[seqK_mk (g:=fun E H=>vr20DecodeC12S cal O N f0 f1 gN (lk E 4) (lk E 6) (lk E 10) (lk E 11) (lk E 12) H) (vr20DecodeC12Eq cal O N f0 f1 (k:=(kN (fun E H=>gN (lk E 4) (lk E 6) (lk E 10) (lk E 11) (lk E 12) H) (kE 4 (fun E H=>gE4 (lk E 6) (lk E 11) H) k))) gN (fun _ _=>by kernel_rfl))];kernel_rfl
def vr20DecodeC14S (cal:CB)(O:Oracle)(N:Nat)(f0 f1:FuncId)(gE4:IV->IV->Heap->OH):Nat->IV->IV->IV->IV->IV->Heap->OH
 | 0,_,_,_,_,_,_=>none
 | n+1,v4,v6,v10,v11,v12,H =>
  vr20DecodeC13S cal O N f0 f1 (fun v6 v11 H=>gE4 v6 v11 H) (fun v4 v6 v10 v11 v12 H=>vr20DecodeC14S cal O N f0 f1 gE4 n v4 v6 v10 v11 v12 H) v4 v6 v10 v11 v12 H
theorem vr20DecodeC14Eq (cal:CB)(O:Oracle)(N:Nat)(f0 f1:FuncId){k:KT (IV×Heap)}(gE4:IV->IV->Heap->OH)(hgE4:∀E H,k (.exit 4) E H=gE4 (lk E 6) (lk E 11) H):∀(n:Nat) (E:Sg) (H:Heap),itK (lxK cal O N (vr20DecodeC13 f0 f1)) n E H k=vr20DecodeC14S cal O N f0 f1 gE4 n (lk E 4) (lk E 6) (lk E 10) (lk E 11) (lk E 12) H:=by
 have hk:k=(kE 4 (fun E H=>gE4 (lk E 6) (lk E 11) H) k):=(kE_mk hgE4 rfl);intro n
 induction n with
 | zero=>intro E H;rfl
 | succ n ih =>
  intro E H;rw[itK_succ,seqK_mk (g:=fun E H=>vr20DecodeC14S cal O N f0 f1 gE4 n (lk E 4) (lk E 6) (lk E 10) (lk E 11) (lk E 12) H) ih,hk];exact(vr20DecodeC13Eq cal O N f0 f1 (k:=(kN (fun E H=>vr20DecodeC14S cal O N f0 f1 gE4 n (lk E 4) (lk E 6) (lk E 10) (lk E 11) (lk E 12) H) (kE 4 (fun E H=>gE4 (lk E 6) (lk E 11) H) k))) gE4 (fun v4 v6 v10 v11 v12 H=>vr20DecodeC14S cal O N f0 f1 gE4 n v4 v6 v10 v11 v12 H) (fun _ _=>by kernel_rfl) (fun _ _=>by kernel_rfl) E H).trans (by kernel_rfl)
def vr20DecodeC15S (cal:CB)(O:Oracle)(N:Nat)(f0 f1:FuncId)(gN:IV->IV->Heap->OH)(v4 v6 v10 v11 v12:IV)(H:Heap):OH :=
  vr20DecodeC14S cal O N f0 f1 (fun v6 v11 H=>gN v6 v11 H) N v4 v6 v10 v11 v12 H
theorem vr20DecodeC15Eq (cal:CB)(O:Oracle)(N:Nat)(f0 f1:FuncId){k:KT (IV×Heap)}(gN:IV->IV->Heap->OH)(hgN:∀E H,k .normal E H=gN (lk E 6) (lk E 11) H):∀(E:Sg) (H:Heap),lxK cal O N (vr20DecodeC15 f0 f1) E H k=vr20DecodeC15S cal O N f0 f1 gN (lk E 4) (lk E 6) (lk E 10) (lk E 11) (lk E 12) H:=by
 have hk:k=(kN (fun E H=>gN (lk E 6) (lk E 11) H) k):=(kN_mk hgN rfl);intro E H;rw[hk];show lxK cal O N (vr20DecodeC14 f0 f1) E H (blockK 4 (kN (fun E H=>gN (lk E 6) (lk E 11) H) k))=_;exact(vr20DecodeC14Eq cal O N f0 f1 (k:=(blockK 4 (kN (fun E H=>gN (lk E 6) (lk E 11) H) k))) gN (fun _ _=>by kernel_rfl) N E H).trans (by kernel_rfl)
def vr20DecodeC16S (cal:CB)(O:Oracle)(N:Nat)(f0 f1:FuncId)(gN:IV->IV->Heap->OH)(v4 v6 v10 v11:IV)(H:Heap):OH :=
  vr20DecodeC15S cal O N f0 f1 (fun v6 v11 H=>gN v6 v11 H) v4 v6 v10 v11 (.int .i64 0) H
theorem vr20DecodeC16Eq (cal:CB)(O:Oracle)(N:Nat)(f0 f1:FuncId){k:KT (IV×Heap)}(gN:IV->IV->Heap->OH)(hgN:∀E H,k .normal E H=gN (lk E 6) (lk E 11) H):∀(E:Sg) (H:Heap),lxK cal O N (vr20DecodeC16 f0 f1) E H k=vr20DecodeC16S cal O N f0 f1 gN (lk E 4) (lk E 6) (lk E 10) (lk E 11) H:=by
 have hk:k=(kN (fun E H=>gN (lk E 6) (lk E 11) H) k):=(kN_mk hgN rfl);intro E H;rw[hk];show lxK cal O N (.reg [ qO 12 (.mv (k6 0))]) E H (seqK (lxK cal O N (vr20DecodeC15 f0 f1)) (kN (fun E H=>gN (lk E 6) (lk E 11) H) k))=_;rw[seqK_mk (g:=fun E H=>vr20DecodeC15S cal O N f0 f1 gN (lk E 4) (lk E 6) (lk E 10) (lk E 11) (lk E 12) H) (vr20DecodeC15Eq cal O N f0 f1 (k:=(kN (fun E H=>gN (lk E 6) (lk E 11) H) k)) gN (fun _ _=>by kernel_rfl))];kernel_rfl
def vr20DecodeC17S (cal:CB)(O:Oracle)(N:Nat)(f0 f1:FuncId)(v4 v6 v10 v11:IV)(H:Heap):OH :=
  vr20DecodeC16S cal O N f0 f1 (fun v6 v11 H=>some ((.tuple [v11,v6]),H)) v4 v6 v10 v11 H
theorem vr20DecodeC17Eq (cal:CB)(O:Oracle)(N:Nat)(f0 f1:FuncId){k:KT (IV×Heap)}(hR:∀E H,k .ret E H=resK [(.tmp 2),(.tmp 3)] [] E H):∀(E:Sg) (H:Heap),lxK cal O N (vr20DecodeC17 f0 f1) E H k=vr20DecodeC17S cal O N f0 f1 (lk E 4) (lk E 6) (lk E 10) (lk E 11) H:=by
 have hk:k=(kR (resK [(.tmp 2),(.tmp 3)] []) k):=(kR_mk hR rfl);intro E H;rw[hk];show lxK cal O N (vr20DecodeC16 f0 f1) E H (seqK (lxK cal O N X10K26) (kR (resK [(.tmp 2),(.tmp 3)] []) k))=_;exact(vr20DecodeC16Eq cal O N f0 f1 (k:=(seqK (lxK cal O N X10K26) (kR (resK [(.tmp 2),(.tmp 3)] []) k))) (fun v6 v11 H=>some ((.tuple [v11,v6]),H)) (fun _ _=>by kernel_rfl) E H).trans (by kernel_rfl)
def vr20DecodeC18S (cal:CB)(O:Oracle)(N:Nat)(f0 f1:FuncId)(v4 v6 v10:IV)(H:Heap):OH :=
 ob (lbldS H 1 0 [.nilSlice] []) fun r1 =>
  vr20DecodeC17S cal O N f0 f1 v4 v6 v10 r1.1 r1.2
theorem vr20DecodeC18Eq (cal:CB)(O:Oracle)(N:Nat)(f0 f1:FuncId){k:KT (IV×Heap)}(hR:∀E H,k .ret E H=resK [(.tmp 2),(.tmp 3)] [] E H):∀(E:Sg) (H:Heap),lxK cal O N (vr20DecodeC18 f0 f1) E H k=vr20DecodeC18S cal O N f0 f1 (lk E 4) (lk E 6) (lk E 10) H:=by
 have hk:k=(kR (resK [(.tmp 2),(.tmp 3)] []) k):=(kR_mk hR rfl);intro E H;rw[hk];show lxK cal O N (.reg [ qO 53 (.bldS 1 0 [.nilSlice] []),qM 11 53]) E H (seqK (lxK cal O N (vr20DecodeC17 f0 f1)) (kR (resK [(.tmp 2),(.tmp 3)] []) k))=_;rw[seqK_mk (g:=fun E H=>vr20DecodeC17S cal O N f0 f1 (lk E 4) (lk E 6) (lk E 10) (lk E 11) H) (vr20DecodeC17Eq cal O N f0 f1 (k:=(kR (resK [(.tmp 2),(.tmp 3)] []) k)) (fun _ _=>by kernel_rfl))];kernel_rfl
def vr20DecodeC19S (cal:CB)(O:Oracle)(N:Nat)(f0 f1:FuncId)(v4 v6 v8:IV)(H:Heap):OH :=
 ob (O f1 [v8] H) fun r1 =>
  vr20DecodeC18S cal O N f0 f1 v4 v6 r1.1 r1.2
theorem vr20DecodeC19Eq (cal:CB)(O:Oracle)(N:Nat)(f0 f1:FuncId){k:KT (IV×Heap)}(hR:∀E H,k .ret E H=resK [(.tmp 2),(.tmp 3)] [] E H):∀(E:Sg) (H:Heap),lxK cal O N (vr20DecodeC19 f0 f1) E H k=vr20DecodeC19S cal O N f0 f1 (lk E 4) (lk E 6) (lk E 8) H:=by
 have hk:k=(kR (resK [(.tmp 2),(.tmp 3)] []) k):=(kR_mk hR rfl);intro E H;rw[hk];show lxK cal O N (X10K34 f1) E H (seqK (lxK cal O N (vr20DecodeC18 f0 f1)) (kR (resK [(.tmp 2),(.tmp 3)] []) k))=_;rw[seqK_mk (g:=fun E H=>vr20DecodeC18S cal O N f0 f1 (lk E 4) (lk E 6) (lk E 10) H) (vr20DecodeC18Eq cal O N f0 f1 (k:=(kR (resK [(.tmp 2),(.tmp 3)] []) k)) (fun _ _=>by kernel_rfl))];kernel_rfl
def vr20DecodeC3S (cal:CB)(O:Oracle)(N:Nat)(f0 f1:FuncId)(gE2:IV->IV->IV->Heap->OH):Nat->IV->IV->IV->IV->IV->Heap->OH
 | 0,_,_,_,_,_,_=>none
 | n+1,v0,v4,v6,v8,v9,H =>ob (llen H .slice v0) fun t1 =>ob (lbin .lss v9 t1) fun t2 =>cnd t2
  (ob (lix 1 v0 v9) fun t3 =>ob (lload1 H t3) fun t4 =>ob (lbldS H 1 1 [(.int .u8 0)] [(0,t4)]) fun r5 =>ob (lapp r5.2 1 1 v8 r5.1) fun r6 =>ob (lbin .add v9 (.int .i64 1)) fun t7 =>
   vr20DecodeC3S cal O N f0 f1 gE2 n v0 v4 v6 r6.1 t7 r6.2)
  (gE2 v4 v6 v8 H)
theorem vr20DecodeC3Eq (cal:CB)(O:Oracle)(N:Nat)(f0 f1:FuncId){k:KT (IV×Heap)}(gE2:IV->IV->IV->Heap->OH)(hgE2:∀E H,k (.exit 2) E H=gE2 (lk E 4) (lk E 6) (lk E 8) H):∀(n:Nat) (E:Sg) (H:Heap),itK (lxK cal O N X10K12) n E H k=vr20DecodeC3S cal O N f0 f1 gE2 n (lk E 0) (lk E 4) (lk E 6) (lk E 8) (lk E 9) H:=by
 have hk:k=(kE 2 (fun E H=>gE2 (lk E 4) (lk E 6) (lk E 8) H) k):=(kE_mk hgE2 rfl);intro n
 induction n with
 | zero=>intro E H;rfl
 | succ n ih =>
  intro E H;rw[itK_succ,seqK_mk (g:=fun E H=>vr20DecodeC3S cal O N f0 f1 gE2 n (lk E 0) (lk E 4) (lk E 6) (lk E 8) (lk E 9) H) ih,hk];kernel_rfl
def vr20DecodeC4S (cal:CB)(O:Oracle)(N:Nat)(f0 f1:FuncId)(gN:IV->IV->IV->Heap->OH)(v0 v4 v6 v8 v9:IV)(H:Heap):OH :=
  vr20DecodeC3S cal O N f0 f1 (fun v4 v6 v8 H=>gN v4 v6 v8 H) N v0 v4 v6 v8 v9 H
theorem vr20DecodeC4Eq (cal:CB)(O:Oracle)(N:Nat)(f0 f1:FuncId){k:KT (IV×Heap)}(gN:IV->IV->IV->Heap->OH)(hgN:∀E H,k .normal E H=gN (lk E 4) (lk E 6) (lk E 8) H):∀(E:Sg) (H:Heap),lxK cal O N (vr20DecodeC4 f0 f1) E H k=vr20DecodeC4S cal O N f0 f1 gN (lk E 0) (lk E 4) (lk E 6) (lk E 8) (lk E 9) H:=by
 have hk:k=(kN (fun E H=>gN (lk E 4) (lk E 6) (lk E 8) H) k):=(kN_mk hgN rfl);intro E H;rw[hk];show lxK cal O N (vr20DecodeC3 f0 f1) E H (blockK 2 (kN (fun E H=>gN (lk E 4) (lk E 6) (lk E 8) H) k))=_;exact(vr20DecodeC3Eq cal O N f0 f1 (k:=(blockK 2 (kN (fun E H=>gN (lk E 4) (lk E 6) (lk E 8) H) k))) gN (fun _ _=>by kernel_rfl) N E H).trans (by kernel_rfl)
def vr20DecodeC5S (cal:CB)(O:Oracle)(N:Nat)(f0 f1:FuncId)(gN:IV->IV->IV->Heap->OH)(v0 v4 v5 v6 v8:IV)(H:Heap):OH :=
 ob (lbin .add (.int .i64 2) v5) fun t1 =>
  vr20DecodeC4S cal O N f0 f1 (fun v4 v6 v8 H=>gN v4 v6 v8 H) v0 v4 v6 v8 t1 H
theorem vr20DecodeC5Eq (cal:CB)(O:Oracle)(N:Nat)(f0 f1:FuncId){k:KT (IV×Heap)}(gN:IV->IV->IV->Heap->OH)(hgN:∀E H,k .normal E H=gN (lk E 4) (lk E 6) (lk E 8) H):∀(E:Sg) (H:Heap),lxK cal O N (vr20DecodeC5 f0 f1) E H k=vr20DecodeC5S cal O N f0 f1 gN (lk E 0) (lk E 4) (lk E 5) (lk E 6) (lk E 8) H:=by
 have hk:k=(kN (fun E H=>gN (lk E 4) (lk E 6) (lk E 8) H) k):=(kN_mk hgN rfl);intro E H;rw[hk];show lxK cal O N X10K33 E H (seqK (lxK cal O N (vr20DecodeC4 f0 f1)) (kN (fun E H=>gN (lk E 4) (lk E 6) (lk E 8) H) k))=_;rw[seqK_mk (g:=fun E H=>vr20DecodeC4S cal O N f0 f1 gN (lk E 0) (lk E 4) (lk E 6) (lk E 8) (lk E 9) H) (vr20DecodeC4Eq cal O N f0 f1 (k:=(kN (fun E H=>gN (lk E 4) (lk E 6) (lk E 8) H) k)) gN (fun _ _=>by kernel_rfl))];kernel_rfl
def vr20DecodeC20S (cal:CB)(O:Oracle)(N:Nat)(f0 f1:FuncId)(v0 v4 v5 v6 v8:IV)(H:Heap):OH :=
  vr20DecodeC5S cal O N f0 f1 (fun v4 v6 v8 H=>vr20DecodeC19S cal O N f0 f1 v4 v6 v8 H) v0 v4 v5 v6 v8 H
theorem vr20DecodeC20Eq (cal:CB)(O:Oracle)(N:Nat)(f0 f1:FuncId){k:KT (IV×Heap)}(hR:∀E H,k .ret E H=resK [(.tmp 2),(.tmp 3)] [] E H):∀(E:Sg) (H:Heap),lxK cal O N (vr20DecodeC20 f0 f1) E H k=vr20DecodeC20S cal O N f0 f1 (lk E 0) (lk E 4) (lk E 5) (lk E 6) (lk E 8) H:=by
 have hk:k=(kR (resK [(.tmp 2),(.tmp 3)] []) k):=(kR_mk hR rfl);intro E H;rw[hk];show lxK cal O N (vr20DecodeC5 f0 f1) E H (seqK (lxK cal O N (vr20DecodeC19 f0 f1)) (kR (resK [(.tmp 2),(.tmp 3)] []) k))=_;rw[seqK_mk (g:=fun E H=>vr20DecodeC19S cal O N f0 f1 (lk E 4) (lk E 6) (lk E 8) H) (vr20DecodeC19Eq cal O N f0 f1 (k:=(kR (resK [(.tmp 2),(.tmp 3)] []) k)) (fun _ _=>by kernel_rfl))];exact(vr20DecodeC5Eq cal O N f0 f1 (k:=(kN (fun E H=>vr20DecodeC19S cal O N f0 f1 (lk E 4) (lk E 6) (lk E 8) H) (kR (resK [(.tmp 2),(.tmp 3)] []) k))) (fun v4 v6 v8 H=>vr20DecodeC19S cal O N f0 f1 v4 v6 v8 H) (fun _ _=>by kernel_rfl) E H).trans (by kernel_rfl)
def vr20DecodeC21S (cal:CB)(O:Oracle)(N:Nat)(f0 f1:FuncId)(v0 v4 v5 v6:IV)(H:Heap):OH :=
 ob (lbldS H 1 0 [(.int .u8 0)] []) fun r1 =>
  vr20DecodeC20S cal O N f0 f1 v0 v4 v5 v6 r1.1 r1.2
theorem vr20DecodeC21Eq (cal:CB)(O:Oracle)(N:Nat)(f0 f1:FuncId){k:KT (IV×Heap)}(hR:∀E H,k .ret E H=resK [(.tmp 2),(.tmp 3)] [] E H):∀(E:Sg) (H:Heap),lxK cal O N (vr20DecodeC21 f0 f1) E H k=vr20DecodeC21S cal O N f0 f1 (lk E 0) (lk E 4) (lk E 5) (lk E 6) H:=by
 have hk:k=(kR (resK [(.tmp 2),(.tmp 3)] []) k):=(kR_mk hR rfl);intro E H;rw[hk];show lxK cal O N X10K43 E H (seqK (lxK cal O N (vr20DecodeC20 f0 f1)) (kR (resK [(.tmp 2),(.tmp 3)] []) k))=_;rw[seqK_mk (g:=fun E H=>vr20DecodeC20S cal O N f0 f1 (lk E 0) (lk E 4) (lk E 5) (lk E 6) (lk E 8) H) (vr20DecodeC20Eq cal O N f0 f1 (k:=(kR (resK [(.tmp 2),(.tmp 3)] []) k)) (fun _ _=>by kernel_rfl))];kernel_rfl
def vr20DecodeC0S (cal:CB)(O:Oracle)(N:Nat)(f0 f1:FuncId)(gE0:IV->IV->IV->IV->Heap->OH):Nat->IV->IV->IV->IV->IV->Heap->OH
 | 0,_,_,_,_,_,_=>none
 | n+1,v0,v4,v5,v6,v7,H =>ob (lbin .lss v7 v5) fun t1 =>cnd t1
  (ob (lbin .add (.int .i64 2) v7) fun t2 =>ob (O f0 [v0,t2] H) fun r3 =>ob (lcvt .u8 r3.1) fun t4 =>ob (lbldS r3.2 1 1 [(.int .u8 0)] [(0,t4)]) fun r5 =>ob (lapp r5.2 1 1 v6 r5.1) fun r6 =>ob (lbin .add v7 (.int .i64 1)) fun t7 =>
   vr20DecodeC0S cal O N f0 f1 gE0 n v0 v4 v5 r6.1 t7 r6.2)
  (gE0 v0 v4 v5 v6 H)
theorem vr20DecodeC0Eq (cal:CB)(O:Oracle)(N:Nat)(f0 f1:FuncId){k:KT (IV×Heap)}(gE0:IV->IV->IV->IV->Heap->OH)(hgE0:∀E H,k (.exit 0) E H=gE0 (lk E 0) (lk E 4) (lk E 5) (lk E 6) H):∀(n:Nat) (E:Sg) (H:Heap),itK (lxK cal O N (X10K10 f0)) n E H k=vr20DecodeC0S cal O N f0 f1 gE0 n (lk E 0) (lk E 4) (lk E 5) (lk E 6) (lk E 7) H:=by
 have hk:k=(kE 0 (fun E H=>gE0 (lk E 0) (lk E 4) (lk E 5) (lk E 6) H) k):=(kE_mk hgE0 rfl);intro n
 induction n with
 | zero=>intro E H;rfl
 | succ n ih =>
  intro E H;rw[itK_succ,seqK_mk (g:=fun E H=>vr20DecodeC0S cal O N f0 f1 gE0 n (lk E 0) (lk E 4) (lk E 5) (lk E 6) (lk E 7) H) ih,hk];kernel_rfl
def vr20DecodeC1S (cal:CB)(O:Oracle)(N:Nat)(f0 f1:FuncId)(gN:IV->IV->IV->IV->Heap->OH)(v0 v4 v5 v6 v7:IV)(H:Heap):OH :=
  vr20DecodeC0S cal O N f0 f1 (fun v0 v4 v5 v6 H=>gN v0 v4 v5 v6 H) N v0 v4 v5 v6 v7 H
theorem vr20DecodeC1Eq (cal:CB)(O:Oracle)(N:Nat)(f0 f1:FuncId){k:KT (IV×Heap)}(gN:IV->IV->IV->IV->Heap->OH)(hgN:∀E H,k .normal E H=gN (lk E 0) (lk E 4) (lk E 5) (lk E 6) H):∀(E:Sg) (H:Heap),lxK cal O N (vr20DecodeC1 f0 f1) E H k=vr20DecodeC1S cal O N f0 f1 gN (lk E 0) (lk E 4) (lk E 5) (lk E 6) (lk E 7) H:=by
 have hk:k=(kN (fun E H=>gN (lk E 0) (lk E 4) (lk E 5) (lk E 6) H) k):=(kN_mk hgN rfl);intro E H;rw[hk];show lxK cal O N (vr20DecodeC0 f0 f1) E H (blockK 0 (kN (fun E H=>gN (lk E 0) (lk E 4) (lk E 5) (lk E 6) H) k))=_;exact(vr20DecodeC0Eq cal O N f0 f1 (k:=(blockK 0 (kN (fun E H=>gN (lk E 0) (lk E 4) (lk E 5) (lk E 6) H) k))) gN (fun _ _=>by kernel_rfl) N E H).trans (by kernel_rfl)
def vr20DecodeC2S (cal:CB)(O:Oracle)(N:Nat)(f0 f1:FuncId)(gN:IV->IV->IV->IV->Heap->OH)(v0 v4 v5 v6:IV)(H:Heap):OH :=
  vr20DecodeC1S cal O N f0 f1 (fun v0 v4 v5 v6 H=>gN v0 v4 v5 v6 H) v0 v4 v5 v6 (.int .i64 0) H
theorem vr20DecodeC2Eq (cal:CB)(O:Oracle)(N:Nat)(f0 f1:FuncId){k:KT (IV×Heap)}(gN:IV->IV->IV->IV->Heap->OH)(hgN:∀E H,k .normal E H=gN (lk E 0) (lk E 4) (lk E 5) (lk E 6) H):∀(E:Sg) (H:Heap),lxK cal O N (vr20DecodeC2 f0 f1) E H k=vr20DecodeC2S cal O N f0 f1 gN (lk E 0) (lk E 4) (lk E 5) (lk E 6) H:=by
 have hk:k=(kN (fun E H=>gN (lk E 0) (lk E 4) (lk E 5) (lk E 6) H) k):=(kN_mk hgN rfl);intro E H;rw[hk];show lxK cal O N (.reg [ qO 7 (.mv (k6 0))]) E H (seqK (lxK cal O N (vr20DecodeC1 f0 f1)) (kN (fun E H=>gN (lk E 0) (lk E 4) (lk E 5) (lk E 6) H) k))=_;rw[seqK_mk (g:=fun E H=>vr20DecodeC1S cal O N f0 f1 gN (lk E 0) (lk E 4) (lk E 5) (lk E 6) (lk E 7) H) (vr20DecodeC1Eq cal O N f0 f1 (k:=(kN (fun E H=>gN (lk E 0) (lk E 4) (lk E 5) (lk E 6) H) k)) gN (fun _ _=>by kernel_rfl))];kernel_rfl
def vr20DecodeC22S (cal:CB)(O:Oracle)(N:Nat)(f0 f1:FuncId)(v0 v4 v5 v6:IV)(H:Heap):OH :=
  vr20DecodeC2S cal O N f0 f1 (fun v0 v4 v5 v6 H=>vr20DecodeC21S cal O N f0 f1 v0 v4 v5 v6 H) v0 v4 v5 v6 H
theorem vr20DecodeC22Eq (cal:CB)(O:Oracle)(N:Nat)(f0 f1:FuncId){k:KT (IV×Heap)}(hR:∀E H,k .ret E H=resK [(.tmp 2),(.tmp 3)] [] E H):∀(E:Sg) (H:Heap),lxK cal O N (vr20DecodeC22 f0 f1) E H k=vr20DecodeC22S cal O N f0 f1 (lk E 0) (lk E 4) (lk E 5) (lk E 6) H:=by
 have hk:k=(kR (resK [(.tmp 2),(.tmp 3)] []) k):=(kR_mk hR rfl);intro E H;rw[hk];show lxK cal O N (vr20DecodeC2 f0 f1) E H (seqK (lxK cal O N (vr20DecodeC21 f0 f1)) (kR (resK [(.tmp 2),(.tmp 3)] []) k))=_;rw[seqK_mk (g:=fun E H=>vr20DecodeC21S cal O N f0 f1 (lk E 0) (lk E 4) (lk E 5) (lk E 6) H) (vr20DecodeC21Eq cal O N f0 f1 (k:=(kR (resK [(.tmp 2),(.tmp 3)] []) k)) (fun _ _=>by kernel_rfl))];exact(vr20DecodeC2Eq cal O N f0 f1 (k:=(kN (fun E H=>vr20DecodeC21S cal O N f0 f1 (lk E 0) (lk E 4) (lk E 5) (lk E 6) H) (kR (resK [(.tmp 2),(.tmp 3)] []) k))) (fun v0 v4 v5 v6 H=>vr20DecodeC21S cal O N f0 f1 v0 v4 v5 v6 H) (fun _ _=>by kernel_rfl) E H).trans (by kernel_rfl)
def vr20DecodeC23S (cal:CB)(O:Oracle)(N:Nat)(f0 f1:FuncId)(v0 v4 v5:IV)(H:Heap):OH :=
 ob (lbldS H 1 0 [(.int .u8 0)] []) fun r1 =>
  vr20DecodeC22S cal O N f0 f1 v0 v4 v5 r1.1 r1.2
theorem vr20DecodeC23Eq (cal:CB)(O:Oracle)(N:Nat)(f0 f1:FuncId){k:KT (IV×Heap)}(hR:∀E H,k .ret E H=resK [(.tmp 2),(.tmp 3)] [] E H):∀(E:Sg) (H:Heap),lxK cal O N (vr20DecodeC23 f0 f1) E H k=vr20DecodeC23S cal O N f0 f1 (lk E 0) (lk E 4) (lk E 5) H:=by
 have hk:k=(kR (resK [(.tmp 2),(.tmp 3)] []) k):=(kR_mk hR rfl);intro E H;rw[hk];show lxK cal O N X10K44 E H (seqK (lxK cal O N (vr20DecodeC22 f0 f1)) (kR (resK [(.tmp 2),(.tmp 3)] []) k))=_;rw[seqK_mk (g:=fun E H=>vr20DecodeC22S cal O N f0 f1 (lk E 0) (lk E 4) (lk E 5) (lk E 6) H) (vr20DecodeC22Eq cal O N f0 f1 (k:=(kR (resK [(.tmp 2),(.tmp 3)] []) k)) (fun _ _=>by kernel_rfl))];kernel_rfl
def vr20DecodeC24S (cal:CB)(O:Oracle)(N:Nat)(f0 f1:FuncId)(v0 v4:IV)(H:Heap):OH :=
 ob (O f0 [v0,(.int .i64 1)] H) fun r1 =>
  vr20DecodeC23S cal O N f0 f1 v0 v4 r1.1 r1.2
theorem vr20DecodeC24Eq (cal:CB)(O:Oracle)(N:Nat)(f0 f1:FuncId){k:KT (IV×Heap)}(hR:∀E H,k .ret E H=resK [(.tmp 2),(.tmp 3)] [] E H):∀(E:Sg) (H:Heap),lxK cal O N (vr20DecodeC24 f0 f1) E H k=vr20DecodeC24S cal O N f0 f1 (lk E 0) (lk E 4) H:=by
 have hk:k=(kR (resK [(.tmp 2),(.tmp 3)] []) k):=(kR_mk hR rfl);intro E H;rw[hk];show lxK cal O N (X10K30 f0) E H (seqK (lxK cal O N (vr20DecodeC23 f0 f1)) (kR (resK [(.tmp 2),(.tmp 3)] []) k))=_;rw[seqK_mk (g:=fun E H=>vr20DecodeC23S cal O N f0 f1 (lk E 0) (lk E 4) (lk E 5) H) (vr20DecodeC23Eq cal O N f0 f1 (k:=(kR (resK [(.tmp 2),(.tmp 3)] []) k)) (fun _ _=>by kernel_rfl))];kernel_rfl
def vr20DecodeC25S (cal:CB)(O:Oracle)(N:Nat)(f0 f1:FuncId)(v0:IV)(H:Heap):OH :=
 ob (O f0 [v0,(.int .i64 0)] H) fun r1 =>ob (lbin .rem r1.1 (.int .i64 64)) fun t2 =>ob (lbin .add (.int .i64 1) t2) fun t3 =>
  vr20DecodeC24S cal O N f0 f1 v0 t3 r1.2
theorem vr20DecodeC25Eq (cal:CB)(O:Oracle)(N:Nat)(f0 f1:FuncId){k:KT (IV×Heap)}(hR:∀E H,k .ret E H=resK [(.tmp 2),(.tmp 3)] [] E H):∀(E:Sg) (H:Heap),lxK cal O N (vr20DecodeC25 f0 f1) E H k=vr20DecodeC25S cal O N f0 f1 (lk E 0) H:=by
 have hk:k=(kR (resK [(.tmp 2),(.tmp 3)] []) k):=(kR_mk hR rfl);intro E H;rw[hk];show lxK cal O N (X10K19 f0) E H (seqK (lxK cal O N (vr20DecodeC24 f0 f1)) (kR (resK [(.tmp 2),(.tmp 3)] []) k))=_;rw[seqK_mk (g:=fun E H=>vr20DecodeC24S cal O N f0 f1 (lk E 0) (lk E 4) H) (vr20DecodeC24Eq cal O N f0 f1 (k:=(kR (resK [(.tmp 2),(.tmp 3)] []) k)) (fun _ _=>by kernel_rfl))];kernel_rfl
def vr20DecodeC26S (cal:CB)(O:Oracle)(N:Nat)(f0 f1:FuncId)(v0:IV)(H:Heap):OH :=
  vr20DecodeC25S cal O N f0 f1 v0 H
theorem vr20DecodeC26Eq (cal:CB)(O:Oracle)(N:Nat)(f0 f1:FuncId){k:KT (IV×Heap)}(hR:∀E H,k .ret E H=resK [(.tmp 2),(.tmp 3)] [] E H):∀(E:Sg) (H:Heap),lxK cal O N (vr20DecodeC26 f0 f1) E H k=vr20DecodeC26S cal O N f0 f1 (lk E 0) H:=by
 have hk:k=(kR (resK [(.tmp 2),(.tmp 3)] []) k):=(kR_mk hR rfl);intro E H;rw[hk];show lxK cal O N (.reg [ qO 2 (.mv (.k .nilSlice)),qO 3 (.mv (.k .nilSlice))]) E H (seqK (lxK cal O N (vr20DecodeC25 f0 f1)) (kR (resK [(.tmp 2),(.tmp 3)] []) k))=_;rw[seqK_mk (g:=fun E H=>vr20DecodeC25S cal O N f0 f1 (lk E 0) H) (vr20DecodeC25Eq cal O N f0 f1 (k:=(kR (resK [(.tmp 2),(.tmp 3)] []) k)) (fun _ _=>by kernel_rfl))];kernel_rfl
def vr20Decode (f0 f1:FuncId):LFun:=⟨(vr20DecodeC26 f0 f1),[(.tmp 2),(.tmp 3)],81⟩
def vr20DecodeS (cal:CB)(O:Oracle)(N:Nat)(f0 f1:FuncId)(v0:IV)(H:Heap):OH :=
  vr20DecodeC26S cal O N f0 f1 v0 H
theorem vr20DecodeEq (cal:CB)(O:Oracle)(N:Nat)(f0 f1:FuncId)(v0:IV)(H:Heap):lrunK cal O N (vr20Decode f0 f1) [v0] H=vr20DecodeS cal O N f0 f1 v0 H:=by
 show lxK cal O N (vr20DecodeC26 f0 f1) (initFrom 0 [v0]) H (endK [(.tmp 2),(.tmp 3)])=_;exact vr20DecodeC26Eq cal O N f0 f1 (k:=(endK [(.tmp 2),(.tmp 3)])) (fun _ _=>by kernel_rfl) (initFrom 0 [v0]) H
def X10K7 :LC:=.seq (.seq (.reg [ qM 28 7,qM 29 0,qO 30 (.len .slice (.t 29)),qO 31 (.bin .lss (.t 28) (.t 30))]) (.cond (.t 31) .skip (.exit 0))) (.seq (.block 1 (.seq (.seq (.reg [ qM 34 0,qM 35 7,qO 36 (.ix 1 (.t 34) (.t 35)),qO 37 (.ld1 (.t 36)),qO 38 (.len .slice (.t 37)),qO 39 (.bin .gtr (.t 38) (k6 1048576))]) (.cond (.t 39) X10K41 .skip)) (.reg [ qM 40 6,qM 41 0,qM 42 7,qO 43 (.ix 1 (.t 41) (.t 42)),qO 44 (.ld1 (.t 43)),qO 45 (.len .slice (.t 44)),qO 46 (.bin .add (.t 40) (.t 45)),qM 6 46]))) (.reg [ qM 32 7,qO 33 (.bin .add (.t 32) (k6 1)),qM 7 33]))
def vr20EncodeC0 (f0:FuncId):LC:=.loop X10K7
def vr20EncodeC1 (f0:FuncId):LC:=.block 0 (vr20EncodeC0 f0)
def vr20EncodeC2 (f0:FuncId):LC:=.seq (.reg [ qO 7 (.mv (k6 0))]) (vr20EncodeC1 f0)
def X10K0 :LC:=.seq (.seq (.reg [ qM 48 9,qM 49 6,qO 50 (.bin .lss (.t 48) (.t 49))]) (.cond (.t 50) .skip (.exit 2))) (.seq (.block 3 (.seq (.reg [ qM 53 9,qM 54 0,qO 55 (.len .slice (.t 54)),qO 56 (.bin .rem (.t 53) (.t 55)),qM 10 56]) (.seq (.reg [ qM 57 9,qM 58 0,qO 59 (.len .slice (.t 58)),qO 60 (.bin .quo (.t 57) (.t 59)),qM 11 60]) (.seq (.seq (.reg [ qM 61 11,qM 62 0,qM 63 10,qO 64 (.ix 1 (.t 62) (.t 63)),qO 65 (.ld1 (.t 64)),qO 66 (.len .slice (.t 65)),qO 67 (.bin .geq (.t 61) (.t 66))]) (.cond (.t 67) X10K41 .skip)) (.reg [ qM 68 8,qM 69 0,qM 70 10,qO 71 (.ix 1 (.t 69) (.t 70)),qO 72 (.ld1 (.t 71)),qM 73 11,qO 74 (.ix 7 (.t 72) (.t 73)),qO 75 (.ldn 7 (.t 74)),qO 76 (.bldS 7 1 [(.int .i64 0),(.int .i64 0),(.int .i64 0),(.int .i64 0),(.int .i64 0),(.str []),(.str [])] [(0,(.t 75))]),qO 77 (.app 7 72 (.t 68) (.t 76)),qM 8 77]))))) (.reg [ qM 51 9,qO 52 (.bin .add (.t 51) (k6 1)),qM 9 52]))
def vr20EncodeC3 (f0:FuncId):LC:=.loop X10K0
def vr20EncodeC4 (f0:FuncId):LC:=.block 2 (vr20EncodeC3 f0)
def vr20EncodeC5 (f0:FuncId):LC:=.seq (.reg [ qO 9 (.mv (k6 0))]) (vr20EncodeC4 f0)
def X10K1 (f0:FuncId):LC:=.seq (.reg [ qM 79 8,qO 80 (.callF f0 [(.t 79)]),qM 78 80,qO 81 (.ext (.t 78) 0),qO 82 (.ext (.t 78) 1),qM 12 81,qM 13 82]) (.seq (.seq (.reg [ qM 83 13,qO 84 (.bin .neq (.t 83) (k6 0))]) (.cond (.t 84) (.seq (.reg [ qM 85 13,qO 4 (.mv (.k .nilSlice)),qM 5 85]) .ret) .skip)) (.seq (.reg [ qM 86 0,qO 87 (.len .slice (.t 86)),qO 88 (.bin .sub (.t 87) (k6 1)),qO 89 (.cvt .u8 (.t 88)),qM 90 1,qO 91 (.len .slice (.t 90)),qO 92 (.cvt .u8 (.t 91)),qO 93 (.bldS 1 2 [(.int .u8 0)] [(0,(.t 89)),(1,(.t 92))]),qM 14 93]) (.seq (.reg [ qM 94 14,qM 95 1,qO 96 (.app 1 1 (.t 94) (.t 95)),qM 14 96]) (.seq (.reg [ qM 97 14,qM 98 12,qO 99 (.app 1 1 (.t 97) (.t 98)),qM 4 99,qO 5 (.mv (k6 0))]) .ret))))
def vr20EncodeC6 (f0:FuncId):LC:=.seq (vr20EncodeC5 f0) (X10K1 f0)
def X10K24 :LC:=.reg [ qO 47 (.bldS 7 0 [(.int .i64 0),(.int .i64 0),(.int .i64 0),(.int .i64 0),(.int .i64 0),(.str []),(.str [])] []),qM 8 47]
def vr20EncodeC7 (f0:FuncId):LC:=.seq X10K24 (vr20EncodeC6 f0)
def vr20EncodeC8 (f0:FuncId):LC:=.seq (vr20EncodeC2 f0) (vr20EncodeC7 f0)
def vr20EncodeC9 (f0:FuncId):LC:=.seq (.reg [ qO 6 (.mv (k6 0))]) (vr20EncodeC8 f0)
def X10K8 :LC:=.seq (.reg [ qM 15 0,qO 16 (.len .slice (.t 15)),qO 17 (.bin .eql (.t 16) (k6 0)),qM 18 17,⟨(some 19),(.mv (.t 0)),(some (18,false))⟩,⟨(some 20),(.len .slice (.t 19)),(some (18,false))⟩,⟨(some 21),(.bin .gtr (.t 20) (k6 64)),(some (18,false))⟩,qO 22 (.pick (.t 18) (.k (.bool true)) (.t 21)),qM 23 22,⟨(some 24),(.mv (.t 1)),(some (23,false))⟩,⟨(some 25),(.len .slice (.t 24)),(some (23,false))⟩,⟨(some 26),(.bin .gtr (.t 25) (k6 255)),(some (23,false))⟩,qO 27 (.pick (.t 23) (.k (.bool true)) (.t 26))]) X10K38
def vr20EncodeC10 (f0:FuncId):LC:=.seq X10K8 (vr20EncodeC9 f0)
def vr20EncodeC11 (f0:FuncId):LC:=.seq X10K42 (vr20EncodeC10 f0)
def vr20EncodeC3S (cal:CB)(O:Oracle)(N:Nat)(f0:FuncId)(gE2:IV->IV->IV->Heap->OH):Nat->IV->IV->IV->IV->IV->Heap->OH
 | 0,_,_,_,_,_,_=>none
 | n+1,v0,v1,v6,v8,v9,H =>ob (lbin .lss v9 v6) fun t1 =>cnd t1
  (ob (llen H .slice v0) fun t2 =>ob (lbin .rem v9 t2) fun t3 =>ob (llen H .slice v0) fun t4 =>ob (lbin .quo v9 t4) fun t5 =>ob (lix 1 v0 t3) fun t6 =>ob (lload1 H t6) fun t7 =>ob (llen H .slice t7) fun t8 =>ob (lbin .geq t5 t8) fun t9 =>cnd t9
  (some ((.tuple [.nilSlice,(.int .i64 22)]),H))
  (ob (lix 1 v0 t3) fun t10 =>ob (lload1 H t10) fun t11 =>ob (lix 7 t11 t5) fun t12 =>ob (lloadn H 7 t12) fun t13 =>ob (lbldS H 7 1 [(.int .i64 0),(.int .i64 0),(.int .i64 0),(.int .i64 0),(.int .i64 0),(.str []),(.str [])] [(0,t13)]) fun r14 =>ob (lapp r14.2 7 72 v8 r14.1) fun r15 =>ob (lbin .add v9 (.int .i64 1)) fun t16 =>
   vr20EncodeC3S cal O N f0 gE2 n v0 v1 v6 r15.1 t16 r15.2))
  (gE2 v0 v1 v8 H)
theorem vr20EncodeC3Eq (cal:CB)(O:Oracle)(N:Nat)(f0:FuncId){k:KT (IV×Heap)}(gE2:IV->IV->IV->Heap->OH)(hgE2:∀E H,k (.exit 2) E H=gE2 (lk E 0) (lk E 1) (lk E 8) H)(hR:∀E H,k .ret E H=resK [(.tmp 4),(.tmp 5)] [] E H):∀(n:Nat) (E:Sg) (H:Heap),itK (lxK cal O N X10K0) n E H k=vr20EncodeC3S cal O N f0 gE2 n (lk E 0) (lk E 1) (lk E 6) (lk E 8) (lk E 9) H:=by
 have hk:k=(kE 2 (fun E H=>gE2 (lk E 0) (lk E 1) (lk E 8) H) (kR (resK [(.tmp 4),(.tmp 5)] []) k)):=(kE_mk hgE2 (kR_mk hR rfl));intro n
 induction n with
 | zero=>intro E H;rfl
 | succ n ih =>
  intro E H;rw[itK_succ,seqK_mk (g:=fun E H=>vr20EncodeC3S cal O N f0 gE2 n (lk E 0) (lk E 1) (lk E 6) (lk E 8) (lk E 9) H) ih,hk];kernel_rfl
def vr20EncodeC4S (cal:CB)(O:Oracle)(N:Nat)(f0:FuncId)(gN:IV->IV->IV->Heap->OH)(v0 v1 v6 v8 v9:IV)(H:Heap):OH :=
  vr20EncodeC3S cal O N f0 (fun v0 v1 v8 H=>gN v0 v1 v8 H) N v0 v1 v6 v8 v9 H
theorem vr20EncodeC4Eq (cal:CB)(O:Oracle)(N:Nat)(f0:FuncId){k:KT (IV×Heap)}(gN:IV->IV->IV->Heap->OH)(hgN:∀E H,k .normal E H=gN (lk E 0) (lk E 1) (lk E 8) H)(hR:∀E H,k .ret E H=resK [(.tmp 4),(.tmp 5)] [] E H):∀(E:Sg) (H:Heap),lxK cal O N (vr20EncodeC4 f0) E H k=vr20EncodeC4S cal O N f0 gN (lk E 0) (lk E 1) (lk E 6) (lk E 8) (lk E 9) H:=by
 have hk:k=(kN (fun E H=>gN (lk E 0) (lk E 1) (lk E 8) H) (kR (resK [(.tmp 4),(.tmp 5)] []) k)):=(kN_mk hgN (kR_mk hR rfl));intro E H;rw[hk];show lxK cal O N (vr20EncodeC3 f0) E H (blockK 2 (kN (fun E H=>gN (lk E 0) (lk E 1) (lk E 8) H) (kR (resK [(.tmp 4),(.tmp 5)] []) k)))=_;exact(vr20EncodeC3Eq cal O N f0 (k:=(blockK 2 (kN (fun E H=>gN (lk E 0) (lk E 1) (lk E 8) H) (kR (resK [(.tmp 4),(.tmp 5)] []) k)))) gN (fun _ _=>by kernel_rfl) (fun _ _=>by kernel_rfl) N E H).trans (by kernel_rfl)
def vr20EncodeC5S (cal:CB)(O:Oracle)(N:Nat)(f0:FuncId)(gN:IV->IV->IV->Heap->OH)(v0 v1 v6 v8:IV)(H:Heap):OH :=
  vr20EncodeC4S cal O N f0 (fun v0 v1 v8 H=>gN v0 v1 v8 H) v0 v1 v6 v8 (.int .i64 0) H
theorem vr20EncodeC5Eq (cal:CB)(O:Oracle)(N:Nat)(f0:FuncId){k:KT (IV×Heap)}(gN:IV->IV->IV->Heap->OH)(hgN:∀E H,k .normal E H=gN (lk E 0) (lk E 1) (lk E 8) H)(hR:∀E H,k .ret E H=resK [(.tmp 4),(.tmp 5)] [] E H):∀(E:Sg) (H:Heap),lxK cal O N (vr20EncodeC5 f0) E H k=vr20EncodeC5S cal O N f0 gN (lk E 0) (lk E 1) (lk E 6) (lk E 8) H:=by
 have hk:k=(kN (fun E H=>gN (lk E 0) (lk E 1) (lk E 8) H) (kR (resK [(.tmp 4),(.tmp 5)] []) k)):=(kN_mk hgN (kR_mk hR rfl));intro E H;rw[hk];show lxK cal O N (.reg [ qO 9 (.mv (k6 0))]) E H (seqK (lxK cal O N (vr20EncodeC4 f0)) (kN (fun E H=>gN (lk E 0) (lk E 1) (lk E 8) H) (kR (resK [(.tmp 4),(.tmp 5)] []) k)))=_;rw[seqK_mk (g:=fun E H=>vr20EncodeC4S cal O N f0 gN (lk E 0) (lk E 1) (lk E 6) (lk E 8) (lk E 9) H) (vr20EncodeC4Eq cal O N f0 (k:=(kN (fun E H=>gN (lk E 0) (lk E 1) (lk E 8) H) (kR (resK [(.tmp 4),(.tmp 5)] []) k))) gN (fun _ _=>by kernel_rfl) (fun _ _=>by kernel_rfl))];kernel_rfl
def vr20EncodeC6S (cal:CB)(O:Oracle)(N:Nat)(f0:FuncId)(v0 v1 v6 v8:IV)(H:Heap):OH :=
  vr20EncodeC5S cal O N f0 (fun v0 v1 v8 H=>ob (O f0 [v8] H) fun r1 =>ob (iextract r1.1 0) fun t2 =>ob (iextract r1.1 1) fun t3 =>ob (lbin .neq t3 (.int .i64 0)) fun t4 =>cnd t4
 (some ((.tuple [.nilSlice,t3]),r1.2))
 (ob (llen r1.2 .slice v0) fun t5 =>ob (lbin .sub t5 (.int .i64 1)) fun t6 =>ob (lcvt .u8 t6) fun t7 =>ob (llen r1.2 .slice v1) fun t8 =>ob (lcvt .u8 t8) fun t9 =>ob (lbldS r1.2 1 2 [(.int .u8 0)] [(0,t7),(1,t9)]) fun r10 =>ob (lapp r10.2 1 1 r10.1 v1) fun r11 =>ob (lapp r11.2 1 1 r11.1 t2) fun r12 =>some ((.tuple [r12.1,(.int .i64 0)]),r12.2))) v0 v1 v6 v8 H
theorem vr20EncodeC6Eq (cal:CB)(O:Oracle)(N:Nat)(f0:FuncId){k:KT (IV×Heap)}(hR:∀E H,k .ret E H=resK [(.tmp 4),(.tmp 5)] [] E H):∀(E:Sg) (H:Heap),lxK cal O N (vr20EncodeC6 f0) E H k=vr20EncodeC6S cal O N f0 (lk E 0) (lk E 1) (lk E 6) (lk E 8) H:=by
 have hk:k=(kR (resK [(.tmp 4),(.tmp 5)] []) k):=(kR_mk hR rfl);intro E H;rw[hk];show lxK cal O N (vr20EncodeC5 f0) E H (seqK (lxK cal O N (X10K1 f0)) (kR (resK [(.tmp 4),(.tmp 5)] []) k))=_;exact(vr20EncodeC5Eq cal O N f0 (k:=(seqK (lxK cal O N (X10K1 f0)) (kR (resK [(.tmp 4),(.tmp 5)] []) k))) (fun v0 v1 v8 H=>ob (O f0 [v8] H) fun r1 =>ob (iextract r1.1 0) fun t2 =>ob (iextract r1.1 1) fun t3 =>ob (lbin .neq t3 (.int .i64 0)) fun t4 =>cnd t4
(some ((.tuple [.nilSlice,t3]),r1.2))
(ob (llen r1.2 .slice v0) fun t5 =>ob (lbin .sub t5 (.int .i64 1)) fun t6 =>ob (lcvt .u8 t6) fun t7 =>ob (llen r1.2 .slice v1) fun t8 =>ob (lcvt .u8 t8) fun t9 =>ob (lbldS r1.2 1 2 [(.int .u8 0)] [(0,t7),(1,t9)]) fun r10 =>ob (lapp r10.2 1 1 r10.1 v1) fun r11 =>ob (lapp r11.2 1 1 r11.1 t2) fun r12 =>some ((.tuple [r12.1,(.int .i64 0)]),r12.2))) (fun _ _=>by kernel_rfl) (fun _ _=>by kernel_rfl) E H).trans (by kernel_rfl)
def vr20EncodeC7S (cal:CB)(O:Oracle)(N:Nat)(f0:FuncId)(v0 v1 v6:IV)(H:Heap):OH :=
 ob (lbldS H 7 0 [(.int .i64 0),(.int .i64 0),(.int .i64 0),(.int .i64 0),(.int .i64 0),(.str []),(.str [])] []) fun r1 =>
  vr20EncodeC6S cal O N f0 v0 v1 v6 r1.1 r1.2
theorem vr20EncodeC7Eq (cal:CB)(O:Oracle)(N:Nat)(f0:FuncId){k:KT (IV×Heap)}(hR:∀E H,k .ret E H=resK [(.tmp 4),(.tmp 5)] [] E H):∀(E:Sg) (H:Heap),lxK cal O N (vr20EncodeC7 f0) E H k=vr20EncodeC7S cal O N f0 (lk E 0) (lk E 1) (lk E 6) H:=by
 have hk:k=(kR (resK [(.tmp 4),(.tmp 5)] []) k):=(kR_mk hR rfl);intro E H;rw[hk];show lxK cal O N X10K24 E H (seqK (lxK cal O N (vr20EncodeC6 f0)) (kR (resK [(.tmp 4),(.tmp 5)] []) k))=_;rw[seqK_mk (g:=fun E H=>vr20EncodeC6S cal O N f0 (lk E 0) (lk E 1) (lk E 6) (lk E 8) H) (vr20EncodeC6Eq cal O N f0 (k:=(kR (resK [(.tmp 4),(.tmp 5)] []) k)) (fun _ _=>by kernel_rfl))];kernel_rfl
def vr20EncodeC0S (cal:CB)(O:Oracle)(N:Nat)(f0:FuncId)(gE0:IV->IV->IV->Heap->OH):Nat->IV->IV->IV->IV->Heap->OH
 | 0,_,_,_,_,_=>none
 | n+1,v0,v1,v6,v7,H =>ob (llen H .slice v0) fun t1 =>ob (lbin .lss v7 t1) fun t2 =>cnd t2
  (ob (lix 1 v0 v7) fun t3 =>ob (lload1 H t3) fun t4 =>ob (llen H .slice t4) fun t5 =>ob (lbin .gtr t5 (.int .i64 1048576)) fun t6 =>cnd t6
  (some ((.tuple [.nilSlice,(.int .i64 22)]),H))
  (ob (lix 1 v0 v7) fun t7 =>ob (lload1 H t7) fun t8 =>ob (llen H .slice t8) fun t9 =>ob (lbin .add v6 t9) fun t10 =>ob (lbin .add v7 (.int .i64 1)) fun t11 =>
   vr20EncodeC0S cal O N f0 gE0 n v0 v1 t10 t11 H))
  (gE0 v0 v1 v6 H)
theorem vr20EncodeC0Eq (cal:CB)(O:Oracle)(N:Nat)(f0:FuncId){k:KT (IV×Heap)}(gE0:IV->IV->IV->Heap->OH)(hgE0:∀E H,k (.exit 0) E H=gE0 (lk E 0) (lk E 1) (lk E 6) H)(hR:∀E H,k .ret E H=resK [(.tmp 4),(.tmp 5)] [] E H):∀(n:Nat) (E:Sg) (H:Heap),itK (lxK cal O N X10K7) n E H k=vr20EncodeC0S cal O N f0 gE0 n (lk E 0) (lk E 1) (lk E 6) (lk E 7) H:=by
 have hk:k=(kE 0 (fun E H=>gE0 (lk E 0) (lk E 1) (lk E 6) H) (kR (resK [(.tmp 4),(.tmp 5)] []) k)):=(kE_mk hgE0 (kR_mk hR rfl));intro n
 induction n with
 | zero=>intro E H;rfl
 | succ n ih =>
  intro E H;rw[itK_succ,seqK_mk (g:=fun E H=>vr20EncodeC0S cal O N f0 gE0 n (lk E 0) (lk E 1) (lk E 6) (lk E 7) H) ih,hk];kernel_rfl
def vr20EncodeC1S (cal:CB)(O:Oracle)(N:Nat)(f0:FuncId)(gN:IV->IV->IV->Heap->OH)(v0 v1 v6 v7:IV)(H:Heap):OH :=
  vr20EncodeC0S cal O N f0 (fun v0 v1 v6 H=>gN v0 v1 v6 H) N v0 v1 v6 v7 H
theorem vr20EncodeC1Eq (cal:CB)(O:Oracle)(N:Nat)(f0:FuncId){k:KT (IV×Heap)}(gN:IV->IV->IV->Heap->OH)(hgN:∀E H,k .normal E H=gN (lk E 0) (lk E 1) (lk E 6) H)(hR:∀E H,k .ret E H=resK [(.tmp 4),(.tmp 5)] [] E H):∀(E:Sg) (H:Heap),lxK cal O N (vr20EncodeC1 f0) E H k=vr20EncodeC1S cal O N f0 gN (lk E 0) (lk E 1) (lk E 6) (lk E 7) H:=by
 have hk:k=(kN (fun E H=>gN (lk E 0) (lk E 1) (lk E 6) H) (kR (resK [(.tmp 4),(.tmp 5)] []) k)):=(kN_mk hgN (kR_mk hR rfl));intro E H;rw[hk];show lxK cal O N (vr20EncodeC0 f0) E H (blockK 0 (kN (fun E H=>gN (lk E 0) (lk E 1) (lk E 6) H) (kR (resK [(.tmp 4),(.tmp 5)] []) k)))=_;exact(vr20EncodeC0Eq cal O N f0 (k:=(blockK 0 (kN (fun E H=>gN (lk E 0) (lk E 1) (lk E 6) H) (kR (resK [(.tmp 4),(.tmp 5)] []) k)))) gN (fun _ _=>by kernel_rfl) (fun _ _=>by kernel_rfl) N E H).trans (by kernel_rfl)
def vr20EncodeC2S (cal:CB)(O:Oracle)(N:Nat)(f0:FuncId)(gN:IV->IV->IV->Heap->OH)(v0 v1 v6:IV)(H:Heap):OH :=
  vr20EncodeC1S cal O N f0 (fun v0 v1 v6 H=>gN v0 v1 v6 H) v0 v1 v6 (.int .i64 0) H
theorem vr20EncodeC2Eq (cal:CB)(O:Oracle)(N:Nat)(f0:FuncId){k:KT (IV×Heap)}(gN:IV->IV->IV->Heap->OH)(hgN:∀E H,k .normal E H=gN (lk E 0) (lk E 1) (lk E 6) H)(hR:∀E H,k .ret E H=resK [(.tmp 4),(.tmp 5)] [] E H):∀(E:Sg) (H:Heap),lxK cal O N (vr20EncodeC2 f0) E H k=vr20EncodeC2S cal O N f0 gN (lk E 0) (lk E 1) (lk E 6) H:=by
 have hk:k=(kN (fun E H=>gN (lk E 0) (lk E 1) (lk E 6) H) (kR (resK [(.tmp 4),(.tmp 5)] []) k)):=(kN_mk hgN (kR_mk hR rfl));intro E H;rw[hk];show lxK cal O N (.reg [ qO 7 (.mv (k6 0))]) E H (seqK (lxK cal O N (vr20EncodeC1 f0)) (kN (fun E H=>gN (lk E 0) (lk E 1) (lk E 6) H) (kR (resK [(.tmp 4),(.tmp 5)] []) k)))=_;rw[seqK_mk (g:=fun E H=>vr20EncodeC1S cal O N f0 gN (lk E 0) (lk E 1) (lk E 6) (lk E 7) H) (vr20EncodeC1Eq cal O N f0 (k:=(kN (fun E H=>gN (lk E 0) (lk E 1) (lk E 6) H) (kR (resK [(.tmp 4),(.tmp 5)] []) k))) gN (fun _ _=>by kernel_rfl) (fun _ _=>by kernel_rfl))];kernel_rfl
def vr20EncodeC8S (cal:CB)(O:Oracle)(N:Nat)(f0:FuncId)(v0 v1 v6:IV)(H:Heap):OH :=
  vr20EncodeC2S cal O N f0 (fun v0 v1 v6 H=>vr20EncodeC7S cal O N f0 v0 v1 v6 H) v0 v1 v6 H
theorem vr20EncodeC8Eq (cal:CB)(O:Oracle)(N:Nat)(f0:FuncId){k:KT (IV×Heap)}(hR:∀E H,k .ret E H=resK [(.tmp 4),(.tmp 5)] [] E H):∀(E:Sg) (H:Heap),lxK cal O N (vr20EncodeC8 f0) E H k=vr20EncodeC8S cal O N f0 (lk E 0) (lk E 1) (lk E 6) H:=by
 have hk:k=(kR (resK [(.tmp 4),(.tmp 5)] []) k):=(kR_mk hR rfl);intro E H;rw[hk];show lxK cal O N (vr20EncodeC2 f0) E H (seqK (lxK cal O N (vr20EncodeC7 f0)) (kR (resK [(.tmp 4),(.tmp 5)] []) k))=_;rw[seqK_mk (g:=fun E H=>vr20EncodeC7S cal O N f0 (lk E 0) (lk E 1) (lk E 6) H) (vr20EncodeC7Eq cal O N f0 (k:=(kR (resK [(.tmp 4),(.tmp 5)] []) k)) (fun _ _=>by kernel_rfl))];exact(vr20EncodeC2Eq cal O N f0 (k:=(kN (fun E H=>vr20EncodeC7S cal O N f0 (lk E 0) (lk E 1) (lk E 6) H) (kR (resK [(.tmp 4),(.tmp 5)] []) k))) (fun v0 v1 v6 H=>vr20EncodeC7S cal O N f0 v0 v1 v6 H) (fun _ _=>by kernel_rfl) (fun _ _=>by kernel_rfl) E H).trans (by kernel_rfl)
def vr20EncodeC9S (cal:CB)(O:Oracle)(N:Nat)(f0:FuncId)(v0 v1:IV)(H:Heap):OH :=
  vr20EncodeC8S cal O N f0 v0 v1 (.int .i64 0) H
theorem vr20EncodeC9Eq (cal:CB)(O:Oracle)(N:Nat)(f0:FuncId){k:KT (IV×Heap)}(hR:∀E H,k .ret E H=resK [(.tmp 4),(.tmp 5)] [] E H):∀(E:Sg) (H:Heap),lxK cal O N (vr20EncodeC9 f0) E H k=vr20EncodeC9S cal O N f0 (lk E 0) (lk E 1) H:=by
 have hk:k=(kR (resK [(.tmp 4),(.tmp 5)] []) k):=(kR_mk hR rfl);intro E H;rw[hk];show lxK cal O N (.reg [ qO 6 (.mv (k6 0))]) E H (seqK (lxK cal O N (vr20EncodeC8 f0)) (kR (resK [(.tmp 4),(.tmp 5)] []) k))=_;rw[seqK_mk (g:=fun E H=>vr20EncodeC8S cal O N f0 (lk E 0) (lk E 1) (lk E 6) H) (vr20EncodeC8Eq cal O N f0 (k:=(kR (resK [(.tmp 4),(.tmp 5)] []) k)) (fun _ _=>by kernel_rfl))];kernel_rfl
def vr20EncodeC10S (cal:CB)(O:Oracle)(N:Nat)(f0:FuncId)(v0 v1:IV)(H:Heap):OH :=
 ob (llen H .slice v0) fun t1 =>ob (lbin .eql t1 (.int .i64 0)) fun t2 =>ob (gq (isB t2 false) (some v0)) fun t3 =>ob (gq (isB t2 false) (llen H .slice t3)) fun t4 =>ob (gq (isB t2 false) (lbin .gtr t4 (.int .i64 64))) fun t5 =>ob (lpick t2 (.bool true) t5) fun t6 =>ob (gq (isB t6 false) (some v1)) fun t7 =>ob (gq (isB t6 false) (llen H .slice t7)) fun t8 =>ob (gq (isB t6 false) (lbin .gtr t8 (.int .i64 255))) fun t9 =>ob (lpick t6 (.bool true) t9) fun t10 =>cnd t10
 (some ((.tuple [.nilSlice,(.int .i64 22)]),H))
  (vr20EncodeC9S cal O N f0 v0 v1 H)
theorem vr20EncodeC10Eq (cal:CB)(O:Oracle)(N:Nat)(f0:FuncId){k:KT (IV×Heap)}(hR:∀E H,k .ret E H=resK [(.tmp 4),(.tmp 5)] [] E H):∀(E:Sg) (H:Heap),lxK cal O N (vr20EncodeC10 f0) E H k=vr20EncodeC10S cal O N f0 (lk E 0) (lk E 1) H:=by
 have hk:k=(kR (resK [(.tmp 4),(.tmp 5)] []) k):=(kR_mk hR rfl);intro E H;rw[hk];show lxK cal O N X10K8 E H (seqK (lxK cal O N (vr20EncodeC9 f0)) (kR (resK [(.tmp 4),(.tmp 5)] []) k))=_;rw[seqK_mk (g:=fun E H=>vr20EncodeC9S cal O N f0 (lk E 0) (lk E 1) H) (vr20EncodeC9Eq cal O N f0 (k:=(kR (resK [(.tmp 4),(.tmp 5)] []) k)) (fun _ _=>by kernel_rfl))];kernel_rfl
def vr20EncodeC11S (cal:CB)(O:Oracle)(N:Nat)(f0:FuncId)(v0 v1:IV)(H:Heap):OH :=
  vr20EncodeC10S cal O N f0 v0 v1 H
theorem vr20EncodeC11Eq (cal:CB)(O:Oracle)(N:Nat)(f0:FuncId){k:KT (IV×Heap)}(hR:∀E H,k .ret E H=resK [(.tmp 4),(.tmp 5)] [] E H):∀(E:Sg) (H:Heap),lxK cal O N (vr20EncodeC11 f0) E H k=vr20EncodeC11S cal O N f0 (lk E 0) (lk E 1) H:=by
 have hk:k=(kR (resK [(.tmp 4),(.tmp 5)] []) k):=(kR_mk hR rfl);intro E H;rw[hk];show lxK cal O N X10K42 E H (seqK (lxK cal O N (vr20EncodeC10 f0)) (kR (resK [(.tmp 4),(.tmp 5)] []) k))=_;rw[seqK_mk (g:=fun E H=>vr20EncodeC10S cal O N f0 (lk E 0) (lk E 1) H) (vr20EncodeC10Eq cal O N f0 (k:=(kR (resK [(.tmp 4),(.tmp 5)] []) k)) (fun _ _=>by kernel_rfl))];kernel_rfl
def vr20Encode (f0:FuncId):LFun:=⟨(vr20EncodeC11 f0),[(.tmp 4),(.tmp 5)],100⟩
def vr20EncodeS (cal:CB)(O:Oracle)(N:Nat)(f0:FuncId)(v0 v1:IV)(H:Heap):OH :=
  vr20EncodeC11S cal O N f0 v0 v1 H
theorem vr20EncodeEq (cal:CB)(O:Oracle)(N:Nat)(f0:FuncId)(v0 v1:IV)(H:Heap):lrunK cal O N (vr20Encode f0) [v0,v1] H=vr20EncodeS cal O N f0 v0 v1 H:=by
 show lxK cal O N (vr20EncodeC11 f0) (initFrom 0 [v0,v1]) H (endK [(.tmp 4),(.tmp 5)])=_;exact vr20EncodeC11Eq cal O N f0 (k:=(endK [(.tmp 4),(.tmp 5)])) (fun _ _=>by kernel_rfl) (initFrom 0 [v0,v1]) H
def X10K4 :LC:=.seq (.seq (.reg [ qM 29 6,qM 30 0,qM 31 5,qO 32 (.ix 1 (.t 30) (.t 31)),qO 33 (.ld1 (.t 32)),qO 34 (.len .slice (.t 33)),qO 35 (.bin .lss (.t 29) (.t 34))]) (.cond (.t 35) .skip (.exit 2))) (.seq (.block 3 (.seq (.drw [ qM 38 0,qM 39 5,qO 40 (.ix 1 (.t 38) (.t 39)),qO 41 (.ld1 (.t 40)),qM 42 6,qO 43 (.ix 7 (.t 41) (.t 42)),qO 44 (.ldn 7 (.t 43)),qM 45 1,qM 46 5,qO 47 (.ix 1 (.t 45) (.t 46)),qO 48 (.ld1 (.t 47)),qM 49 6,qO 50 (.ix 7 (.t 48) (.t 49)),qO 51 (.ldn 7 (.t 50)),qO 52 (.eqv true (.struct [(0,.int),(1,.int),(2,.int),(3,.int),(4,.int),(5,.str),(6,.str)]) (.t 44) (.t 51))] []) (.cond (.t 52) (.seq (.reg [ qO 4 (.mv (.k (.bool false)))]) .ret) .skip))) (.reg [ qM 36 6,qO 37 (.bin .add (.t 36) (k6 1)),qM 6 37]))
def vr20SameC0 :LC:=.loop X10K4
def vr20SameC1 :LC:=.block 2 vr20SameC0
def vr20SameC2 :LC:=.seq (.reg [ qO 6 (.mv (k6 0))]) vr20SameC1
def X10K13 :LC:=.seq (.drw [ qM 18 0,qM 19 5,qO 20 (.ix 1 (.t 18) (.t 19)),qO 21 (.ld1 (.t 20)),qO 22 (.len .slice (.t 21)),qM 23 1,qM 24 5,qO 25 (.ix 1 (.t 23) (.t 24)),qO 26 (.ld1 (.t 25)),qO 27 (.len .slice (.t 26)),qO 28 (.bin .neq (.t 22) (.t 27))] []) (.cond (.t 28) (.seq (.reg [ qO 4 (.mv (.k (.bool false)))]) .ret) .skip)
def vr20SameC3 :LC:=.seq X10K13 vr20SameC2
def vr20SameC4 :LC:=.block 1 vr20SameC3
def X10K35 :LC:=.reg [ qM 16 5,qO 17 (.bin .add (.t 16) (k6 1)),qM 5 17]
def vr20SameC5 :LC:=.seq vr20SameC4 X10K35
def X10K22 :LC:=.seq (.reg [ qM 12 5,qM 13 0,qO 14 (.len .slice (.t 13)),qO 15 (.bin .lss (.t 12) (.t 14))]) (.cond (.t 15) .skip (.exit 0))
def vr20SameC6 :LC:=.seq X10K22 vr20SameC5
def vr20SameC7 :LC:=.loop vr20SameC6
def vr20SameC8 :LC:=.block 0 vr20SameC7
def vr20SameC9 :LC:=.seq (.reg [ qO 5 (.mv (k6 0))]) vr20SameC8
def vr20SameC10 :LC:=.seq vr20SameC9 (.seq (.reg [ qO 4 (.mv (.k (.bool true)))]) .ret)
def X10K17 :LC:=.seq (.reg [ qM 7 0,qO 8 (.len .slice (.t 7)),qM 9 1,qO 10 (.len .slice (.t 9)),qO 11 (.bin .neq (.t 8) (.t 10))]) (.cond (.t 11) (.seq (.reg [ qO 4 (.mv (.k (.bool false)))]) .ret) .skip)
def vr20SameC11 :LC:=.seq X10K17 vr20SameC10
def vr20SameC12 :LC:=.seq (.reg [ qO 4 (.mv (.k (.bool false)))]) vr20SameC11
def vr20SameC0S (cal:CB)(O:Oracle)(N:Nat)(gE2:IV->IV->IV->Heap->OH):Nat->IV->IV->IV->IV->Heap->OH
 | 0,_,_,_,_,_=>none
 | n+1,v0,v1,v5,v6,H =>ob (lix 1 v0 v5) fun t1 =>ob (lload1 H t1) fun t2 =>ob (llen H .slice t2) fun t3 =>ob (lbin .lss v6 t3) fun t4 =>cnd t4
  (ob (lix 1 v0 v5) fun t5 =>ob (lload1 H t5) fun t6 =>ob (lix 7 t6 v6) fun t7 =>ob (lloadn H 7 t7) fun t8 =>ob (lix 1 v1 v5) fun t9 =>ob (lload1 H t9) fun t10 =>ob (lix 7 t10 v6) fun t11 =>ob (lloadn H 7 t11) fun t12 =>ob (leqv true (leq (.struct [(0,.int),(1,.int),(2,.int),(3,.int),(4,.int),(5,.str),(6,.str)]) t8 t12)) fun t13 =>cnd t13
  (some ((.bool false),H))
  (ob (lbin .add v6 (.int .i64 1)) fun t14 =>
   vr20SameC0S cal O N gE2 n v0 v1 v5 t14 H))
  (gE2 v0 v1 v5 H)
theorem vr20SameC0Eq (cal:CB)(O:Oracle)(N:Nat){k:KT (IV×Heap)}(gE2:IV->IV->IV->Heap->OH)(hgE2:∀E H,k (.exit 2) E H=gE2 (lk E 0) (lk E 1) (lk E 5) H)(hR:∀E H,k .ret E H=resK [(.tmp 4)] [] E H):∀(n:Nat) (E:Sg) (H:Heap),itK (lxK cal O N X10K4) n E H k=vr20SameC0S cal O N gE2 n (lk E 0) (lk E 1) (lk E 5) (lk E 6) H:=by
 have hk:k=(kE 2 (fun E H=>gE2 (lk E 0) (lk E 1) (lk E 5) H) (kR (resK [(.tmp 4)] []) k)):=(kE_mk hgE2 (kR_mk hR rfl));intro n
 induction n with
 | zero=>intro E H;rfl
 | succ n ih =>
  intro E H;rw[itK_succ,seqK_mk (g:=fun E H=>vr20SameC0S cal O N gE2 n (lk E 0) (lk E 1) (lk E 5) (lk E 6) H) ih,hk];kernel_rfl
def vr20SameC1S (cal:CB)(O:Oracle)(N:Nat)(gN:IV->IV->IV->Heap->OH)(v0 v1 v5 v6:IV)(H:Heap):OH :=
  vr20SameC0S cal O N (fun v0 v1 v5 H=>gN v0 v1 v5 H) N v0 v1 v5 v6 H
theorem vr20SameC1Eq (cal:CB)(O:Oracle)(N:Nat){k:KT (IV×Heap)}(gN:IV->IV->IV->Heap->OH)(hgN:∀E H,k .normal E H=gN (lk E 0) (lk E 1) (lk E 5) H)(hR:∀E H,k .ret E H=resK [(.tmp 4)] [] E H):∀(E:Sg) (H:Heap),lxK cal O N vr20SameC1 E H k=vr20SameC1S cal O N gN (lk E 0) (lk E 1) (lk E 5) (lk E 6) H:=by
 have hk:k=(kN (fun E H=>gN (lk E 0) (lk E 1) (lk E 5) H) (kR (resK [(.tmp 4)] []) k)):=(kN_mk hgN (kR_mk hR rfl));intro E H;rw[hk];show lxK cal O N vr20SameC0 E H (blockK 2 (kN (fun E H=>gN (lk E 0) (lk E 1) (lk E 5) H) (kR (resK [(.tmp 4)] []) k)))=_;exact(vr20SameC0Eq cal O N (k:=(blockK 2 (kN (fun E H=>gN (lk E 0) (lk E 1) (lk E 5) H) (kR (resK [(.tmp 4)] []) k)))) gN (fun _ _=>by kernel_rfl) (fun _ _=>by kernel_rfl) N E H).trans (by kernel_rfl)
def vr20SameC2S (cal:CB)(O:Oracle)(N:Nat)(gN:IV->IV->IV->Heap->OH)(v0 v1 v5:IV)(H:Heap):OH :=
  vr20SameC1S cal O N (fun v0 v1 v5 H=>gN v0 v1 v5 H) v0 v1 v5 (.int .i64 0) H
theorem vr20SameC2Eq (cal:CB)(O:Oracle)(N:Nat){k:KT (IV×Heap)}(gN:IV->IV->IV->Heap->OH)(hgN:∀E H,k .normal E H=gN (lk E 0) (lk E 1) (lk E 5) H)(hR:∀E H,k .ret E H=resK [(.tmp 4)] [] E H):∀(E:Sg) (H:Heap),lxK cal O N vr20SameC2 E H k=vr20SameC2S cal O N gN (lk E 0) (lk E 1) (lk E 5) H:=by
 have hk:k=(kN (fun E H=>gN (lk E 0) (lk E 1) (lk E 5) H) (kR (resK [(.tmp 4)] []) k)):=(kN_mk hgN (kR_mk hR rfl));intro E H;rw[hk];show lxK cal O N (.reg [ qO 6 (.mv (k6 0))]) E H (seqK (lxK cal O N vr20SameC1) (kN (fun E H=>gN (lk E 0) (lk E 1) (lk E 5) H) (kR (resK [(.tmp 4)] []) k)))=_;rw[seqK_mk (g:=fun E H=>vr20SameC1S cal O N gN (lk E 0) (lk E 1) (lk E 5) (lk E 6) H) (vr20SameC1Eq cal O N (k:=(kN (fun E H=>gN (lk E 0) (lk E 1) (lk E 5) H) (kR (resK [(.tmp 4)] []) k))) gN (fun _ _=>by kernel_rfl) (fun _ _=>by kernel_rfl))];kernel_rfl
def vr20SameC3S (cal:CB)(O:Oracle)(N:Nat)(gN:IV->IV->IV->Heap->OH)(v0 v1 v5:IV)(H:Heap):OH :=
 ob (lix 1 v0 v5) fun t1 =>ob (lload1 H t1) fun t2 =>ob (llen H .slice t2) fun t3 =>ob (lix 1 v1 v5) fun t4 =>ob (lload1 H t4) fun t5 =>ob (llen H .slice t5) fun t6 =>ob (lbin .neq t3 t6) fun t7 =>cnd t7
 (some ((.bool false),H))
  (vr20SameC2S cal O N (fun v0 v1 v5 H=>gN v0 v1 v5 H) v0 v1 v5 H)
theorem vr20SameC3Eq (cal:CB)(O:Oracle)(N:Nat){k:KT (IV×Heap)}(gN:IV->IV->IV->Heap->OH)(hgN:∀E H,k .normal E H=gN (lk E 0) (lk E 1) (lk E 5) H)(hR:∀E H,k .ret E H=resK [(.tmp 4)] [] E H):∀(E:Sg) (H:Heap),lxK cal O N vr20SameC3 E H k=vr20SameC3S cal O N gN (lk E 0) (lk E 1) (lk E 5) H:=by
 have hk:k=(kN (fun E H=>gN (lk E 0) (lk E 1) (lk E 5) H) (kR (resK [(.tmp 4)] []) k)):=(kN_mk hgN (kR_mk hR rfl));intro E H;rw[hk];show lxK cal O N X10K13 E H (seqK (lxK cal O N vr20SameC2) (kN (fun E H=>gN (lk E 0) (lk E 1) (lk E 5) H) (kR (resK [(.tmp 4)] []) k)))=_;rw[seqK_mk (g:=fun E H=>vr20SameC2S cal O N gN (lk E 0) (lk E 1) (lk E 5) H) (vr20SameC2Eq cal O N (k:=(kN (fun E H=>gN (lk E 0) (lk E 1) (lk E 5) H) (kR (resK [(.tmp 4)] []) k))) gN (fun _ _=>by kernel_rfl) (fun _ _=>by kernel_rfl))];kernel_rfl
def vr20SameC4S (cal:CB)(O:Oracle)(N:Nat)(gN:IV->IV->IV->Heap->OH)(v0 v1 v5:IV)(H:Heap):OH :=
  vr20SameC3S cal O N (fun v0 v1 v5 H=>gN v0 v1 v5 H) v0 v1 v5 H
theorem vr20SameC4Eq (cal:CB)(O:Oracle)(N:Nat){k:KT (IV×Heap)}(gN:IV->IV->IV->Heap->OH)(hgN:∀E H,k .normal E H=gN (lk E 0) (lk E 1) (lk E 5) H)(hR:∀E H,k .ret E H=resK [(.tmp 4)] [] E H):∀(E:Sg) (H:Heap),lxK cal O N vr20SameC4 E H k=vr20SameC4S cal O N gN (lk E 0) (lk E 1) (lk E 5) H:=by
 have hk:k=(kN (fun E H=>gN (lk E 0) (lk E 1) (lk E 5) H) (kR (resK [(.tmp 4)] []) k)):=(kN_mk hgN (kR_mk hR rfl));intro E H;rw[hk];show lxK cal O N vr20SameC3 E H (blockK 1 (kN (fun E H=>gN (lk E 0) (lk E 1) (lk E 5) H) (kR (resK [(.tmp 4)] []) k)))=_;exact(vr20SameC3Eq cal O N (k:=(blockK 1 (kN (fun E H=>gN (lk E 0) (lk E 1) (lk E 5) H) (kR (resK [(.tmp 4)] []) k)))) gN (fun _ _=>by kernel_rfl) (fun _ _=>by kernel_rfl) E H).trans (by kernel_rfl)
def vr20SameC5S (cal:CB)(O:Oracle)(N:Nat)(gN:IV->IV->IV->Heap->OH)(v0 v1 v5:IV)(H:Heap):OH :=
  vr20SameC4S cal O N (fun v0 v1 v5 H=>ob (lbin .add v5 (.int .i64 1)) fun t1 =>
 gN v0 v1 t1 H) v0 v1 v5 H
theorem vr20SameC5Eq (cal:CB)(O:Oracle)(N:Nat){k:KT (IV×Heap)}(gN:IV->IV->IV->Heap->OH)(hgN:∀E H,k .normal E H=gN (lk E 0) (lk E 1) (lk E 5) H)(hR:∀E H,k .ret E H=resK [(.tmp 4)] [] E H):∀(E:Sg) (H:Heap),lxK cal O N vr20SameC5 E H k=vr20SameC5S cal O N gN (lk E 0) (lk E 1) (lk E 5) H:=by
 have hk:k=(kN (fun E H=>gN (lk E 0) (lk E 1) (lk E 5) H) (kR (resK [(.tmp 4)] []) k)):=(kN_mk hgN (kR_mk hR rfl));intro E H;rw[hk];show lxK cal O N vr20SameC4 E H (seqK (lxK cal O N X10K35) (kN (fun E H=>gN (lk E 0) (lk E 1) (lk E 5) H) (kR (resK [(.tmp 4)] []) k)))=_;exact(vr20SameC4Eq cal O N (k:=(seqK (lxK cal O N X10K35) (kN (fun E H=>gN (lk E 0) (lk E 1) (lk E 5) H) (kR (resK [(.tmp 4)] []) k)))) (fun v0 v1 v5 H=>ob (lbin .add v5 (.int .i64 1)) fun t1 =>
gN v0 v1 t1 H) (fun _ _=>by kernel_rfl) (fun _ _=>by kernel_rfl) E H).trans (by kernel_rfl)
def vr20SameC6S (cal:CB)(O:Oracle)(N:Nat)(gE0:Heap->OH)(gN:IV->IV->IV->Heap->OH)(v0 v1 v5:IV)(H:Heap):OH :=
 ob (llen H .slice v0) fun t1 =>ob (lbin .lss v5 t1) fun t2 =>cnd t2
  (vr20SameC5S cal O N (fun v0 v1 v5 H=>gN v0 v1 v5 H) v0 v1 v5 H)
 (gE0 H)
theorem vr20SameC6Eq (cal:CB)(O:Oracle)(N:Nat){k:KT (IV×Heap)}(gE0:Heap->OH)(gN:IV->IV->IV->Heap->OH)(hgE0:∀E H,k (.exit 0) E H=gE0 H)(hgN:∀E H,k .normal E H=gN (lk E 0) (lk E 1) (lk E 5) H)(hR:∀E H,k .ret E H=resK [(.tmp 4)] [] E H):∀(E:Sg) (H:Heap),lxK cal O N vr20SameC6 E H k=vr20SameC6S cal O N gE0 gN (lk E 0) (lk E 1) (lk E 5) H:=by
 have hk:k=(kN (fun E H=>gN (lk E 0) (lk E 1) (lk E 5) H) (kE 0 (fun E H=>gE0 H) (kR (resK [(.tmp 4)] []) k))):=(kN_mk hgN (kE_mk hgE0 (kR_mk hR rfl)));intro E H;rw[hk];show lxK cal O N X10K22 E H (seqK (lxK cal O N vr20SameC5) (kN (fun E H=>gN (lk E 0) (lk E 1) (lk E 5) H) (kE 0 (fun E H=>gE0 H) (kR (resK [(.tmp 4)] []) k))))=_;rw[seqK_mk (g:=fun E H=>vr20SameC5S cal O N gN (lk E 0) (lk E 1) (lk E 5) H) (vr20SameC5Eq cal O N (k:=(kN (fun E H=>gN (lk E 0) (lk E 1) (lk E 5) H) (kE 0 (fun E H=>gE0 H) (kR (resK [(.tmp 4)] []) k)))) gN (fun _ _=>by kernel_rfl) (fun _ _=>by kernel_rfl))];kernel_rfl
def vr20SameC7S (cal:CB)(O:Oracle)(N:Nat)(gE0:Heap->OH):Nat->IV->IV->IV->Heap->OH
 | 0,_,_,_,_=>none
 | n+1,v0,v1,v5,H =>
  vr20SameC6S cal O N (fun H=>gE0 H) (fun v0 v1 v5 H=>vr20SameC7S cal O N gE0 n v0 v1 v5 H) v0 v1 v5 H
theorem vr20SameC7Eq (cal:CB)(O:Oracle)(N:Nat){k:KT (IV×Heap)}(gE0:Heap->OH)(hgE0:∀E H,k (.exit 0) E H=gE0 H)(hR:∀E H,k .ret E H=resK [(.tmp 4)] [] E H):∀(n:Nat) (E:Sg) (H:Heap),itK (lxK cal O N vr20SameC6) n E H k=vr20SameC7S cal O N gE0 n (lk E 0) (lk E 1) (lk E 5) H:=by
 have hk:k=(kE 0 (fun E H=>gE0 H) (kR (resK [(.tmp 4)] []) k)):=(kE_mk hgE0 (kR_mk hR rfl));intro n
 induction n with
 | zero=>intro E H;rfl
 | succ n ih =>
  intro E H;rw[itK_succ,seqK_mk (g:=fun E H=>vr20SameC7S cal O N gE0 n (lk E 0) (lk E 1) (lk E 5) H) ih,hk];exact(vr20SameC6Eq cal O N (k:=(kN (fun E H=>vr20SameC7S cal O N gE0 n (lk E 0) (lk E 1) (lk E 5) H) (kE 0 (fun E H=>gE0 H) (kR (resK [(.tmp 4)] []) k)))) gE0 (fun v0 v1 v5 H=>vr20SameC7S cal O N gE0 n v0 v1 v5 H) (fun _ _=>by kernel_rfl) (fun _ _=>by kernel_rfl) (fun _ _=>by kernel_rfl) E H).trans (by kernel_rfl)
def vr20SameC8S (cal:CB)(O:Oracle)(N:Nat)(gN:Heap->OH)(v0 v1 v5:IV)(H:Heap):OH :=
  vr20SameC7S cal O N (fun H=>gN H) N v0 v1 v5 H
theorem vr20SameC8Eq (cal:CB)(O:Oracle)(N:Nat){k:KT (IV×Heap)}(gN:Heap->OH)(hgN:∀E H,k .normal E H=gN H)(hR:∀E H,k .ret E H=resK [(.tmp 4)] [] E H):∀(E:Sg) (H:Heap),lxK cal O N vr20SameC8 E H k=vr20SameC8S cal O N gN (lk E 0) (lk E 1) (lk E 5) H:=by
 have hk:k=(kN (fun E H=>gN H) (kR (resK [(.tmp 4)] []) k)):=(kN_mk hgN (kR_mk hR rfl));intro E H;rw[hk];show lxK cal O N vr20SameC7 E H (blockK 0 (kN (fun E H=>gN H) (kR (resK [(.tmp 4)] []) k)))=_;exact(vr20SameC7Eq cal O N (k:=(blockK 0 (kN (fun E H=>gN H) (kR (resK [(.tmp 4)] []) k)))) gN (fun _ _=>by kernel_rfl) (fun _ _=>by kernel_rfl) N E H).trans (by kernel_rfl)
def vr20SameC9S (cal:CB)(O:Oracle)(N:Nat)(gN:Heap->OH)(v0 v1:IV)(H:Heap):OH :=
  vr20SameC8S cal O N (fun H=>gN H) v0 v1 (.int .i64 0) H
theorem vr20SameC9Eq (cal:CB)(O:Oracle)(N:Nat){k:KT (IV×Heap)}(gN:Heap->OH)(hgN:∀E H,k .normal E H=gN H)(hR:∀E H,k .ret E H=resK [(.tmp 4)] [] E H):∀(E:Sg) (H:Heap),lxK cal O N vr20SameC9 E H k=vr20SameC9S cal O N gN (lk E 0) (lk E 1) H:=by
 have hk:k=(kN (fun E H=>gN H) (kR (resK [(.tmp 4)] []) k)):=(kN_mk hgN (kR_mk hR rfl));intro E H;rw[hk];show lxK cal O N (.reg [ qO 5 (.mv (k6 0))]) E H (seqK (lxK cal O N vr20SameC8) (kN (fun E H=>gN H) (kR (resK [(.tmp 4)] []) k)))=_;rw[seqK_mk (g:=fun E H=>vr20SameC8S cal O N gN (lk E 0) (lk E 1) (lk E 5) H) (vr20SameC8Eq cal O N (k:=(kN (fun E H=>gN H) (kR (resK [(.tmp 4)] []) k))) gN (fun _ _=>by kernel_rfl) (fun _ _=>by kernel_rfl))];kernel_rfl
def vr20SameC10S (cal:CB)(O:Oracle)(N:Nat)(v0 v1:IV)(H:Heap):OH :=
  vr20SameC9S cal O N (fun H=>some ((.bool true),H)) v0 v1 H
theorem vr20SameC10Eq (cal:CB)(O:Oracle)(N:Nat){k:KT (IV×Heap)}(hR:∀E H,k .ret E H=resK [(.tmp 4)] [] E H):∀(E:Sg) (H:Heap),lxK cal O N vr20SameC10 E H k=vr20SameC10S cal O N (lk E 0) (lk E 1) H:=by
 have hk:k=(kR (resK [(.tmp 4)] []) k):=(kR_mk hR rfl);intro E H;rw[hk];show lxK cal O N vr20SameC9 E H (seqK (lxK cal O N (.seq (.reg [ qO 4 (.mv (.k (.bool true)))]) .ret)) (kR (resK [(.tmp 4)] []) k))=_;exact(vr20SameC9Eq cal O N (k:=(seqK (lxK cal O N (.seq (.reg [ qO 4 (.mv (.k (.bool true)))]) .ret)) (kR (resK [(.tmp 4)] []) k))) (fun H=>some ((.bool true),H)) (fun _ _=>by kernel_rfl) (fun _ _=>by kernel_rfl) E H).trans (by kernel_rfl)
def vr20SameC11S (cal:CB)(O:Oracle)(N:Nat)(v0 v1:IV)(H:Heap):OH :=
 ob (llen H .slice v0) fun t1 =>ob (llen H .slice v1) fun t2 =>ob (lbin .neq t1 t2) fun t3 =>cnd t3
 (some ((.bool false),H))
  (vr20SameC10S cal O N v0 v1 H)
theorem vr20SameC11Eq (cal:CB)(O:Oracle)(N:Nat){k:KT (IV×Heap)}(hR:∀E H,k .ret E H=resK [(.tmp 4)] [] E H):∀(E:Sg) (H:Heap),lxK cal O N vr20SameC11 E H k=vr20SameC11S cal O N (lk E 0) (lk E 1) H:=by
 have hk:k=(kR (resK [(.tmp 4)] []) k):=(kR_mk hR rfl);intro E H;rw[hk];show lxK cal O N X10K17 E H (seqK (lxK cal O N vr20SameC10) (kR (resK [(.tmp 4)] []) k))=_;rw[seqK_mk (g:=fun E H=>vr20SameC10S cal O N (lk E 0) (lk E 1) H) (vr20SameC10Eq cal O N (k:=(kR (resK [(.tmp 4)] []) k)) (fun _ _=>by kernel_rfl))];kernel_rfl
def vr20SameC12S (cal:CB)(O:Oracle)(N:Nat)(v0 v1:IV)(H:Heap):OH :=
  vr20SameC11S cal O N v0 v1 H
theorem vr20SameC12Eq (cal:CB)(O:Oracle)(N:Nat){k:KT (IV×Heap)}(hR:∀E H,k .ret E H=resK [(.tmp 4)] [] E H):∀(E:Sg) (H:Heap),lxK cal O N vr20SameC12 E H k=vr20SameC12S cal O N (lk E 0) (lk E 1) H:=by
 have hk:k=(kR (resK [(.tmp 4)] []) k):=(kR_mk hR rfl);intro E H;rw[hk];show lxK cal O N (.reg [ qO 4 (.mv (.k (.bool false)))]) E H (seqK (lxK cal O N vr20SameC11) (kR (resK [(.tmp 4)] []) k))=_;rw[seqK_mk (g:=fun E H=>vr20SameC11S cal O N (lk E 0) (lk E 1) H) (vr20SameC11Eq cal O N (k:=(kR (resK [(.tmp 4)] []) k)) (fun _ _=>by kernel_rfl))];kernel_rfl
def vr20Same :LFun:=⟨vr20SameC12,[(.tmp 4)],53⟩
def vr20SameS (cal:CB)(O:Oracle)(N:Nat)(v0 v1:IV)(H:Heap):OH :=
  vr20SameC12S cal O N v0 v1 H
theorem vr20SameEq (cal:CB)(O:Oracle)(N:Nat)(v0 v1:IV)(H:Heap):lrunK cal O N (vr20Same) [v0,v1] H=vr20SameS cal O N v0 v1 H:=by
 show lxK cal O N vr20SameC12 (initFrom 0 [v0,v1]) H (endK [(.tmp 4)])=_;exact vr20SameC12Eq cal O N (k:=(endK [(.tmp 4)])) (fun _ _=>by kernel_rfl) (initFrom 0 [v0,v1]) H
end Go.Shade
namespace Go.Shade
variable {H : Heap} {bs : List UInt8} {n : Nat}
def padN (n:Nat)(bs:List UInt8):List UInt8:=bs.take n++List.replicate (n - bs.length) 0
theorem padN_len (n:Nat)(bs:List UInt8):(padN n bs).length=n:=by simp[padN];omega
theorem padN_get {i:Nat}(hi:i<n):(padN n bs)[i]? =some (bs.getD i 0):=by
 unfold padN;by_cases h:i<bs.length
 ·rw[List.getElem?_append_left (by simp;omega),List.getElem?_take,if_pos hi,List.getD_eq_getElem?_getD,List.getElem?_eq_getElem h];rfl
 ·rw[List.getElem?_append_right (by simp;omega),List.getElem?_replicate,if_pos (by simp;omega),List.getD_eq_getElem?_getD,List.getElem?_eq_none (by omega)];rfl
theorem mkS_nat {s b:Nat}{k k':IntKind}{z:List IV}(hb:b*n<=281474976710656)(hn:n<=9223372036854775807):lmkS H s b z (.int k (n:Nat)) (.int k' (n:Nat))=some (.slice H.length 0 n n true s,H++[.row (zrep n z) false]):=by
 unfold lmkS;simp only;rw[if_pos ⟨by omega,by omega,by rw[←Int.natCast_mul];omega,by omega⟩];rfl
theorem zrep_zero (n:Nat):zrep n [.int .u8 0]=bytes (List.replicate n 0):=by
 induction n with
 | zero=>rfl
 | succ n ih=>simp only[zrep,bytes,List.replicate_succ,List.flatten_cons,List.map_cons]at ih ⊢;rw[ih];rfl
theorem zrep_nil (n:Nat):zrep n [IV.nilSlice]=List.replicate n .nilSlice:=by
 induction n with
 | zero=>rfl
 | succ n ih=>simp only[zrep,List.replicate_succ,List.flatten_cons]at ih ⊢;rw[ih];rfl
theorem put0 {cs vs:List IV}(h:vs.length<=cs.length):putAt cs 0 vs=vs++cs.drop vs.length:=by
 unfold putAt;split
 ·rename_i v
  cases cs with
  | nil=>simp at h
  | cons c cs=>rfl
 ·simp
theorem bnd_nat {d:Nat}{k:IntKind}:bnd d (some (.int k (n:Nat)))=some n:=by
 show(if(0:Int)<=(n:Nat)then some ((n:Int).toNat)else none)=_;rw[if_pos (by omega),Int.toNat_natCast]
theorem bytes_get {l:List UInt8}{i:Nat}{x:UInt8}(h:l[i]? =some x):(bytes l)[i]? =some (.int .u8 x.toNat):=by simp[bytes,h]
theorem cpy_pad {H:Heap}{q n:Nat}{ex:Bool}{v:IV}{bs:List UInt8} (hq:H[q]? =some (.row (bytes (List.replicate n 0)) false)) (hv:BS H v bs) :
  lcpy H 1 (.slice q 0 n n ex 1) v=some (.int .i64 (min bs.length n:Nat),H.set q (.row (bytes (padN n bs)) false)):=by
 have hx:xlen v=some bs.length:=hv.cells.1;have hd:xlen (.slice q 0 n n ex 1)=some n:=rfl;have hcopy:lcopy H 1 (.slice q 0 n n ex 1) v=some (.val (.int .i64 (min bs.length n:Nat)),H.set q (.row (bytes (padN n bs)) false)):=by
  unfold lcopy;rw[hx,hd];simp only[Option.bind_some];by_cases h0:min bs.length n=0
  ·rw[if_pos h0,h0];have:padN n bs=List.replicate n 0:=by
    unfold padN;rcases Nat.eq_zero_or_pos n with e | e
    ·subst e;simp
    ·have:bs=[]:=List.length_eq_zero_iff.1 (by omega);subst this;simp
   rw[this,set_same hq];rfl
  ·rw[if_neg h0];have hc:lxcells H 1 v (min bs.length n)=some (bytes (bs.take (min bs.length n))):=by
    rcases hv with⟨rfl,rfl⟩ | ⟨b,o,k,lb,ex',sz,rfl,h1,h2,h3,h4⟩
    ·simp at h0
    ·subst h3;show lsl H 1 (.slice b o bs.length lb ex' sz) (min bs.length n)=_;simp only[lsl];rw[if_pos (by omega),if_neg h0];obtain⟨cells,ro,g1,g2⟩:=h4 (by omega);have hlast:=g2 (min bs.length n - 1) (by omega);have hlen:=(ges hlast).1;simp only[irow,g1,Nat.mul_one];rw[if_pos (by omega)]
     congr 1
     apply List.ext_getElem?;intro i;by_cases hi:i<min bs.length n
     ·rw[List.getElem?_take,if_pos hi,List.getElem?_drop,g2 i (by omega)];simp[bytes,hi,List.getD_eq_getElem?_getD,List.getElem?_take,show i<bs.length by omega]
     ·rw[List.getElem?_eq_none (by simp;omega),List.getElem?_eq_none (by simp[bytes];omega)]
   rw[hc,hq];simp only[Option.bind_some];have hnl:(bytes (bs.take (min bs.length n))).length=min bs.length n:=by rw[bytes_length,List.length_take];omega
   rw[if_pos ⟨bytes_one _,by omega⟩];unfold cpyRow;rw[if_pos (by rw[hnl,bytes_length,List.length_replicate];omega)];simp only[Option.bind_some,Option.some.injEq,Prod.mk.injEq,true_and]
   congr 2
   rw[put0 (by rw[hnl,bytes_length,List.length_replicate];omega),hnl];unfold padN;rw[bytes_append]
   congr 1
   ·congr 1
    rcases Nat.le_total bs.length n with h | h
    ·rw[Nat.min_eq_left h,List.take_of_length_le (Nat.le_refl _),List.take_of_length_le h]
    ·rw[Nat.min_eq_right h]
   ·unfold bytes;rw[←List.map_drop,List.drop_replicate]
    congr 2
    omega
 unfold lcpy;rw[hcopy]
theorem BS.cut {v:IV}(h:BS H v bs)(hl:low H.length v){k:Nat}(hk:k<=bs.length) :
  ∃v',lslice H (.slice 1) v (some (.int .i64 (k:Nat))) (some (.int .i64 (bs.length:Nat))) (some (.int .i64 (bs.length:Nat)))=some v'/\BS H v' (bs.drop k)/\low H.length v'/\v'.one=true:=by
 rcases h with⟨rfl,rfl⟩ | ⟨b,o,n,lb,ex,sz,rfl,h1,h2,h3,h4⟩
 ·have:k=0:=by simpa using hk
  subst this;exact⟨.nilSlice,rfl,.inl ⟨rfl,rfl⟩,lowNil,rfl⟩
 ·subst h3;refine⟨.slice b (o+k*1) (bs.length - k) (bs.length - k) true sz,?_,?_,lowAt (hl _ _ _ _ _ _ rfl),rfl⟩
  ·simp only[lslice,bnd_nat,Option.bind_some];rw[if_neg (by omega),if_pos ⟨rfl,hk,Nat.le_refl _,h1⟩]
  ·refine .inr ⟨b,o+k*1,bs.length - k,bs.length - k,true,sz,rfl,Nat.le_refl _,h2,by simp,fun hn=> ?_⟩;obtain⟨cells,ro,g1,g2⟩:=h4 (by omega);refine⟨cells,ro,g1,fun i hi=> ?_⟩;have:=g2 (k+i) (by omega);rw[show o+k*1+i=o+(k+i) by omega,this];simp[List.getD_eq_getElem?_getD]
theorem Thr.push {B q:Nat}{own:Nat->Nat}{T:List (List Cl)}(h:Thr B q own H T)(X:Heap):Thr B q own (H++X) T:=by
 obtain⟨vs,h1,h2,h3⟩:=h.row;have k:Frame NoF H (H++X):=⟨by simp,fun i hi _=>List.getElem?_append_left hi⟩;refine⟨⟨vs,k.get (fun h=>h) h1,h2,fun t c hc=> ?_⟩,h.lq,Nat.le_trans h.lB (by simp),fun j hj=>Nat.lt_of_lt_of_le (h.lt j hj) (by simp)⟩;obtain⟨w,a,b⟩:=h3 t c hc;exact⟨w,a,b.frame k fun _ _ h=>h⟩
def scN (bs:List UInt8):Nat:=1+(bs.getD 0 0).toNat % 64
def scM (bs:List UInt8):Nat:=(bs.getD 1 0).toNat
def scP (bs:List UInt8):List UInt8:=padN (scM bs) (bs.drop 2)
def scL (bs:List UInt8):List Cl:=dec 200 ((bs.drop 2).drop (scM bs))
def ScrDecOk (O:Oracle)(f:FuncId):Prop:=∀(H:Heap) (v:IV) (bs:List UInt8),v.one=true->low H.length v->BS H v bs ->
 Wp (O f [v] H) fun r=>∃tv p,r.1=.tuple [tv,.slice p 0 (scM bs) (scM bs) true 1]/\TV r.2 tv (deal (scN bs) (scL bs))/\H.length<=p/\r.2[p]? =some (.row (bytes (scP bs)) false)/\Kp H r.2
section
variable {cal : FuncId -> Bool} {O : Oracle} {N : Nat} {fd : FuncId}
theorem scd_loop {q r B:Nat}{l:List Cl}{v7:IV}{K:Heap}{gE:IV->IV->Heap->Option (IV×Heap)}{R:Out->Prop}(hn:0<n)(hn64:n<=64)(hl:l.length<=200){ex:Bool}(hrB:r<B)(hrq:r≠q)(hr:K[r]? =some (.row (flat7 l) false))(hE:∀H own,Thr B q own H (deal n l)->(∀i,i<B->i≠q->H[i]? =K[i]?)->K.length<=H.length->Wp (gE (.slice q 0 n n true 1) v7 H) R) :
  ∀(d i k:Nat) (H:Heap) (own:Nat->Nat),i+d=l.length->d<k->Thr B q own H (deal n (l.take i))->(∀j,j<B->j≠q->H[j]? =K[j]?)->K.length<=H.length ->
   Wp (scriptDecodeC0S cal O N fd gE k (.slice q 0 n n true 1) v7 (.slice r 0 l.length l.length ex 7) (.int .i64 (l.length:Nat)) (.int .i64 (i:Nat)) H) R:=by
 intro d
 induction d with
 | zero =>
  intro i k H own hi hk hT hF hKH;obtain⟨k,rfl⟩:∃j,k=j+1:=⟨k - 1,by omega⟩;rw[scriptDecodeC0S,lbin_lss,ob_some,decide_eq_false (by omega),cnd_false];rw[List.take_of_length_le (by omega)]at hT;exact hE H own hT hF hKH
 | succ d ih =>
  intro i k H own hi hk hT hF hKH;obtain⟨k,rfl⟩:∃j,k=j+1:=⟨k - 1,by omega⟩;have hlt:i<l.length:=by omega
  have hrH:H[r]? =some (.row (flat7 l) false):=by rw[hF r hrB hrq];exact hr
  have hcs:CS H (.slice r 0 l.length l.length ex 7) l:=Buf.calls (B:=0) (.inr ⟨r,l.length,ex,rfl,Nat.zero_le _,hrH,by rw[flat7_length]⟩);obtain⟨b,o,x1,x2⟩:=hcs.at (List.getElem?_eq_getElem hlt);generalize hce:l[i]=c at *;rw[scriptDecodeC0S,lbin_lss,ob_some,decide_eq_true (by omega),cnd_true,x1,ob_some,x2,ob_some,lzbox_eq,ob_some];simp only[cells_agg];rw[stn (n:=7) newRow rfl rfl rfl,setRow,ob_some];simp only;have hT1:=hT.push [IObj.row c.cells false];have ht:i % n<n:=Nat.mod_lt _ hn;have hg:=deal_get ht (l.take i);have hc0:(thr n (l.take i) (i % n)).length<=1000:=by
   have h1:=thr_len ht (l.take i);have h2:((l.take i).length+(n - 1 - i % n)) / n<=(l.take i).length+(n - 1 - i % n):=Nat.div_le_self _ _;rw[List.length_take]at h1 h2;rw[h1];omega
  obtain⟨w,y1,y2⟩:=hT1.app hg hc0 c;have rq:∀X:Heap,lload1 ((H++[IObj.row c.cells false])++X) (.ptr q (i % n))=some w:=fun X=>by
   rw[←y1];obtain⟨vs,hv,_⟩:=hT1.row;exact(Kp.push (H++[IObj.row c.cells false]) X).ld1 (ges hv).1
  have hrem:lbin .rem (.int .i64 (i:Nat)) (.int .i64 (n:Nat))=some (.int .i64 ((i % n:Nat):Int)):=by
   rw[lbin_rem (by omega),Int.tmod_eq_emod_of_nonneg (by omega)];rfl
  have hix:lix 1 (.slice q 0 n n true 1) (.int .i64 ((i % n:Nat):Int))=some (.ptr q (i % n)):=by
   rw[lix_slice,if_pos (by omega),Int.toNat_natCast,Nat.mul_one,Nat.zero_add]
  have hbl:lbldS (H++[IObj.row c.cells false]) 7 1 [(.int .i64 0),(.int .i64 0),(.int .i64 0),(.int .i64 0),(.int .i64 0),(.str []),(.str [])] [(0,.agg c.cells)]=some (.slice (H++[IObj.row c.cells false]).length 0 1 1 true 7,(H++[IObj.row c.cells false])++[.row c.cells false]):=rfl;rw[llen_slice,ob_some,hrem,ob_some,hix,ob_some,y1,ob_some,ldn (n:=7) newRow rfl,ob_some,hbl,ob_some];simp only;refine Wp.call y2 ?_;rintro⟨v',H2⟩ ⟨H3,own',z1,z2,z3,z4⟩;simp only at z1 z4 ⊢;rw[ob_some,z1,ob_some,rq];simp only[ivo_refl,Bool.not_true,Bool.not_false,Bool.false_or,Bool.and_self,ckd_true];have wi:IntKind.wrap .i64 ((i:Int)+1)=((i+1:Nat):Int):=by rw[wrap_i64 (by omega) (by omega)];omega
  rw[lbin_add,ob_some,wi];have htk:l.take (i+1)=l.take i++[c]:=by rw[List.take_add_one,List.getElem?_eq_getElem hlt,hce];rfl
  have hti:(l.take i).length=i:=by rw[List.length_take];omega
  have hd:=deal_snoc hn (l.take i) c;rw[hti]at hd;rw[←hd,←htk]at z2;have lB:=hT.lB;refine ih (i+1) k H3 own' (by omega) (by omega) z2 (fun j hj hne=> ?_) ?_
  ·rw[z3 j hj hne,List.getElem?_append_left (by omega)];exact hF j hj hne
  ·simp at z4;omega
theorem scd_s (hD:DecOk O fd)(hN:1000<N){v:IV}(hv:v.one=true)(hl:low H.length v)(hb:BS H v bs) :
  Wp (scriptDecodeS cal O N fd v H) fun r=>∃tv p,r.1=.tuple [tv,.slice p 0 (scM bs) (scM bs) true 1]/\TV r.2 tv (deal (scN bs) (scL bs))/\H.length<=p/\r.2[p]? =some (.row (bytes (scP bs)) false)/\Kp H r.2:=by
 unfold scriptDecodeS scriptDecodeC10S scriptDecodeC9S;have e1:=mkS_nat (H:=H) (s:=1) (b:=1) (n:=2) (k:=.i64) (k':=.i64) (z:=[.int .u8 0]) (by omega) (by omega);rw[show(IV.int .i64 2)=IV.int .i64 ((2:Nat):Int)from rfl,e1,ob_some];simp only;unfold scriptDecodeC8S;have k1:Kp H (H++[IObj.row (zrep 2 [.int .u8 0]) false]):=Kp.push _ _;have r1:(H++[IObj.row (zrep 2 [.int .u8 0]) false])[H.length]? =some (.row (bytes (List.replicate 2 0)) false):=by rw[newRow,zrep_zero]
 have hb1:=hb.keep' hl k1;rw[cpy_pad r1 hb1,ob_some];simp only;have k2:Kp H ((H++[IObj.row (zrep 2 [.int .u8 0]) false]).set H.length (.row (bytes (padN 2 bs)) false)):=Keep.trans k1 (Keep.set _ _ (Nat.le_refl _));have r2:=setAt (o':=IObj.row (bytes (padN 2 bs)) false) r1;have len2:((H++[IObj.row (zrep 2 [.int .u8 0]) false]).set H.length (.row (bytes (padN 2 bs)) false)).length=H.length+1:=by simp
 generalize (H++[IObj.row (zrep 2 [.int .u8 0]) false]).set H.length (.row (bytes (padN 2 bs)) false)=H2 at *;have hb2:=hb.keep' hl k2;have hl2:low H2.length v:=low_mono hl k2.2;unfold scriptDecodeC7S;obtain⟨v3,e3,b3,l3,o3⟩:=hb2.cut hl2 (k:=min bs.length 2) (Nat.min_le_left _ _);have hdrop:bs.drop (min bs.length 2)=bs.drop 2:=by
  rcases Nat.le_total bs.length 2 with h | h
  ·rw[Nat.min_eq_left h,List.drop_of_length_le (Nat.le_refl _),List.drop_of_length_le h]
  ·rw[Nat.min_eq_right h]
 rw[hdrop]at b3;rw[hb2.len,ob_some,ob_some,e3,ob_some];unfold scriptDecodeC6S;have x0:lload1 H2 (.ptr H.length 0)=some (.int .u8 ((bs.getD 0 0).toNat:Int)):=by rw[lload1_ptr,r2];exact bytes_get (padN_get (by omega))
 have x1:lload1 H2 (.ptr H.length 1)=some (.int .u8 ((bs.getD 1 0).toNat:Int)):=by rw[lload1_ptr,r2];exact bytes_get (padN_get (by omega))
 have i0:lix 1 (.slice H.length 0 2 2 true 1) (.int .i64 0)=some (.ptr H.length 0):=rfl;have i1:lix 1 (.slice H.length 0 2 2 true 1) (.int .i64 1)=some (.ptr H.length 1):=rfl;have c0:(bs.getD 0 0).toNat<256:=(bs.getD 0 0).toNat_lt;have c1:(bs.getD 1 0).toNat<256:=(bs.getD 1 0).toNat_lt;have hnn:lbin .rem (.int .i64 ((bs.getD 0 0).toNat:Int)) (.int .i64 64)=some (.int .i64 (((bs.getD 0 0).toNat % 64:Nat):Int)):=by
  rw[lbin_rem (by omega),Int.tmod_eq_emod_of_nonneg (by omega)];rfl
 have hadd:lbin .add (.int .i64 1) (.int .i64 (((bs.getD 0 0).toNat % 64:Nat):Int))=some (.int .i64 ((scN bs:Nat):Int)):=by
  rw[lbin_add,wrap_i64 (by omega) (by omega)];unfold scN
  congr 2
 have hsn:0<scN bs/\scN bs<=64:=by unfold scN;omega
 have w0:IntKind.wrap .i64 ((bs.getD 0 0).toNat:Int)=((bs.getD 0 0).toNat:Int):=wrap_i64 (by omega) (by omega);rw[i0,ob_some,x0,ob_some,lcvt_int,ob_some,w0,hnn,ob_some,hadd,ob_some,mkS_nat (by omega) (by omega),ob_some];simp only;unfold scriptDecodeC5S;have k3:Kp H2 (H2++[IObj.row (zrep (scN bs) [.nilSlice]) false]):=Kp.push _ _;have x1':lload1 (H2++[IObj.row (zrep (scN bs) [.nilSlice]) false]) (.ptr H.length 1)=some (.int .u8 ((scM bs:Nat):Int)):=by rw[k3.ld1 (by omega)];exact x1
 have r3:(H2++[IObj.row (zrep (scN bs) [.nilSlice]) false])[H2.length]? =some (.row (List.replicate (scN bs) .nilSlice) false):=by rw[newRow,zrep_nil]
 rw[i1,ob_some,x1',ob_some];have len3:(H2++[IObj.row (zrep (scN bs) [.nilSlice]) false]).length=H2.length+1:=by simp
 generalize H2++[IObj.row (zrep (scN bs) [.nilSlice]) false]=H3 at *;have hm:scM bs<256:=c1;rw[mkS_nat (by omega) (by omega),ob_some];simp only;unfold scriptDecodeC4S;have k4:Kp H3 (H3++[IObj.row (zrep (scM bs) [.int .u8 0]) false]):=Kp.push _ _;have r4:(H3++[IObj.row (zrep (scM bs) [.int .u8 0]) false])[H3.length]? =some (.row (bytes (List.replicate (scM bs) 0)) false):=by rw[newRow,zrep_zero]
 have b4:=(b3.keep' l3 k3).keep' (low_mono l3 k3.2) k4;rw[cpy_pad r4 b4,ob_some];simp only;have k5:Kp H3 ((H3++[IObj.row (zrep (scM bs) [.int .u8 0]) false]).set H3.length (.row (bytes (padN (scM bs) (bs.drop 2))) false)):=Keep.trans k4 (Keep.set _ _ (Nat.le_refl _));have r5:=setAt (o':=IObj.row (bytes (padN (scM bs) (bs.drop 2))) false) r4;have len5:((H3++[IObj.row (zrep (scM bs) [.int .u8 0]) false]).set H3.length (.row (bytes (padN (scM bs) (bs.drop 2))) false)).length=H3.length+1:=by simp
 generalize (H3++[IObj.row (zrep (scM bs) [.int .u8 0]) false]).set H3.length (.row (bytes (padN (scM bs) (bs.drop 2))) false)=H5 at *;have b5:=(b3.keep' l3 k3).keep' (low_mono l3 k3.2) k5;have l5:low H5.length v3:=low_mono l3 (Nat.le_trans k3.2 k5.2);have rT:=k5.get r3;unfold scriptDecodeC3S scriptDecodeC2S;obtain⟨v6,e6,b6,l6,o6⟩:=b5.cut l5 (k:=min (bs.drop 2).length (scM bs)) (Nat.min_le_left _ _);have hdrop2:(bs.drop 2).drop (min (bs.drop 2).length (scM bs))=(bs.drop 2).drop (scM bs):=by
  rcases Nat.le_total (bs.drop 2).length (scM bs)with h | h
  ·rw[Nat.min_eq_left h,List.drop_of_length_le (Nat.le_refl _),List.drop_of_length_le h]
  ·rw[Nat.min_eq_right h]
 rw[hdrop2]at b6;rw[b5.len,ob_some,ob_some,e6,ob_some,hD H5 v6 _ o6 l6 b6];have kHH:Kp H H5:=Kp.tr k2 (Kp.tr k3 k5);have hll:(scL bs).length<=200:=dec_len 200 _;have hp5:∀K:Heap,Kp H5 K->K[H3.length]? =some (.row (bytes (scP bs)) false):=fun K k=>k.get r5;show Wp (ob (if scL bs=[]then some (IV.nilSlice,H5)else some (IV.slice H5.length 0 (scL bs).length (scL bs).length false 7,H5++[.row (flat7 (scL bs)) false])) _) _;by_cases h0:scL bs=[]
 ·rw[if_pos h0,ob_some,llen_nil,ob_some];unfold scriptDecodeC1S;obtain⟨N',rfl⟩:∃j,N=j+1:=⟨N - 1,by omega⟩;rw[scriptDecodeC0S,lbin_lss,ob_some,decide_eq_false (by omega),cnd_false];refine⟨_,rfl,_,H3.length,rfl,?_,by have:=k2.2;omega,hp5 _ (Kp.refl _),kHH⟩;rw[h0];exact(Thr.start rT).tv (deal_len _ _)
 ·rw[if_neg h0,ob_some,llen_slice,ob_some];unfold scriptDecodeC1S;have k6:Kp H5 (H5++[IObj.row (flat7 (scL bs)) false]):=Kp.push _ _;have r6:(H5++[IObj.row (flat7 (scL bs)) false])[H5.length]? =some (.row (flat7 (scL bs)) false):=newRow;have len6:(H5++[IObj.row (flat7 (scL bs)) false]).length=H5.length+1:=by simp
  have rT6:=k6.get rT;generalize H5++[IObj.row (flat7 (scL bs)) false]=H6 at *;have hlt2:H2.length<H5.length:=(ges rT).1;refine scd_loop (q:=H2.length) (r:=H5.length) (B:=H6.length) (K:=H6) hsn.1 hsn.2 hll (by omega) (by omega) r6 (fun K own hT hF hKK=> ?_) _ 0 N H6 _ (Nat.zero_add _) (by omega) (by rw[List.take_zero];exact Thr.start rT6) (fun _ _ _=>rfl) (Nat.le_refl _);refine⟨_,rfl,_,H3.length,rfl,hT.tv (deal_len _ _),by have:=k2.2;omega,?_,?_⟩
  ·rw[hF _ (by omega) (by omega)];exact hp5 _ k6
  ·refine⟨fun i hi=> ?_,Nat.le_trans (Nat.le_trans kHH.2 k6.2) hKK⟩;have:=k2.2;rw[hF i (by omega) (by omega)];exact(k6.1 i (by omega)).trans (kHH.1 i hi)
end
end Go.Shade
