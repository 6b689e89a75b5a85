/- The law MergeNames, part 6. -/
import Derived.Test.YtmkjmfegaalcoaaGreatM5
import Derived.Test.YtmkjmfegaalcoaaGreatM2
import Derived.Test.YtmkjmfegaalcoaaGreatM4
import Derived.Test.YtmkjmfegaalcoaaGreatM3
import Derived.KernelRfl
import Derived.Test.YtmkjmfegaalcoaaGreatRows
import Derived.Shelf.SlSortCmp.Whole1
import Derived.WalkKit
set_option linter.all false
namespace Go.Shade
variable {H K : Heap} {R R1 cs : List IV} {b c i j s : Nat} {own own1 : Nat -> Nat} {v : IV}
structure RL (c:Nat)(own:Nat->Nat)(H:Heap)(b s:Nat)(own1:Nat->Nat)(K:Heap)(R1:List IV):Prop where
 rb:RB c own1 K b s R1
 fr:Frame (fun j=>own j≠0) H K
 fh:∀j,own1 j≠0->own j≠0∨H.length<=j
theorem RL.ra (h:RL c own H b s own1 K R1):RA c own H b s K:=⟨own1,R1,h.rb,h.fr,h.fh⟩
theorem RL.refl {c:Nat}{own:Nat->Nat}{H:Heap}{b s:Nat}{R:List IV}(h:RB c own H b s R):RL c own H b s own H R:=⟨h,Frame.refl _ _,fun _ h=>.inl h⟩
theorem RL.of (h:RL c own H b s own1 K R1){own2:Nat->Nat}{K2:Heap}{R2:List IV}(k:RL c own1 K b s own2 K2 R2):RL c own H b s own2 K2 R2 :=
 ⟨k.rb,h.fr.trans k.fr fun j hj hw=>by rcases h.fh j hw with h | h;exact h;omega,fun j hj=>by
  rcases k.fh j hj with g | g
  ·exact h.fh j g
  ·exact .inr (Nat.le_trans h.fr.1 g)⟩
theorem RL.ex (h:RL c own H b s own1 K R1){K2:Heap}(k:RA c own1 K b s K2):∃own2 R2,RL c own H b s own2 K2 R2:=by
 obtain⟨own2,R2,k1,k2,k3⟩:=k;exact⟨own2,R2,h.of ⟨k1,k2,k3⟩⟩
theorem RL.sl {s' n:Nat}(h:RL c own H b s own1 K R1)(hs:Sl s' H v n cs)(ha:At (fun j=>own j=0) v):Sl s' K v n cs:=hs.frame h.fr (ha.mono fun j hj hn=>hn hj)
section
variable {cal : FuncId -> Bool} {O : Oracle} {N : Nat}
theorem rb_grow {c:Nat}{own:Nat->Nat}{H:Heap}{b s i k:Nat}{R:List IV}(h:RB c own H b s R)(hi:i<=200)(hk:k=5∨k=6){v x:IV}{cs:List IV}(hT:TS 1 (fun j=>own j=3*i+(k - 4)) H v cs)(hx:x.one=true)(hl:cs.length<=70000)
  (hcell:∀(own':Nat->Nat) (K:Heap) (w:IV),TS 1 (fun j=>own' j=3*i+(k - 4)) K w (cs++[x])->RCell c own' K i k w) {G:Heap->Option (IV×Heap)} {Q:Out->Prop}
  (hG:∀own' K R' w,RL c own H b s own' K R'->R'[1+9*i+k]? =some w->TS 1 (fun j=>own' j=3*i+(k - 4)) K w (cs++[x])->Wp (G K) Q) :
  Wp (ob (lapp (H++[IObj.row [x] false]) 1 1 v (.slice H.length 0 1 1 true 1)) fun r10=>ob (lstV r10.2 1 (.ptr b (1+i*9+k)) r10.1) fun r13=>G r13.2) Q:=by
 have k1:Frame NoF H (H++[IObj.row [x] false]):=Frame.push _ _ _;have r1:(H++[IObj.row [x] false])[H.length]? =some (.row [x] false):=newRow;have l1:(H++[IObj.row [x] false]).length=H.length+1:=by simp
 have h1:=h.kp k1;have hT1:=hT.frame k1 fun _ _ h=>h;generalize H++[IObj.row [x] false]=H1 at *;refine Wp.call (hT1.app (b:=1) (new:=[x]) (by omega) rfl (by simp[lxcells,lsl,irow,r1]) rfl (by simp[hx]) (by omega)) ?_;rintro⟨w,K⟩ ⟨g1,g2⟩;simp only at g1 g2 ⊢;have hrow:K[b]? =some (.row R false):=g1.get (by have:=h.ob;omega) h1.row;have hP:∀j,(H1.length<=j/\j<K.length)->own j=3*i+(k - 4)∨H1.length<=j:=fun j hj=>.inr hj.1;have hP0:∀j,(H1.length<=j/\j<K.length)->own j=3*i+(k - 4)∨own j=0:=fun j hj=>.inr (h1.new0 hj.1);have hT2:TS 1 (fun j=>ownSet own (3*i+(k - 4)) (fun j=>H1.length<=j/\j<K.length) j=3*i+(k - 4)) K w (cs++[x]):=g2.mono fun j hj=>(ownSet_same (own:=own) (by omega) j).1 hj;have hone:=g2.one;have u:=h1.upd (c':=c) (i:=i) (k:=k) (v:=w) (Nat.le_refl _) hi (by omega) (by omega) g1 hP (fun j hj=>hj.2) (hcell _ K w hT2);have hb':b<K.length:=(ges hrow).1;rw[show 1+i*9+k=1+9*i+k by omega,st1 hrow hone (by rw[h.len];omega),ob_some];have kF:Frame (fun j=>j=b) K (K.set b (.row (R.set (1+9*i+k) w) false)):=Frame.set _ _ rfl;refine hG _ _ _ w ⟨u,?_,fun j hj=> ?_⟩ (List.getElem?_set_self (by rw[h.len];omega)) (hT2.frame kF fun j hj e=> ?_)
 ·exact k1.no.tr ((g1.mono fun j hj=>by omega).tr (kF.mono fun j hj=>by subst hj;have:=h.ob;omega))
 ·rcases ownSet_ok hP j hj (by omega)with h' | h'
  ·exact .inl h'
  ·exact .inr (by omega)
 ·subst e;have:=(ownSet_ne hP0 (u:=701) (by omega) (by decide) j).1 h.ob;omega
def RFileOk (O:Oracle)(f:FuncId):Prop:=∀(c:Nat) (own:Nat->Nat) (H:Heap) (b s:Nat) (R:List IV) (i:Int),RB c own H b s R->∃e:Int,O f [.ptr b 0,.int .i64 i] H=some (.int .i64 e,H)/\(e=0->1<=i/\i<=200)
theorem rfile_s {fk:FuncId}(hk:RKindOk O fk){i:Int}(h:RB c own H b s R):∃e:Int,R5FileS cal O N fk (.ptr b 0) (.int .i64 i) H=some (.int .i64 e,H)/\(e=0->1<=i/\i<=200):=by
 unfold R5FileS;obtain⟨k,e,hr⟩:=hk c own H b s R i h;rw[e,ob_some];simp only;rw[lbin_eql,ob_some]
 cases decide (k=0)with
 | true=>rw[cnd_true];exact⟨2,rfl,fun e=>by cases e⟩
 | false =>
  rw[cnd_false,lbin_eql,ob_some]
  cases decide (k=2)with
  | true=>rw[cnd_true];exact⟨21,rfl,fun e=>by cases e⟩
  | false =>
   rw[cnd_false,lbin_eql,ob_some];by_cases h1:k=1
   ·rw[decide_eq_true h1,cnd_true];exact⟨0,rfl,fun _=>hr (by omega)⟩
   ·rw[decide_eq_false h1,cnd_false];exact⟨22,rfl,fun e=>by cases e⟩
def RThereOk (O:Oracle)(f:FuncId):Prop:=∀(c:Nat) (own:Nat->Nat) (H:Heap) (b s:Nat) (R:List IV) (i j:Nat),RB c own H b s R->i<=200->∃t:Bool,O f [.ptr b (1+i*9+5),.int .i64 (j:Nat)] H=some (.bool t,H)
theorem TS.ix1 {P:Nat->Prop}(h:TS 1 P H v cs)(hj:j<cs.length):∃r,P r/\lix 1 v (.int .i64 (j:Nat))=some (.ptr r j)/\H[r]? =some (.row cs false)/\lload1 H (.ptr r j)=some cs[j]:=by
 rcases h with⟨rfl,h2⟩ | ⟨r,n,ex,rfl,h2,h3,h4⟩
 ·subst h2;simp at hj
 ·exact⟨r,h2,by rw[lix_slice,if_pos (by omega)];simp,h3,by rw[ld1 h3];simp[hj]⟩
theorem TS.put {P:Nat->Prop}{r:Nat}{x:IV}(h:TS 1 P H v cs)(hj:j<cs.length)(hr:lix 1 v (.int .i64 (j:Nat))=some (.ptr r j)):TS 1 P (H.set r (.row (cs.set j x) false)) v (cs.set j x):=by
 rcases h with⟨rfl,h2⟩ | ⟨r',n,ex,rfl,h2,h3,h4⟩
 ·subst h2;simp at hj
 ·rw[lix_slice,if_pos (by omega)]at hr;have:r'=r:=by injection hr with hr;injection hr
  subst this;exact .inr ⟨r',n,ex,rfl,h2,setAt h3,by rw[List.length_set];exact h4⟩
theorem there_s (h:RB c own H b s R)(hi:i<=200):∃t:Bool,R3bThereS cal O N (.ptr b (1+i*9+5)) (.int .i64 (j:Nat)) H=some (.bool t,H):=by
 unfold R3bThereS;obtain⟨v,a1,a3,a2⟩:=h.ptr hi (show 6<9 by omega);obtain⟨bs,b1,b2⟩:=RCell.there.1 a2;have a1':lload1 H (.ptr b (1+i*9+5+1))=some v:=a1;simp only[lchk_ptr,loff_ptr,ob_some,a1',b1.len (n:=bs.length) (by omega) (by simp),lbin_lss];by_cases hj:j<bs.length
 ·obtain⟨r,c1,c2,c3,c4⟩:=b1.ix1 (j:=j) (by simpa using hj);rw[decide_eq_true (by omega)];simp only[isB_tt,gq_true,ob_some,lchk_ptr,loff_ptr,a1',c2,c4,lpick_true];rw[List.getElem_map];exact⟨_,rfl⟩
 ·rw[decide_eq_false (by omega)];simp only[isB_ft,gq_false,ob_some,lpick_false];exact⟨_,rfl⟩
def RLayOk (O:Oracle)(f:FuncId):Prop:=∀(c:Nat) (own:Nat->Nat) (H:Heap) (b s:Nat) (R:List IV) (i j:Nat),RB c own H b s R->i<=200->j<4096->Wp (O f [.ptr b (1+i*9+5),.int .i64 (j:Nat)] H) fun r=>RA c own H b s r.2
theorem lay_go (hi:i<=200)(hj:j<4096){gE:IV->IV->Heap->Option (IV×Heap)}{Q:Out->Prop}
  (hk:∀(own1:Nat->Nat) (K:Heap) (R1:List IV) (v:IV) (bs:List Bool),RL c own H b s own1 K R1->R1[1+9*i+6]? =some v->TS 1 (fun j=>own1 j=3*i+2) K v (bs.map .bool)->bs.length<=4096->j<bs.length->Wp (gE (.ptr b (1+i*9+5)) (.int .i64 (j:Nat)) K) Q) :
  ∀(m n:Nat) (own1:Nat->Nat) (K:Heap) (R1:List IV) (v:IV) (bs:List Bool),j+1 - bs.length<=m->m<n->RL c own H b s own1 K R1->R1[1+9*i+6]? =some v->TS 1 (fun j=>own1 j=3*i+2) K v (bs.map .bool)->bs.length<=4096 ->
   Wp (R3bLayC0S cal O N gE n (.ptr b (1+i*9+5)) (.int .i64 (j:Nat)) K) Q:=by
 intro m
 induction m with
 | zero =>
  intro n own1 K R1 v bs hm hn hL hv hT hb;obtain⟨n,rfl⟩:∃j,n=j+1:=⟨n - 1,by omega⟩;have e6:lload1 K (.ptr b (1+i*9+5+1))=some v:=by rw[ld1 hL.rb.row,show 1+i*9+5+1=1+9*i+6 by omega];exact hv
  rw[R3bLayC0S];simp only[lchk_ptr,loff_ptr,ob_some,e6,hT.len (n:=bs.length) (by omega) (by simp),lbin_leq];rw[decide_eq_false (by omega),cnd_false];exact hk own1 K R1 v bs hL hv hT hb (by omega)
 | succ m ih =>
  intro n own1 K R1 v bs hm hn hL hv hT hb;obtain⟨n,rfl⟩:∃j,n=j+1:=⟨n - 1,by omega⟩;have e6:lload1 K (.ptr b (1+i*9+5+1))=some v:=by rw[ld1 hL.rb.row,show 1+i*9+5+1=1+9*i+6 by omega];exact hv
  rw[R3bLayC0S];simp only[lchk_ptr,loff_ptr,ob_some,e6,hT.len (n:=bs.length) (by omega) (by simp),lbin_leq];refine Wp.dec (fun hle=> ?_) (fun hle=>hk own1 K R1 v bs hL hv hT hb (by omega));rw[show lbldS K 1 1 [(.bool false)] [(0,.bool false)]=some (.slice K.length 0 1 1 true 1,K++[.row [.bool false] false])from rfl,ob_some];have hmap:bs.map IV.bool++[.bool false]=(bs++[false]).map .bool:=by simp
  refine rb_grow hL.rb (k:=6) hi (.inr rfl) hT rfl (by simp;omega) (fun own' K' w hw=>RCell.there.2 ⟨bs++[false],by rw[←hmap];exact hw,by simp;omega⟩) (G:=fun K=>R3bLayC0S cal O N gE n (.ptr b (1+i*9+5)) (.int .i64 (j:Nat)) K) ?_;intro own2 K2 R2 w q1 q2 q3;rw[hmap]at q3;exact ih n own2 K2 R2 w (bs++[false]) (by simp;omega) (by omega) (hL.of q1) q2 q3 (by simp;omega)
theorem lay_s (hN:4097<N)(h:RB c own H b s R)(hi:i<=200)(hj:j<4096):Wp (R3bLayS cal O N (.ptr b (1+i*9+5)) (.int .i64 (j:Nat)) H) fun r=>RA c own H b s r.2:=by
 unfold R3bLayS R3bLayC2S R3bLayC1S;obtain⟨v,a1,a3,a2⟩:=h.ptr hi (show 6<9 by omega);obtain⟨bs,b1,b2⟩:=RCell.there.1 a2;refine lay_go hi hj ?_ (j+1) N own H R v bs (by omega) (by omega) (RL.refl h) a3 b1 b2;intro own1 K R1 v bs hL hv hT hb hlt;have e6:lload1 K (.ptr b (1+i*9+5+1))=some v:=by rw[ld1 hL.rb.row,show 1+i*9+5+1=1+9*i+6 by omega];exact hv
 obtain⟨r,c1,c2,c3,c4⟩:=hT.ix1 (j:=j) (by simpa using hlt);simp only[lchk_ptr,loff_ptr,ob_some,e6,c2];rw[st1 c3 (by simp only[one_bool]) (by simpa using hlt),ob_some];have hset:(bs.map IV.bool).set j (.bool true)=(bs.set j true).map .bool:=by rw[List.map_set]
 have kF:Frame (fun x=>own1 x=3*i+(6 - 4)) K (K.set r (.row ((bs.map IV.bool).set j (.bool true)) false)):=Frame.set _ _ c1;have hT2:=hT.put (x:=.bool true) (j:=j) (by simpa using hlt) c2;have h2:=hL.rb.inpl hi (k:=6) (by omega) (by omega) kF (fun v' hv'=>by
  rw[hv]at hv';cases hv'
  exact RCell.there.2 ⟨bs.set j true,by rw[←hset];exact hT2,by simpa using hb⟩)
 exact Wp.ret (hL.of ⟨h2,kF.mono fun j hj=>by omega,fun _ h=>.inl h⟩).ra
end
end Go.Shade
namespace Go.Shade
variable {H : Heap} {b c i n s : Nat} {ds : List IV} {dv : IV} {fl ft : FuncId} {own : Nat -> Nat}
section
variable {cal : FuncId -> Bool} {O : Oracle} {N : Nat}
theorem rw_pad {a:Nat}{v0 v2 v3 v10:IV}(hi:i<=200)(ha:a<65536){gE:IV->IV->IV->IV->IV->IV->Heap->Option (IV×Heap)}{Q:Out->Prop}
  (hk:∀(own1:Nat->Nat) (K:Heap) (R1:List IV) (v:IV) (cs:List IV),RL c own H b s own1 K R1->R1[1+9*i+5]? =some v->TS 1 (fun j=>own1 j=3*i+1) K v cs->cs.all IV.one=true->cs.length<=65536->a<cs.length->Wp (gE v0 (.ptr b (1+i*9+5)) v2 v3 v10 (.int .i64 (a:Nat)) K) Q) :
  ∀(m n:Nat) (own1:Nat->Nat) (K:Heap) (R1:List IV) (v:IV) (cs:List IV),a+1 - cs.length<=m->m<n->RL c own H b s own1 K R1->R1[1+9*i+5]? =some v->TS 1 (fun j=>own1 j=3*i+1) K v cs->cs.all IV.one=true->cs.length<=65536 ->
   Wp (R3sWriteC0S cal O N ft fl gE n v0 (.ptr b (1+i*9+5)) v2 v3 v10 (.int .i64 (a:Nat)) K) Q:=by
 intro m
 induction m with
 | zero =>
  intro n own1 K R1 v cs hm hn hL hv hT h1 hb;obtain⟨n,rfl⟩:∃j,n=j+1:=⟨n - 1,by omega⟩;have e6:lload1 K (.ptr b (1+i*9+5))=some v:=by rw[ld1 hL.rb.row,show 1+i*9+5=1+9*i+5 by omega];exact hv
  rw[R3sWriteC0S];simp only[lchk_ptr,loff_ptr,ob_some,Nat.add_zero,e6,hT.len (n:=cs.length) (by omega) (by simp),lbin_leq];rw[decide_eq_false (by omega),cnd_false];exact hk own1 K R1 v cs hL hv hT h1 hb (by omega)
 | succ m ih =>
  intro n own1 K R1 v cs hm hn hL hv hT h1 hb;obtain⟨n,rfl⟩:∃j,n=j+1:=⟨n - 1,by omega⟩;have e6:lload1 K (.ptr b (1+i*9+5))=some v:=by rw[ld1 hL.rb.row,show 1+i*9+5=1+9*i+5 by omega];exact hv
  rw[R3sWriteC0S];simp only[lchk_ptr,loff_ptr,ob_some,Nat.add_zero,e6,hT.len (n:=cs.length) (by omega) (by simp),lbin_leq];refine Wp.dec (fun hle=> ?_) (fun hle=>hk own1 K R1 v cs hL hv hT h1 hb (by omega));rw[show lbldS K 1 1 [(.int .u8 0)] [(0,.int .u8 0)]=some (.slice K.length 0 1 1 true 1,K++[.row [.int .u8 0] false])from rfl,ob_some];have ho:(cs++[IV.int .u8 0]).all IV.one=true:=by rw[List.all_append,h1];rfl
  refine rb_grow hL.rb (k:=5) hi (.inl rfl) hT rfl (by omega) (fun own' K' w hw=>RCell.body.2 ⟨cs++[.int .u8 0],hw,ho,by simp;omega⟩) (G:=fun K=>R3sWriteC0S cal O N ft fl gE n v0 (.ptr b (1+i*9+5)) v2 v3 v10 (.int .i64 (a:Nat)) K) ?_;intro own2 K2 R2 w q1 q2 q3;exact ih n own2 K2 R2 w (cs++[.int .u8 0]) (by simp;omega) (by omega) (hL.of q1) q2 q3 ho (by simp;omega)
theorem rw_byte (hN:65538<N){ft fl:FuncId}{c:Nat}{own:Nat->Nat}{H:Heap}{b s i a d n:Nat}{v0 v2 dv:IV}{ds:List IV}(hi:i<=200)(ha:a<65536)(hd:d<n)(hn:n<=1000000)(hsl:Sl 1 H dv n ds)(h1:ds.all IV.one=true)(hat:At (fun j=>own j=0) dv)
  {gN:IV->IV->IV->IV->IV->Heap->Option (IV×Heap)} {Q:Out->Prop} {own1:Nat->Nat} {K:Heap} {R1:List IV} (hL:RL c own H b s own1 K R1)
  (hk:∀(own2:Nat->Nat) (K2:Heap) (R2:List IV),RL c own H b s own2 K2 R2->Wp (gN v0 (.ptr b (1+i*9+5)) v2 dv (.int .i64 ((d+1:Nat):Int)) K2) Q) :
  Wp (R3sWriteC2S cal O N ft fl gN v0 (.ptr b (1+i*9+5)) v2 dv (.int .i64 (d:Nat)) (.int .i64 (a:Nat)) K) Q:=by
 unfold R3sWriteC2S R3sWriteC1S;obtain⟨v,a1,a3,a2⟩:=hL.rb.ptr hi (show 5<9 by omega);obtain⟨cs,b1,b2,b3⟩:=RCell.body.1 a2;refine rw_pad hi ha ?_ (a+1) N own1 K R1 v cs (by omega) (by omega) hL a3 b1 b2 b3;intro own2 K2 R2 w cs2 hL2 hv hT h2 hb2 hlt;have e6:lload1 K2 (.ptr b (1+i*9+5))=some w:=by rw[ld1 hL2.rb.row,show 1+i*9+5=1+9*i+5 by omega];exact hv
 obtain⟨r,c1,c2,c3,c4⟩:=hT.ix1 hlt;have hsl2:=hL2.sl hsl hat;obtain⟨p,p1,p2⟩:=hsl2.at1 hd;have hdl:d<ds.length:=by have:=hsl.1;omega
 rw[List.getElem?_eq_getElem hdl]at p2;have ho:ds[d].one=true:=by rw[List.all_eq_true]at h1;exact h1 _ (List.getElem_mem hdl)
 have enx:lbin .add (.int .i64 (d:Nat)) (.int .i64 1)=some (.int .i64 ((d+1:Nat):Int)):=by rw[lbin_add,wrap_i64 (by omega) (by omega)];rfl
 simp only[lchk_ptr,loff_ptr,ob_some,Nat.add_zero,e6,p1,p2,c2,enx];rw[st1 c3 ho hlt,ob_some];have kF:Frame (fun x=>own2 x=3*i+(5 - 4)) K2 (K2.set r (.row (cs2.set a ds[d]) false)):=Frame.set _ _ c1;have hT2:=hT.put (x:=ds[d]) (j:=a) hlt c2;have h3:=hL2.rb.inpl hi (k:=5) (by omega) (by omega) kF (fun v' hv'=>by
  rw[hv]at hv';cases hv'
  refine RCell.body.2 ⟨cs2.set a ds[d],hT2,?_,by simpa using hb2⟩;rw[List.all_eq_true]at h2 ⊢;intro x hx;rcases List.mem_or_eq_of_mem_set hx with hx | rfl
  ·exact h2 x hx
  ·exact ho)
 exact hk own2 _ R2 (hL2.of ⟨h3,kF.mono fun j hj=>by omega,fun _ h=>.inl h⟩)
theorem rw_go (hN:65538<N)(ht:RThereOk O ft)(hl:RLayOk O fl){o:Nat}(hi:i<=200)(ho:o<65536)(hn:n<=1000000)(hsl:Sl 1 H dv n ds)(h1:ds.all IV.one=true)(hat:At (fun j=>own j=0) dv){gE:IV->Heap->Option (IV×Heap)}{Q:Out->Prop} (hk:∀(d:Nat) (own2:Nat->Nat) (K2:Heap) (R2:List IV),RL c own H b s own2 K2 R2->Wp (gE (.int .i64 (d:Nat)) K2) Q) :
  ∀(m d f:Nat) (own1:Nat->Nat) (K:Heap) (R1:List IV),65536 - (o+d)<=m->m<f->o+d<=65536->RL c own H b s own1 K R1 ->
   Wp (R3sWriteC7S cal O N ft fl gE f (.ptr s 0) (.ptr b (1+i*9+5)) (.int .i64 (o:Nat)) dv (.int .i64 (d:Nat)) K) Q:=by
 intro m
 induction m with
 | zero =>
  intro d f own1 K R1 hm hf hod hL;obtain⟨f,rfl⟩:∃j,f=j+1:=⟨f - 1,by omega⟩;have hsl2:=hL.sl hsl hat;have ea:lbin .add (.int .i64 (o:Nat)) (.int .i64 (d:Nat))=some (.int .i64 ((o+d:Nat):Int)):=by rw[lbin_add,wrap_i64 (by omega) (by omega)];rfl
  rw[R3sWriteC7S,R3sWriteC6S,hsl2.len,ob_some,lbin_lss,ob_some]
  cases decide ((d:Int)<n)with
  | false=>simp only[isB_ft,gq_false,ob_some,lpick_false,cnd_false];exact hk d own1 K R1 hL
  | true =>
   simp only[isB_tt,gq_true,ob_some,ea,lbin_lss,lpick_true];rw[decide_eq_false (by omega),cnd_false];exact hk d own1 K R1 hL
 | succ m ih =>
  intro d f own1 K R1 hm hf hod hL;obtain⟨f,rfl⟩:∃j,f=j+1:=⟨f - 1,by omega⟩;have hsl2:=hL.sl hsl hat;have ea:lbin .add (.int .i64 (o:Nat)) (.int .i64 (d:Nat))=some (.int .i64 ((o+d:Nat):Int)):=by rw[lbin_add,wrap_i64 (by omega) (by omega)];rfl
  rw[R3sWriteC7S,R3sWriteC6S,hsl2.len,ob_some,lbin_lss,ob_some];by_cases hd:d<n
  ·rw[decide_eq_true (by omega)];simp only[isB_tt,gq_true,ob_some,ea,lbin_lss,lpick_true];refine Wp.dec (fun hlt=> ?_) (fun _=>hk d own1 K R1 hL);unfold R3sWriteC5S R3sWriteC4S R3sWriteC3S;have e2:lbin .quo (.int .i64 ((o+d:Nat):Int)) (.int .i64 16)=some (.int .i64 (((o+d) / 16:Nat):Int)):=by
    rw[lbin_quo (by decide),Int.tdiv_eq_ediv_of_nonneg (by omega),wrap_i64 (by omega) (by omega)];congr 2
   obtain⟨t,et⟩:=ht c own1 K b s R1 i ((o+d) / 16) hL.rb hi;have nxt:∀(own2:Nat->Nat) (K2:Heap) (R2:List IV),RL c own H b s own2 K2 R2->Wp (R3sWriteC2S cal O N ft fl (fun v0 v1 v2 v3 v10 H=>R3sWriteC7S cal O N ft fl gE f v0 v1 v2 v3 v10 H) (.ptr s 0) (.ptr b (1+i*9+5)) (.int .i64 (o:Nat)) dv (.int .i64 (d:Nat)) (.int .i64 ((o+d:Nat):Int)) K2) Q:=by
    intro own2 K2 R2 hL2;refine rw_byte hN hi (by omega) hd hn hsl h1 hat hL2 ?_;intro own3 K3 R3 hL3;exact ih (d+1) f own3 K3 R3 (by omega) (by omega) (by omega) hL3
   simp only[ea,ob_some,e2,et,iun_not]
   cases t with
   | true=>rw[Bool.not_true,cnd_false];exact nxt own1 K R1 hL
   | false =>
    obtain⟨x,y,hs⟩:=hL.rb.sto;have s0:lload1 K (.ptr s 0)=some (.int .i64 x):=ld1 hs;have s1:lload1 K (.ptr s 1)=some (.int .i64 y):=ld1 hs;simp only[Bool.not_false,cnd_true,lchk_ptr,loff_ptr,ob_some,Nat.zero_add,s0,s1,lbin_eql];refine Wp.dec (fun _=>hk d own1 K R1 hL) (fun _=> ?_);rw[lbin_add,ob_some,st1 hs (by simp only[one_int]) (by simp),ob_some];have h3:=hL.rb.stoSet x (IntKind.wrap .i64 (y+1));have kS:Frame (fun x=>x=s) K (K.set s (.row ([.int .i64 x,.int .i64 y].set 1 (.int .i64 (IntKind.wrap .i64 (y+1)))) false)):=Frame.set _ _ rfl;have hso:=hL.rb.os;have hL3:RL c own H b s own1 (K.set s (.row ([.int .i64 x,.int .i64 y].set 1 (.int .i64 (IntKind.wrap .i64 (y+1)))) false)) R1:=hL.of ⟨h3,kS.mono fun j hj=>by subst hj;omega,fun _ h=>.inl h⟩;refine Wp.call (hl c own1 _ b s R1 i ((o+d) / 16) hL3.rb hi (by omega)) ?_;rintro⟨w,K4⟩ hRA;obtain⟨own4,R4,hL4⟩:=hL3.ex hRA;exact nxt own4 K4 R4 hL4
  ·rw[decide_eq_false (by omega)];simp only[isB_ft,gq_false,ob_some,lpick_false,cnd_false];exact hk d own1 K R1 hL
def RSWriteOk (O:Oracle)(f:FuncId):Prop:=∀(c:Nat) (own:Nat->Nat) (H:Heap) (b s:Nat) (R:List IV) (i:Nat) (off:Int) (dv:IV) (n:Nat) (ds:List IV),RB c own H b s R->i<=200->n<=1000000->Sl 1 H dv n ds->ds.all IV.one=true->At (fun j=>own j=0) dv->Wp (O f [.ptr s 0,.ptr b (1+i*9+5),.int .i64 off,dv] H) fun r=>(∃x y:Int,r.1=.tuple [.int .i64 x,.int .i64 y])/\RA c own H b s r.2
theorem rswrite_s (hN:65538<N)(ht:RThereOk O ft)(hl:RLayOk O fl){R:List IV}{off:Int}(h:RB c own H b s R)(hi:i<=200)(hn:n<=1000000)(hsl:Sl 1 H dv n ds)(h1:ds.all IV.one=true)(hat:At (fun j=>own j=0) dv) :
  Wp (R3sWriteS cal O N ft fl (.ptr s 0) (.ptr b (1+i*9+5)) (.int .i64 off) dv H) fun r=>(∃x y:Int,r.1=.tuple [.int .i64 x,.int .i64 y])/\RA c own H b s r.2:=by
 have done:∀(x y:Int),Wp (some ((IV.tuple [.int .i64 x,.int .i64 y]),H)) fun r=>(∃x y:Int,r.1=.tuple [.int .i64 x,.int .i64 y])/\RA c own H b s r.2:=fun x y=>Wp.ret ⟨⟨x,y,rfl⟩,RA.refl h⟩;unfold R3sWriteS R3sWriteC14S R3sWriteC13S;rw[lbin_lss,ob_some];refine Wp.dec (fun _=>done _ _) (fun h0=> ?_);unfold R3sWriteC12S;rw[hsl.len,ob_some,lbin_eql,ob_some];refine Wp.dec (fun _=>done _ _) (fun _=> ?_);unfold R3sWriteC11S;rw[lbin_geq,ob_some];refine Wp.dec (fun _=>done _ _) (fun h2=> ?_);obtain⟨o,rfl⟩:∃o:Nat,off=(o:Nat):=⟨off.toNat,by omega⟩;unfold R3sWriteC10S R3sWriteC9S R3sWriteC8S;refine rw_go hN ht hl hi (by omega) hn hsl h1 hat ?_ 65536 0 N own H R (by omega) (by omega) (by omega) (RL.refl h);intro d own2 K2 R2 hL;simp only;rw[lbin_eql,ob_some];exact Wp.dec (fun _=>Wp.ret ⟨⟨_,_,rfl⟩,hL.ra⟩) (fun _=>Wp.ret ⟨⟨_,_,rfl⟩,hL.ra⟩)
def RWriteOk (O:Oracle)(f:FuncId):Prop:=∀(c:Nat) (own:Nat->Nat) (H:Heap) (b s:Nat) (R:List IV) (i off:Int) (dv:IV) (n:Nat) (ds:List IV),RB c own H b s R->n<=1000000->Sl 1 H dv n ds->ds.all IV.one=true->At (fun j=>own j=0) dv->Wp (O f [.ptr b 0,.int .i64 i,.int .i64 off,dv] H) fun r=>RA c own H b s r.2
theorem rwrite_s {ff fw:FuncId}(hf:RFileOk O ff)(hw:RSWriteOk O fw){R:List IV}{i off:Int}(h:RB c own H b s R)(hn:n<=1000000)(hsl:Sl 1 H dv n ds)(h1:ds.all IV.one=true)(hat:At (fun j=>own j=0) dv) :
  Wp (R5WriteS cal O N ff fw (.ptr b 0) (.int .i64 i) (.int .i64 off) dv H) fun r=>RA c own H b s r.2:=by
 unfold R5WriteS;obtain⟨e,he,hr⟩:=hf c own H b s R i h;rw[he,ob_some];simp only;rw[lbin_neq,ob_some];refine Wp.ndec (fun _=>Wp.ret (RA.refl h)) (fun h0=> ?_);obtain⟨i1,i2⟩:=hr h0;obtain⟨j,rfl⟩:∃n:Nat,i=(n:Nat):=⟨i.toNat,by omega⟩;have e0:lload1 H (.ptr b 0)=some (.ptr s 0):=by rw[ld1 h.row];exact h.r0
 simp only[lchk_ptr,loff_ptr,ob_some,Nat.zero_add,rixa (show j<=200 by omega),e0];refine Wp.call (hw c own H b s R j off dv n ds h (by omega) hn hsl h1 hat) ?_;rintro⟨w,K⟩ ⟨⟨x,y,hx⟩,hRA⟩;simp only at hx hRA ⊢;subst hx;exact Wp.ret hRA
end
end Go.Shade
namespace Go.Shade
def z9 :List IV:=[.int .i64 0,.int .i64 0,.int .i64 0,.int .i64 0,.int .i64 0,.nilSlice,.nilSlice,.nilSlice,.str []]
def z201 :List IV:=(List.replicate 201 z9).flatten
theorem repl_get {z:List IV}{s:Nat}(hz:z.length=s):∀(n i k:Nat),i<n->k<s->(List.replicate n z).flatten[i*s+k]? =z[k]?
 | 0,i,k,h,_=>by omega
 | n+1,i,k,h,hk=>by
  rw[List.replicate_succ,List.flatten_cons]
  cases i with
  | zero=>rw[List.getElem?_append_left (by omega)];congr 1;omega
  | succ i =>
   rw[List.getElem?_append_right (by rw[hz,Nat.add_mul];omega),show(i+1)*s+k - z.length=i*s+k by rw[hz,Nat.add_mul];omega];exact repl_get hz n i k (by omega) hk
theorem rep_len {z:List IV}:∀n:Nat,(List.replicate n z).flatten.length=n*z.length
 | 0=>by simp
 | n+1=>by rw[List.replicate_succ,List.flatten_cons,List.length_append,rep_len n,Nat.add_mul];omega
theorem rep_one {z:List IV}(hz:z.all IV.one=true):∀n:Nat,(List.replicate n z).flatten.all IV.one=true
 | 0=>rfl
 | n+1=>by rw[List.replicate_succ,List.flatten_cons,List.all_append,hz,rep_one hz n];rfl
section
variable {cal : FuncId -> Bool} {O : Oracle} {N : Nat}
theorem r03new_s (H:Heap)(room:Int):vr03NewS cal O N (.int .i64 room) H=if 0<=room/\room<=65536 then some (.ptr H.length 0,H++[.row [.int .i64 room,.int .i64 0] false])else some (.nilPtr,H):=by
 unfold vr03NewS;rw[lbin_lss,ob_some];by_cases h1:room<0
 ·rw[decide_eq_true h1];simp only[isB_tf,gq_false,ob_some,lpick_true,cnd_true];rw[if_neg (by omega)]
 ·rw[decide_eq_false h1];simp only[isB_ff,gq_true,ob_some,lpick_false,lbin_gtr];by_cases h2:65536<room
  ·rw[decide_eq_true h2,cnd_true,if_neg (by omega)]
  ·rw[decide_eq_false h2,cnd_false,if_pos (by omega)];have e1:lbld [(.int .i64 0),(.int .i64 0)] [(0,1,(.int .i64 room))]=some (.agg [.int .i64 room,.int .i64 0]):=rfl;rw[e1,ob_some,lbox_agg rfl,ob_some]
theorem rnew_eq (fs:FuncId)(v:IV)(H:Heap):vr05NewS cal O N fs v H=(ob (O fs [v] H) fun r1 =>
  ob (leqv false (leq .ptr r1.1 .nilPtr)) fun t2 =>
  cnd t2
  (some (.nilPtr,r1.2))
  (ob (lbld (.nilPtr::z201) [(0,1,r1.1)]) fun t3 =>
  ob (lbox r1.2 t3) fun r4 =>
  ob (lbld [(.int .i64 0),(.int .i64 0),(.int .i64 0),(.int .i64 0),(.int .i64 0),.nilSlice,.nilSlice,.nilSlice,(.str [])] [(0,1,(.int .i64 2)),(1,1,(.int .i64 1)),(4,1,(.int .i64 1))]) fun t5 =>
  ob (lchk r4.1) fun t6 =>
  ob (loff t6 1) fun t7 =>
  ob (lixa 201 9 t7 (.int .i64 1)) fun t8 =>
  ob (lstV r4.2 9 t8 t5) fun r9 =>
  some (r4.1,r9.2))):=by kernel_rfl
theorem rbld (s:Nat):lbld (.nilPtr::z201) [(0,1,.ptr s 0)]=some (.agg (.ptr s 0::z201)):=by kernel_rfl
def RNewOk (O:Oracle)(f:FuncId):Prop:=∀(H:Heap),Wp (O f [.int .i64 500] H) fun r=>Frame NoF H r.2/\∃own b s R,r.1=.ptr b 0/\RB 0 own r.2 b s R/\∀j,own j≠0->H.length<=j
theorem rnew_s {fs:FuncId}(hs:SNewOk O fs)(H:Heap):Wp (vr05NewS cal O N fs (.int .i64 500) H) fun r=>Frame NoF H r.2/\∃own b s R,r.1=.ptr b 0/\RB 0 own r.2 b s R/\∀j,own j≠0->H.length<=j:=by
 rw[rnew_eq,hs H 500,if_pos (by decide),ob_some];simp only;have e1:leqv false (leq .ptr (.ptr H.length 0) .nilPtr)=some (.bool false):=rfl;rw[e1,ob_some,cnd_false,rbld,ob_some];have k1:Frame NoF H (H++[IObj.row [.int .i64 500,.int .i64 0] false]):=Frame.push _ _ _;have r1:(H++[IObj.row [.int .i64 500,.int .i64 0] false])[H.length]? =some (.row [.int .i64 500,.int .i64 0] false):=newRow;have l1:(H++[IObj.row [.int .i64 500,.int .i64 0] false]).length=H.length+1:=by simp
 generalize H++[IObj.row [.int .i64 500,.int .i64 0] false]=K at *;have hone:((IV.ptr H.length 0)::z201).all IV.one=true:=by rw[List.all_cons];unfold z201;rw[rep_one rfl];rfl
 rw[lbox_agg hone,ob_some];have k2:Frame NoF K (K++[IObj.row (.ptr H.length 0::z201) false]):=Frame.push _ _ _;have r2:(K++[IObj.row (.ptr H.length 0::z201) false])[K.length]? =some (.row (.ptr H.length 0::z201) false):=newRow;have r1':=k2.get (fun h=>h) r1;have l2:(K++[IObj.row (.ptr H.length 0::z201) false]).length=H.length+2:=by simp;omega
 simp only[l1]at r2 ⊢;generalize K++[IObj.row (.ptr H.length 0::z201) false]=K2 at *
 let own:Nat->Nat:=fun j=>if j=H.length+1 then 701 else if j=H.length then 700 else 0
 have o1:own (H.length+1)=701:=if_pos rfl;have o2:own H.length=700:=by show(if H.length=H.length+1 then 701 else _)=_;rw[if_neg (by omega),if_pos rfl]
 have o3:∀j,own j≠0->j=H.length+1∨j=H.length:=fun j hj=>by
  by_cases e1:j=H.length+1
  ·exact .inl e1
  ·by_cases e2:j=H.length
   ·exact .inr e2
   ·exact absurd (by show(if j=H.length+1 then 701 else if j=H.length then 700 else 0)=0;rw[if_neg e1,if_neg e2]) hj
 have zl:z201.length=1809:=by unfold z201;rw[rep_len];rfl
 have hB:RB 0 own K2 (H.length+1) H.length (.ptr H.length 0::z201):=by
  refine⟨o1,r2,by rw[List.length_cons,zl],rfl,o2,⟨500,0,r1'⟩,fun i k hi hk=> ?_,fun j hj=>by rcases o3 j hj with rfl | rfl<;>omega⟩;rw[show 1+9*i+k=(i*9+k)+1 by omega,List.getElem?_cons_succ];unfold z201;rw[repl_get (s:=9) rfl 201 i k (by omega) hk]
  match k,hk with
  | 0,_=>exact⟨_,rfl,RCell.scal (by omega) _⟩
  | 1,_=>exact⟨_,rfl,RCell.scal (by omega) _⟩
  | 2,_=>exact⟨_,rfl,RCell.scal (by omega) _⟩
  | 3,_=>exact⟨_,rfl,RCell.scal (by omega) _⟩
  | 4,_=>exact⟨_,rfl,RCell.par (by omega)⟩
  | 5,_=>exact⟨_,rfl,RCell.nil (by omega) (by omega)⟩
  | 6,_=>exact⟨_,rfl,RCell.nil (by omega) (by omega)⟩
  | 7,_=>exact⟨_,rfl,RCell.nil (by omega) (by omega)⟩
  | 8,_=>exact⟨_,rfl,RCell.targ []⟩
 obtain⟨H',R',q1,q2,q3⟩:=hB.node (i:=1) (by omega) (k:=2) (l:=1) (p:=1) (t:=[]) (by omega);have e5:lbld [(.int .i64 0),(.int .i64 0),(.int .i64 0),(.int .i64 0),(.int .i64 0),.nilSlice,.nilSlice,.nilSlice,(.str [])] [(0,1,(.int .i64 2)),(1,1,(.int .i64 1)),(4,1,(.int .i64 1))]=some (.agg [.int .i64 2,.int .i64 1,.int .i64 0,.int .i64 0,.int .i64 1,.nilSlice,.nilSlice,.nilSlice,.str []]):=rfl;simp only[e5,ob_some,lchk_ptr,loff_ptr,Nat.zero_add];have e6:lixa 201 9 (.ptr (H.length+1) 1) (.int .i64 1)=some (.ptr (H.length+1) (1+1*9)):=rixa (i:=1) (by omega);rw[e6,ob_some,q1,ob_some];refine Wp.ret ⟨?_,own,H.length+1,H.length,R',rfl,q2,fun j hj=>by rcases o3 j hj with rfl | rfl<;>omega⟩;refine⟨Nat.le_trans (Nat.le_trans k1.1 k2.1) q3.1,fun j hj _=> ?_⟩;rw[q3.2 j (by omega) (by intro hn;rcases o3 j hn with e | e<;>omega),k2.2 j (by omega) (fun h=>h),k1.2 j hj (fun h=>h)]
end
end Go.Shade
namespace Go.Shade
variable {B b1 b2 c r1 r2 : Nat} {H : Heap} {Q : Out -> Prop} {Z : Nat -> Prop} {o o' : Nat -> Nat}
structure MAct where
 low:Bool
 kd:Int
 d:Int
 t:Int
 n:Int
 a:Nam
 b:Nam
def MAct.cells (x:MAct):List IV:=[.bool x.low,.int .i64 x.kd,.int .i64 x.d,.int .i64 x.t,.int .i64 x.n,.str x.a,.str x.b]
def MActs (L:Nat)(H:Heap)(v:IV)(l:List MAct):Prop:=At (· <L) v/\∃cs,Sl 7 H v l.length cs/\∀i a,l[i]? =some a->(cs.drop (i*7)).take 7=a.cells
theorem MActs.frame {L:Nat}{H H':Heap}{v:IV}{l:List MAct}(h:MActs L H v l){F:Nat->Prop}(k:Frame F H H')(hF:∀j,j<L->¬F j):MActs L H' v l:=by
 obtain⟨h0,cs,h1,h2⟩:=h;exact⟨h0,cs,h1.frame k (h0.mono fun i hi=>hF i hi),h2⟩
theorem MActs.at {L:Nat}{v:IV}{l:List MAct}(h:MActs L H v l){i:Nat}{a:MAct}(ha:l[i]? =some a):∃p,lix 7 v (.int .i64 (i:Nat))=some p/\lloadn H 7 p=some (.agg a.cells):=by
 obtain⟨h0,cs,h1,h2⟩:=h;obtain⟨p,e1,e2⟩:=h1.atn (ges ha).1;exact⟨p,e1,by rw[e2,h2 i a ha]⟩
theorem MActs.len {L:Nat}{H:Heap}{v:IV}{l:List MAct}(h:MActs L H v l):llen H .slice v=some (.int .i64 (l.length:Nat)):=by
 obtain⟨h0,cs,h1,h2⟩:=h;exact h1.len
def X1 (c:Nat)(o:Nat->Nat)(H:Heap)(b:Nat):Prop:=∃st,BrOk o H b st/\BInv c st
def X2 (c:Nat)(o:Nat->Nat)(H:Heap)(b:Nat):Prop:=∃s R,RB c o H b s R
def Dj (o o':Nat->Nat):Prop:=∀j,o j≠0->o' j=0
def UpZ (B:Nat)(Z:Nat->Prop)(o:Nat->Nat):Prop:=∀j,o j≠0->B<=j/\¬Z j
theorem Dj.symm (h:Dj o o'):Dj o' o:=fun j hj=>by
 cases e:o j with
 | zero=>rfl
 | succ n=>have:=h j (by omega);omega
theorem X1.frame {c c':Nat}{o:Nat->Nat}{H H':Heap}{b:Nat}(h:X1 c o H b)(hc:c<=c'){F:Nat->Prop}(k:Frame F H H')(hf:∀j,o j≠0->¬F j):X1 c' o H' b:=by
 obtain⟨st,h1,h2⟩:=h;exact⟨st,h1.frame k hf,h2.mono hc⟩
theorem X2.frame {c c':Nat}{o:Nat->Nat}{H H':Heap}{b:Nat}(h:X2 c o H b)(hc:c<=c'){F:Nat->Prop}(k:Frame F H H')(hf:∀j,o j≠0->¬F j):X2 c' o H' b:=by
 obtain⟨s,R,h1⟩:=h;exact⟨s,R,(h1.frame k hf).mono hc⟩
theorem X1.lt {c:Nat}{o:Nat->Nat}{H:Heap}{b:Nat}(h:X1 c o H b){j:Nat}(hj:o j≠0):j<H.length:=by obtain⟨_,h,_⟩:=h;exact h.lt j hj
theorem X2.lt {c:Nat}{o:Nat->Nat}{H:Heap}{b:Nat}(h:X2 c o H b){j:Nat}(hj:o j≠0):j<H.length:=by obtain⟨_,_,h⟩:=h;exact h.lt j hj
def W2 (c B:Nat)(Z:Nat->Prop)(H:Heap)(b1 r1 b2 r2:Nat):Prop:=∃o1 o2 o3 o4,X1 c o1 H b1/\X2 c o2 H r1/\X1 c o3 H b2/\X2 c o4 H r2/\(Dj o1 o2/\Dj o1 o3/\Dj o1 o4/\Dj o2 o3/\Dj o2 o4/\Dj o3 o4)/\UpZ B Z o1/\UpZ B Z o2/\UpZ B Z o3/\UpZ B Z o4
theorem W2.swap (h:W2 c B Z H b1 r1 b2 r2):W2 c B Z H b2 r2 b1 r1:=by
 obtain⟨o1,o2,o3,o4,h1,h2,h3,h4,⟨d12,d13,d14,d23,d24,d34⟩,u1,u2,u3,u4⟩:=h;exact⟨o3,o4,o1,o2,h3,h4,h1,h2,⟨d34,d13.symm,d23.symm,d14.symm,d24.symm,d12⟩,u3,u4,u1,u2⟩
theorem W2.push {c B:Nat}{Z:Nat->Prop}{H:Heap}{b1 r1 b2 r2:Nat}(h:W2 c B Z H b1 r1 b2 r2)(o:IObj):W2 c B (fun j=>Z j∨j=H.length) (H++[o]) b1 r1 b2 r2:=by
 obtain⟨o1,o2,o3,o4,h1,h2,h3,h4,d,u1,u2,u3,u4⟩:=h;have k:Frame NoF H (H++[o]):=Frame.push _ _ _;refine⟨o1,o2,o3,o4,h1.frame (Nat.le_refl _) k fun _ _ h=>h,h2.frame (Nat.le_refl _) k fun _ _ h=>h,h3.frame (Nat.le_refl _) k fun _ _ h=>h,h4.frame (Nat.le_refl _) k fun _ _ h=>h,d,fun j hj=>⟨(u1 j hj).1,fun e=> ?_⟩,fun j hj=>⟨(u2 j hj).1,fun e=> ?_⟩,fun j hj=>⟨(u3 j hj).1,fun e=> ?_⟩,fun j hj=>⟨(u4 j hj).1,fun e=> ?_⟩⟩
 ·rcases e with e | e;exact(u1 j hj).2 e;have:=h1.lt hj;omega
 ·rcases e with e | e;exact(u2 j hj).2 e;have:=h2.lt hj;omega
 ·rcases e with e | e;exact(u3 j hj).2 e;have:=h3.lt hj;omega
 ·rcases e with e | e;exact(u4 j hj).2 e;have:=h4.lt hj;omega
theorem W2.forget {Z':Nat->Prop}(h:W2 c B Z H b1 r1 b2 r2)(hz:∀j,Z' j->Z j):W2 c B Z' H b1 r1 b2 r2:=by
 obtain⟨o1,o2,o3,o4,h1,h2,h3,h4,d,u1,u2,u3,u4⟩:=h;exact⟨o1,o2,o3,o4,h1,h2,h3,h4,d,fun j hj=>⟨(u1 j hj).1,fun e=>(u1 j hj).2 (hz j e)⟩,fun j hj=>⟨(u2 j hj).1,fun e=>(u2 j hj).2 (hz j e)⟩,fun j hj=>⟨(u3 j hj).1,fun e=>(u3 j hj).2 (hz j e)⟩,fun j hj=>⟨(u4 j hj).1,fun e=>(u4 j hj).2 (hz j e)⟩⟩
theorem Dj.next {o2:Nat->Nat}(h:Dj o o2)(hu:∀j,o' j≠0->o j≠0∨H.length<=j)(hl:∀j,o2 j≠0->j<H.length):Dj o' o2:=fun j hj=>by
 rcases hu j hj with h' | h'
 ·exact h j h'
 ·cases e:o2 j with
  | zero=>rfl
  | succ n=>have:=hl j (by omega);omega
theorem UpZ.next (h:UpZ B Z o)(hu:∀j,o' j≠0->o j≠0∨H.length<=j)(hB:B<=H.length)(hZ:∀j,Z j->j<H.length):UpZ B Z o':=fun j hj=>by
 rcases hu j hj with h' | h'
 ·exact h j h'
 ·exact⟨by omega,fun e=>by have:=hZ j e;omega⟩
def StP (c B:Nat)(Z:Nat->Prop)(H:Heap)(b1 r1 b2 r2:Nat)(K:Heap):Prop:=W2 (c+1) B Z K b1 r1 b2 r2/\Frame (fun j=>B<=j/\¬Z j) H K
theorem W2.act1 (h:W2 c B Z H b1 r1 b2 r2)(hB:B<=H.length)(hZ:∀j,Z j->j<H.length){q:Option Out}(hq:∀o st,BrOk o H b1 st->BInv c st->UpZ B Z o->Wp q (ActP c o H b1)):Wp q fun r=>StP c B Z H b1 r1 b2 r2 r.2:=by
 obtain⟨o1,o2,o3,o4,⟨st,g1,g2⟩,h2,h3,h4,⟨d12,d13,d14,d23,d24,d34⟩,u1,u2,u3,u4⟩:=h;refine(hq o1 st g1 g2 u1).mono ?_;rintro⟨v,K⟩ ⟨o',st',⟨k1,k2,k3⟩,k4⟩;simp only at k1 k2 ⊢;refine⟨⟨o',o2,o3,o4,⟨st',k1,k4⟩,h2.frame (by omega) k2 fun j hj h'=>by have:=d12 j h';omega,h3.frame (by omega) k2 fun j hj h'=>by have:=d13 j h';omega,h4.frame (by omega) k2 fun j hj h'=>by have:=d14 j h';omega,⟨d12.next k3 fun j hj=>h2.lt hj,d13.next k3 fun j hj=>h3.lt hj,d14.next k3 fun j hj=>h4.lt hj,d23,d24,d34⟩,u1.next k3 hB hZ,u2,u3,u4⟩,k2.mono fun j hj=>u1 j hj⟩
theorem W2.act2 (h:W2 c B Z H b1 r1 b2 r2)(hB:B<=H.length)(hZ:∀j,Z j->j<H.length){q:Option Out}(hq:∀o s R,RB c o H r1 s R->UpZ B Z o->Wp q fun r=>RA (c+1) o H r1 s r.2):Wp q fun r=>StP c B Z H b1 r1 b2 r2 r.2:=by
 obtain⟨o1,o2,o3,o4,h1,⟨s,R,g1⟩,h3,h4,⟨d12,d13,d14,d23,d24,d34⟩,u1,u2,u3,u4⟩:=h;refine(hq o2 s R g1 u2).mono ?_;rintro⟨v,K⟩ ⟨o',R',k1,k2,k3⟩;simp only at k1 k2 ⊢;refine⟨⟨o1,o',o3,o4,h1.frame (by omega) k2 fun j hj h'=>by have:=d12 j hj;omega,⟨s,R',k1⟩,h3.frame (by omega) k2 fun j hj h'=>by have:=d23 j h';omega,h4.frame (by omega) k2 fun j hj h'=>by have:=d24 j h';omega,⟨(d12.symm.next k3 fun j hj=>h1.lt hj).symm,d13,d14,d23.next k3 fun j hj=>h3.lt hj,d24.next k3 fun j hj=>h4.lt hj,d34⟩,u1,u2.next k3 hB hZ,u3,u4⟩,k2.mono fun j hj=>u2 j hj⟩
theorem W2.two {c B:Nat}{Z:Nat->Prop}{H:Heap}{b1 r1 b2 r2:Nat}(h:W2 c B Z H b1 r1 b2 r2)(hB:B<=H.length)(hZ:∀j,Z j->j<H.length){q1:Option Out}{F:Out->Option Out}{Q:Out->Prop}(h1:∀o st,BrOk o H b1 st->BInv c st->UpZ B Z o->Wp q1 (ActP c o H b1))
  (hF:∀r:Out,Frame (fun j=>B<=j/\¬Z j) H r.2->W2 (c+1) B Z r.2 b1 r1 b2 r2->Wp (F r) Q):Wp (ob q1 F) Q:=by
 refine Wp.call (h.act1 hB hZ h1) ?_;rintro r ⟨k1,k2⟩;exact hF r k2 k1
theorem W2.two' {H0:Heap}(h:W2 (c+1) B Z H b1 r1 b2 r2)(hF0:Frame (fun j=>B<=j/\¬Z j) H0 H)(hB:B<=H0.length)(hZ:∀j,Z j->j<H0.length){q2:Option Out}{J:Heap->Option Out}(h2:∀o s R,RB (c+1) o H r1 s R->UpZ B Z o->Wp q2 fun r=>RA (c+2) o H r1 s r.2)(hJ:∀K,W2 (c+2) B Z K b1 r1 b2 r2->Frame (fun j=>B<=j/\¬Z j) H0 K->Wp (J K) Q):Wp (ob q2 fun r=>J r.2) Q:=by
 refine Wp.call (h.act2 (Nat.le_trans hB hF0.1) (fun j hj=>Nat.lt_of_lt_of_le (hZ j hj) hF0.1) h2) ?_;rintro r ⟨k1,k2⟩;exact hJ r.2 k1 (hF0.tr k2)
structure BldOk (O:Oracle)(f1 f2 f3 f4 f5 f6 f7 f8 f9 f10 f11 f12 f13 f14:FuncId):Prop where
 bnew:BNewOk O f1
 rnew:RNewOk O f2
 make:BMakeOk O f3
 rmake:RMakeOk O f4
 link:BLinkOk O f5
 rlink:RLinkOk O f6
 unl:BUnlOk O f7
 runl:RUnlOk O f8
 mark:BMarkOk O f9
 rmark:RMarkOk O f10
 write:BWriteOk O f11
 rwrite:RWriteOk O f12
 ren:BRenOk O f13
 rren:RRenOk O f14
theorem jn1 {G:Heap->Option Out}{F:(Heap->Option Out)->Option Out}(P:Heap->Prop)(hg:∀K,P K->Wp (G K) Q)(hF:∀J:Heap->Option Out,(∀K,P K->Wp (J K) Q)->Wp (F J) Q):Wp (jn G F) Q:=hF G hg
theorem jn2 {G:IV->IV->Option Out}{F:(IV->IV->Option Out)->Option Out}(P:IV->IV->Prop)(hg:∀a b,P a b->Wp (G a b) Q)(hF:∀J:IV->IV->Option Out,(∀a b,P a b->Wp (J a b) Q)->Wp (F J) Q):Wp (jn G F) Q:=hF G hg
theorem s2b_sl (H:Heap)(l:Nam):Sl 1 (H++[IObj.row (l.map fun b=>.int .u8 b.toNat) false]) (.slice H.length 0 l.length l.length false 1) l.length (l.map fun b=>.int .u8 b.toNat) :=
 ⟨by simp,.inr ⟨H.length,0,l.length,false,1,rfl,Nat.le_refl _,.inr rfl,fun hn=>⟨_,false,newRow,by simp,by rw[List.drop_zero];exact List.take_of_length_le (by simp)⟩⟩⟩
end Go.Shade
namespace Go.Shade
section
variable {cal : FuncId -> Bool} {O : Oracle} {N : Nat}
variable {f1 f2 f3 f4 f5 f6 f7 f8 f9 f10 f11 f12 f13 f14 : FuncId}
theorem bld_go (hb:BldOk O f1 f2 f3 f4 f5 f6 f7 f8 f9 f10 f11 f12 f13 f14){B:Nat}{v:IV}{l:List MAct}{p b1 r1 b2 r2:Nat}{H0:Heap}(hp:p<H0.length)(hBp:B<=p)(hrow:H0[p]? =some (.row [.ptr b1 0,.ptr b2 0,.ptr r1 0,.ptr r2 0] false))(hv:MActs B H0 v l)
  {gE:IV->Heap->Option Out} {Q:Out->Prop} (hbad:∀K,Frame (fun j=>B<=j/\¬j=p) H0 K->Q (.tuple [.nilPtr,.bool false],K))
  (hk:∀(c:Nat) (K:Heap),c<=160->W2 c B (fun j=>j=p) K b1 r1 b2 r2->Frame (fun j=>B<=j/\¬j=p) H0 K->Wp (gE (.ptr p 0) K) Q) :
  ∀(m i n:Nat) (K:Heap),i+m=80->m<n->W2 (2*i) B (fun j=>j=p) K b1 r1 b2 r2->Frame (fun j=>B<=j/\¬j=p) H0 K ->
   Wp (veneerlaw10BuildC0S cal O N f1 f2 f3 f4 f5 f6 f7 f8 f9 f10 f11 f12 f13 f14 gE n v (.ptr p 0) (.int .i64 (i:Nat)) K) Q:=by
 intro m
 induction m with
 | zero =>
  intro i n K hi hn hW hF;obtain⟨n,rfl⟩:∃j,n=j+1:=⟨n - 1,by omega⟩;have hv':=hv.frame hF (fun j hj h=>by omega);rw[veneerlaw10BuildC0S,hv'.len,ob_some,lbin_lss,ob_some]
  cases decide ((i:Int)<(l.length:Nat))with
  | false=>simp only[isB_ft,gq_false,ob_some,lpick_false,cnd_false];exact hk _ K (by omega) hW hF
  | true =>
   simp only[isB_tt,gq_true,ob_some,lbin_lss,lpick_true];rw[decide_eq_false (by omega),cnd_false];exact hk _ K (by omega) hW hF
 | succ m ih =>
  intro i n K hi hn hW hF;obtain⟨n,rfl⟩:∃j,n=j+1:=⟨n - 1,by omega⟩;have hv':=hv.frame hF (fun j hj h=>by omega);rw[veneerlaw10BuildC0S,hv'.len,ob_some,lbin_lss,ob_some];by_cases hil:i<l.length
  ·rw[decide_eq_true (by omega)];simp only[isB_tt,gq_true,ob_some,lbin_lss,lpick_true];rw[decide_eq_true (by omega),cnd_true];obtain⟨px,e1,e2⟩:=hv'.at (List.getElem?_eq_getElem hil);generalize l[i]=x at *;rw[e1,ob_some,e2,ob_some,lzbox_eq,ob_some];simp only[cells_agg];have hxc:x.cells.all IV.one=true:=rfl;rw[stn (n:=7) newRow hxc rfl rfl,ob_some,setRow];have hpK:p<K.length:=Nat.lt_of_lt_of_le hp hF.1;have hprow:K[p]? =some (.row [.ptr b1 0,.ptr b2 0,.ptr r1 0,.ptr r2 0] false):=hF.get (fun h=>h.2 rfl) hrow;have hW1:=hW.push (.row x.cells false);have k1:Frame NoF K (K++[IObj.row x.cells false]):=Frame.push _ _ _;have ra:(K++[IObj.row x.cells false])[K.length]? =some (.row x.cells false):=newRow;have rp:=k1.get (fun h=>h) hprow;have l1:(K++[IObj.row x.cells false]).length=K.length+1:=by simp
   have hF1:Frame (fun j=>B<=j/\¬j=p) H0 (K++[IObj.row x.cells false]):=hF.tr k1.no;generalize K++[IObj.row x.cells false]=K1 at *;generalize ha:K.length=a at *;have hZ:∀j,(j=p∨j=a)->j<K1.length:=fun j hj=>by omega
   have hBK:B<=K1.length:=by omega
   have fl0:∀{K2:Heap},K2[a]? =some (.row x.cells false)->lload1 K2 (.ptr a 0)=some (.bool x.low):=fun h=>ld1 h;have fl1:∀{K2:Heap},K2[a]? =some (.row x.cells false)->lload1 K2 (.ptr a 1)=some (.int .i64 x.kd):=fun h=>ld1 h;have fl2:∀{K2:Heap},K2[a]? =some (.row x.cells false)->lload1 K2 (.ptr a 2)=some (.int .i64 x.d):=fun h=>ld1 h;have fl3:∀{K2:Heap},K2[a]? =some (.row x.cells false)->lload1 K2 (.ptr a 3)=some (.int .i64 x.t):=fun h=>ld1 h;have fl4:∀{K2:Heap},K2[a]? =some (.row x.cells false)->lload1 K2 (.ptr a 4)=some (.int .i64 x.n):=fun h=>ld1 h;have fl5:∀{K2:Heap},K2[a]? =some (.row x.cells false)->lload1 K2 (.ptr a 5)=some (.str x.a):=fun h=>ld1 h;have fl6:∀{K2:Heap},K2[a]? =some (.row x.cells false)->lload1 K2 (.ptr a 6)=some (.str x.b):=fun h=>ld1 h;have kp:∀{K2:Heap},Frame (fun j=>B<=j/\¬(j=p∨j=a)) K1 K2->K2[a]? =some (.row x.cells false):=fun h=>h.get (fun h=>h.2 (.inr rfl)) ra;simp only[loff_ptr,ob_some,Nat.zero_add,fl6 ra,llen_str,lbin_gtr,lchk_ptr];refine Wp.dec (fun _=>Wp.ret (hbad K1 hF1)) (fun hlen=> ?_);have p0:lload1 K1 (.ptr p 0)=some (.ptr b1 0):=ld1 rp;have p1:lload1 K1 (.ptr p 1)=some (.ptr b2 0):=ld1 rp;have p2:lload1 K1 (.ptr p 2)=some (.ptr r1 0):=ld1 rp;have p3:lload1 K1 (.ptr p 3)=some (.ptr r2 0):=ld1 rp;simp only[p0,p1,p2,p3,ob_some,fl0 ra];refine jn2 (fun y z=>(y=.ptr b1 0/\z=.ptr r1 0)∨(y=.ptr b2 0/\z=.ptr r2 0)) ?_ ?_
   ·
    intro y z hyz;obtain⟨ba,rra,bb,rb,rfl,rfl,hWa,hback⟩:∃ba rra bb rb,y=.ptr ba 0/\z=.ptr rra 0/\W2 (2*i) B (fun j=>j=p∨j=a) K1 ba rra bb rb/\∀c Z K2,W2 c B Z K2 ba rra bb rb->W2 c B Z K2 b1 r1 b2 r2:=by
     rcases hyz with⟨rfl,rfl⟩ | ⟨rfl,rfl⟩
     ·exact⟨b1,r1,b2,r2,rfl,rfl,hW1,fun _ _ _ h=>h⟩
     ·exact⟨b2,r2,b1,r1,rfl,rfl,hW1.swap,fun _ _ _ h=>h.swap⟩
    simp only[fl1 ra,ob_some];refine jn1 (fun K2=>W2 (2*i+2) B (fun j=>j=p∨j=a) K2 ba rra bb rb/\Frame (fun j=>B<=j/\¬(j=p∨j=a)) K1 K2) ?_ ?_
    ·rintro K2 ⟨q1,q2⟩;rw[lbin_add,ob_some,wrap_i64 (by omega) (by omega),show((i:Nat):Int)+1=((i+1:Nat):Int) by omega];exact ih (i+1) n K2 (by omega) (by omega) ((hback _ _ _ q1).forget fun j hj=>.inl hj) (hF1.tr (q2.mono fun j hj=>⟨hj.1,fun e=>hj.2 (.inl e)⟩))
    ·intro J hJ;have hJ':∀K2,W2 (2*i+2) B (fun j=>j=p∨j=a) K2 ba rra bb rb->Frame (fun j=>B<=j/\¬(j=p∨j=a)) K1 K2->Wp (J K2) Q:=fun K2 h1 h2=>hJ K2 ⟨h1,h2⟩;have c9:∀{st:Brs},BInv (2*i) st->LenInv 999999 st:=fun h=>(h.mono (by omega)).len;simp only[lbin_eql,ob_some];refine Wp.dec (fun _=> ?_) (fun _=> ?_)
     ·simp only[fl2 ra,fl4 ra,fl5 ra,fl6 ra,ob_some];refine hWa.two hBK hZ (fun o st g1 g2 _=>(hb.make o K1 ba st x.d x.a x.n x.b g1 g2.ki (c9 g2) g2.fi).mono fun r hr=>hr.act g2) ?_;intro r hf hw;simp only[fl2 (kp hf),fl4 (kp hf),fl5 (kp hf),fl6 (kp hf),ob_some];exact hw.two' hf hBK hZ (fun o s R g _=>hb.rmake _ o r.2 rra s R x.d x.a x.n x.b g (by omega)) hJ'
     refine Wp.dec (fun _=> ?_) (fun _=> ?_)
     ·simp only[fl2 ra,fl3 ra,fl5 ra,ob_some];refine hWa.two hBK hZ (fun o st g1 g2 _=>(hb.link o K1 ba st x.d x.a x.t g1 g2.ki (c9 g2)).mono fun r hr=>hr.act g2) ?_;intro r hf hw;simp only[fl2 (kp hf),fl3 (kp hf),fl5 (kp hf),ob_some];exact hw.two' hf hBK hZ (fun o s R g _=>hb.rlink _ o r.2 rra s R x.d x.a x.t g (by omega)) hJ'
     refine Wp.dec (fun _=> ?_) (fun _=> ?_)
     ·simp only[fl2 ra,fl5 ra,ob_some];refine hWa.two hBK hZ (fun o st g1 g2 _=>(hb.unl o K1 ba st x.d x.a g1 g2.ki (c9 g2) g2.ei (by have:=g2.flen;omega)).mono fun r hr=>hr.act g2) ?_;intro r hf hw;simp only[fl2 (kp hf),fl5 (kp hf),ob_some];exact hw.two' hf hBK hZ (fun o s R g _=>(hb.runl _ o r.2 rra s R x.d x.a g (by omega)).mono fun _ h=>h.mono (by omega)) hJ'
     refine Wp.dec (fun _=> ?_) (fun _=> ?_)
     ·simp only[fl2 ra,fl4 ra,ob_some];refine hWa.two hBK hZ (fun o st g1 g2 _=>(hb.mark o K1 ba st x.d x.n g1).mono fun r hr=>hr.act g2) ?_;intro r hf hw;simp only[fl2 (kp hf),fl4 (kp hf),ob_some];exact hw.two' hf hBK hZ (fun o s R g _=>(hb.rmark _ o r.2 rra s R x.d x.n g).mono fun _ h=>h.mono (by omega)) hJ'
     refine Wp.dec (fun _=> ?_) (fun _=> ?_)
     ·simp only[fl2 ra,fl6 ra,ob_some];have es:ls2b K1 (.str x.b)=some (.slice K1.length 0 x.b.length x.b.length false 1,K1++[.row (x.b.map fun b=>.int .u8 b.toNat) false]):=rfl;rw[es,ob_some];have kA:Frame NoF K1 (K1++[IObj.row (x.b.map fun b=>.int .u8 b.toNat) false]):=Frame.push _ _ _;have hWb:=hWa.push (.row (x.b.map fun b=>.int .u8 b.toNat) false);have slA:=s2b_sl K1 x.b;have lA:(K1++[IObj.row (x.b.map fun b=>.int .u8 b.toNat) false]).length=K1.length+1:=by simp
      generalize K1++[IObj.row (x.b.map fun b=>.int .u8 b.toNat) false]=K2 at *;simp only;have hZ2:∀j,((j=p∨j=a)∨j=K1.length)->j<K2.length:=fun j hj=>by omega
      have at0:∀{o:Nat->Nat} {X n:Nat} {Z:Nat->Prop},UpZ B (fun j=>Z j∨j=X) o->At (fun j=>o j=0) (.slice X 0 n n false 1):=fun {o X n Z} hu=>by
       intro b' o' n' lb ex sz e hn;injection e with i1
       subst i1
       cases e0:o X with
       | zero=>rfl
       | succ k=>exact absurd (.inr rfl) (hu X (by omega)).2
      refine Wp.call (hWb.act1 (by omega) hZ2 (fun o st g1 g2 hu=>(hb.write o K2 ba st x.d 0 _ _ _ g1 g2.ki slA (bytes_one x.b) (at0 hu) (by omega)).mono fun r hr=>⟨o,st,hr.2,g2.mono (by omega)⟩)) ?_;rintro r ⟨w1,w2⟩;have w2':Frame (fun j=>B<=j/\¬(j=p∨j=a)) K1 r.2:=⟨by have:=w2.1;omega,fun j hj hn=>by
       rw[w2.2 j (by omega) (fun h=>hn ⟨h.1,fun e=>h.2 (.inl e)⟩),kA.2 j hj (fun h=>h)]⟩
      simp only[fl2 (kp w2'),fl6 (kp w2'),ob_some];have es2:ls2b r.2 (.str x.b)=some (.slice r.2.length 0 x.b.length x.b.length false 1,r.2++[.row (x.b.map fun b=>.int .u8 b.toNat) false]):=rfl;rw[es2,ob_some];have kB:Frame NoF r.2 (r.2++[IObj.row (x.b.map fun b=>.int .u8 b.toNat) false]):=Frame.push _ _ _;have hWd:=(w1.forget (Z':=fun j=>j=p∨j=a) fun j hj=>.inl hj).push (.row (x.b.map fun b=>.int .u8 b.toNat) false);have slB:=s2b_sl r.2 x.b;have lB:(r.2++[IObj.row (x.b.map fun b=>.int .u8 b.toNat) false]).length=r.2.length+1:=by simp
      have hle:=w2'.1;generalize r.2++[IObj.row (x.b.map fun b=>.int .u8 b.toNat) false]=K3 at *;simp only;refine Wp.call (hWd.act2 (by omega) (fun j hj=>by omega) (fun o s R g hu=>(hb.rwrite (2*i+1) o K3 rra s R x.d 0 _ _ _ g (by omega) slB (bytes_one x.b) (at0 hu)).mono fun r hr=>hr.mono (by omega))) ?_;rintro r' ⟨v1,v2⟩;refine hJ' r'.2 (v1.forget fun j hj=>.inl hj) ((w2'.tr kB.no).trans v2 fun j hj hh=>⟨hh.1,fun e=>hh.2 (.inl e)⟩)
     refine Wp.dec (fun _=> ?_) (fun _=> ?_)
     ·simp only[fl2 ra,fl3 ra,fl5 ra,fl6 ra,ob_some];refine hWa.two hBK hZ (fun o st g1 g2 _=> ?_) ?_
      ·obtain⟨rk,hR⟩:=g2.rank;exact(hb.ren rk o K1 ba st x.d x.a x.t x.b g1 g2.ki (c9 g2) g2.ei hR (by have:=g2.flen;omega)).mono fun r hr=>hr.act g2 hR
      intro r hf hw;simp only[fl2 (kp hf),fl3 (kp hf),fl5 (kp hf),fl6 (kp hf),ob_some];exact hw.two' hf hBK hZ (fun o s R g _=>hb.rren _ o r.2 rra s R x.d x.a x.t x.b g (by omega)) hJ'
     ·exact hJ' K1 (by obtain⟨o1,o2,o3,o4,h1,h2,h3,h4,d,u⟩:=hWa;exact⟨o1,o2,o3,o4,h1.frame (by omega) (Frame.refl NoF _) fun _ _ h=>h,h2.frame (by omega) (Frame.refl NoF _) fun _ _ h=>h,h3.frame (by omega) (Frame.refl NoF _) fun _ _ h=>h,h4.frame (by omega) (Frame.refl NoF _) fun _ _ h=>h,d,u⟩) (Frame.refl _ _)
   ·intro J hJ
    cases x.low with
    | true=>rw[cnd_true];exact hJ _ _ (.inr ⟨rfl,rfl⟩)
    | false=>rw[cnd_false];exact hJ _ _ (.inl ⟨rfl,rfl⟩)
  ·rw[decide_eq_false (by omega)];simp only[isB_ft,gq_false,ob_some,lpick_false,cnd_false];exact hk _ K (by omega) hW hF
end
end Go.Shade
namespace Go.Shade
section
variable {cal : FuncId -> Bool} {O : Oracle} {N : Nat}
variable {f1 f2 f3 f4 f5 f6 f7 f8 f9 f10 f11 f12 f13 f14 : FuncId}
theorem NewBr.le {B:Nat}{K:Heap}{b:Nat}{room:Int}(h:NewBr B K b room):B<=b:=by
 obtain⟨s,q,d,x,P,a1,a2,a3,a4,a5,a6,b1,b2,_⟩:=h.ex;omega
def BldP (H:Heap)(r:Out):Prop:=Frame NoF H r.2/\(r.1=.tuple [.nilPtr,.bool false]∨∃p b1 r1 b2 r2,H.length<=p/\r.1=.tuple [.ptr p 0,.bool true]/\r.2[p]? =some (.row [.ptr b1 0,.ptr b2 0,.ptr r1 0,.ptr r2 0] false)/\W2 160 H.length (fun j=>j=p) r.2 b1 r1 b2 r2)
def BuildOk (O:Oracle)(f:FuncId):Prop:=∀(H:Heap) (v:IV) (l:List MAct),MActs H.length H v l->Wp (O f [v] H) (BldP H)
theorem build_s (hN:82<N)(hb:BldOk O f1 f2 f3 f4 f5 f6 f7 f8 f9 f10 f11 f12 f13 f14){H:Heap}{v:IV}{l:List MAct}(hv:MActs H.length H v l):Wp (veneerlaw10BuildS cal O N f1 f2 f3 f4 f5 f6 f7 f8 f9 f10 f11 f12 f13 f14 v H) (BldP H):=by
 unfold veneerlaw10BuildS veneerlaw10BuildC6S veneerlaw10BuildC5S;refine Wp.call (hb.bnew H 500) ?_;rintro⟨w1,K1⟩ ⟨k1,g1⟩;rw[if_pos (by decide)]at g1;obtain⟨b1,rfl,n1⟩:=g1;obtain⟨o1,st1,c1,d1,e1⟩:=n1.ok n1.le;simp only at k1 c1 ⊢;refine Wp.call (hb.bnew K1 500) ?_;rintro⟨w2,K2⟩ ⟨k2,g2⟩;rw[if_pos (by decide)]at g2;obtain⟨b2,rfl,n2⟩:=g2;obtain⟨o2,st2,c2,d2,e2⟩:=n2.ok n2.le;simp only at k2 c2 ⊢;refine Wp.call (hb.rnew K2) ?_;rintro⟨w3,K3⟩ ⟨k3,o3,r1,s1,R1,rfl,c3,e3⟩;simp only at k3 c3 ⊢;refine Wp.call (hb.rnew K3) ?_;rintro⟨w4,K4⟩ ⟨k4,o4,r2,s2,R2,rfl,c4,e4⟩;simp only at k4 c4 ⊢;have t1:=k1.1;have t2:=k2.1;have t3:=k3.1;have t4:=k4.1;have hW:W2 0 H.length (fun _=>False) K4 b1 r1 b2 r2:=by
  have x1:X1 0 o1 K4 b1:=⟨st1,(((c1.kp k2).kp k3).kp k4),d1⟩;have x2:X1 0 o2 K4 b2:=⟨st2,((c2.kp k3).kp k4),d2⟩;have x3:X2 0 o3 K4 r1:=⟨s1,R1,c3.kp k4⟩;have x4:X2 0 o4 K4 r2:=⟨s2,R2,c4⟩;have dj:∀{o o':Nat->Nat} {m:Nat},(∀j,o j≠0->j<m)->(∀j,o' j≠0->m<=j)->Dj o o':=fun {o o' m} h1 h2 j hj=>by
   cases e:o' j with
   | zero=>rfl
   | succ n=>have:=h2 j (by omega);have:=h1 j hj;omega
  have m1:∀j,o1 j≠0->j<K1.length:=fun j hj=>c1.lt j hj;have m2:∀j,o2 j≠0->j<K2.length:=fun j hj=>c2.lt j hj;have m3:∀j,o3 j≠0->j<K3.length:=fun j hj=>c3.lt j hj;exact⟨o1,o3,o2,o4,x1,x3,x2,x4,⟨dj m1 fun j hj=>by have:=e3 j hj;omega,dj m1 e2,dj m1 fun j hj=>by have:=e4 j hj;omega,(dj m2 e3).symm,dj m3 e4,dj m2 fun j hj=>by have:=e4 j hj;omega⟩,fun j hj=>⟨e1 j hj,fun h=>h⟩,fun j hj=>⟨by have:=e3 j hj;omega,fun h=>h⟩,fun j hj=>⟨by have:=e2 j hj;omega,fun h=>h⟩,fun j hj=>⟨by have:=e4 j hj;omega,fun h=>h⟩⟩
 have kF:Frame NoF H K4:=((k1.tr k2).tr k3).tr k4;have eb:lbld [.nilPtr,.nilPtr,.nilPtr,.nilPtr] [(0,1,.ptr b1 0),(1,1,.ptr b2 0),(2,1,.ptr r1 0),(3,1,.ptr r2 0)]=some (.agg [.ptr b1 0,.ptr b2 0,.ptr r1 0,.ptr r2 0]):=rfl;rw[eb,ob_some,lbox_agg rfl,ob_some];have hW1:=hW.push (.row [.ptr b1 0,.ptr b2 0,.ptr r1 0,.ptr r2 0] false);have kp:Frame NoF K4 (K4++[IObj.row [.ptr b1 0,.ptr b2 0,.ptr r1 0,.ptr r2 0] false]):=Frame.push _ _ _;have rp:(K4++[IObj.row [.ptr b1 0,.ptr b2 0,.ptr r1 0,.ptr r2 0] false])[K4.length]? =some (.row [.ptr b1 0,.ptr b2 0,.ptr r1 0,.ptr r2 0] false):=newRow;have l5:(K4++[IObj.row [.ptr b1 0,.ptr b2 0,.ptr r1 0,.ptr r2 0] false]).length=K4.length+1:=by simp
 generalize K4++[IObj.row [.ptr b1 0,.ptr b2 0,.ptr r1 0,.ptr r2 0] false]=K5 at *;generalize hp:K4.length=p at *;have kF5:=kF.tr kp;unfold veneerlaw10BuildC4S;have p0:lload1 K5 (.ptr p 0)=some (.ptr b1 0):=ld1 rp;have p1:lload1 K5 (.ptr p 1)=some (.ptr b2 0):=ld1 rp;have q0:leqv false (leq .ptr (.ptr b1 0) .nilPtr)=some (.bool false):=rfl;have q1:leqv false (leq .ptr (.ptr b2 0) .nilPtr)=some (.bool false):=rfl;simp only[lchk_ptr,loff_ptr,ob_some,Nat.zero_add,p0,q0,isB_ff,gq_true,p1,q1,lpick_false,cnd_false];unfold veneerlaw10BuildC3S veneerlaw10BuildC2S veneerlaw10BuildC1S;refine bld_go hb (B:=H.length) (H0:=K5) (by omega) (by omega) rp (hv.frame kF5 fun _ _ h=>h) ?_ ?_ 80 0 N K5 (by omega) (by omega) (hW1.forget fun j hj=>.inr hj) (Frame.refl _ _)
 ·intro K hF;refine⟨⟨by have:=hF.1;show H.length<=K.length;omega,fun j hj _=> ?_⟩,.inl rfl⟩;show K[j]? =_;rw[hF.2 j (by omega) (by omega),kF5.2 j hj (fun h=>h)]
 ·intro c K hc hW' hF;have hpK:K[p]? =some (.row [.ptr b1 0,.ptr b2 0,.ptr r1 0,.ptr r2 0] false):=hF.get (fun h=>h.2 rfl) rp;refine Wp.ret ⟨⟨by have:=hF.1;show H.length<=K.length;omega,fun j hj _=> ?_⟩,.inr ⟨p,b1,r1,b2,r2,by omega,rfl,hpK,?_⟩⟩
  ·show K[j]? =_;rw[hF.2 j (by omega) (by omega),kF5.2 j hj (fun h=>h)]
  ·obtain⟨o1,o2,o3,o4,h1,h2,h3,h4,d,u⟩:=hW';exact⟨o1,o2,o3,o4,h1.frame hc (Frame.refl NoF _) fun _ _ h=>h,h2.frame hc (Frame.refl NoF _) fun _ _ h=>h,h3.frame hc (Frame.refl NoF _) fun _ _ h=>h,h4.frame hc (Frame.refl NoF _) fun _ _ h=>h,d,u⟩
end
end Go.Shade
namespace Go.Shade
variable {f : FuncId}
def andI (a:Int):Int:=IntKind.wrap .i64 (BitVec.ofInt IntKind.i64.bits a &&& BitVec.ofInt IntKind.i64.bits 1).toNat
theorem lbin_and1 {a:Int}:lbin .and (.int .i64 a) (.int .i64 1)=some (.int .i64 (andI a)):=id rfl
def opq (st:Brs)(u:Int):Bool:= !decide (andI (marksOf st u)=0)
def kindV (st1 st2:Brs)(U L:Int):Int:=if U=0 then(if kindOf st2 L=4 then 0 else kindOf st2 L)else(if kindOf st1 U=4 then 0 else kindOf st1 U)
def dirE (st1 st2:Brs)(U L:Int):Int:=if kindV st1 st2 U L=0 then 2 else if kindV st1 st2 U L=2 then 0 else 20
def belV (st1 st2:Brs)(U L:Int)(s:Nam):Int:=if L=0 then 0 else if U=0 then(getOf st2 L s).1 else if opq st1 U=true then 0 else(getOf st2 L s).1
def lowV (st2:Brs)(b:Int):(Int×Int)×Int:=if kindOf st2 b=0 then((0,0),2)else if kindOf st2 b=4 then((0,0),2)else((0,b),0)
def bothV (st1 st2:Brs)(x b:Int):Int:=if kindOf st1 x=2 then(if opq st1 x=true then 0 else if kindOf st2 b=2 then b else 0)else 0
def getV (st1 st2:Brs)(U L:Int)(s:Nam):(Int×Int)×Int :=
 if dirE st1 st2 U L=0 then
  if U=0 then lowV st2 (belV st1 st2 U L s)
  else if(getOf st1 U s).2=0 then
   if kindOf st1 (getOf st1 U s).1=4 then((0,0),2)
   else(((getOf st1 U s).1,bothV st1 st2 (getOf st1 U s).1 (belV st1 st2 U L s)),0)
  else lowV st2 (belV st1 st2 U L s)
 else((0,0),dirE st1 st2 U L)
structure VwOk (H:Heap)(v b1 b2:Nat)(u l:Int)(st1 st2:Brs):Prop where
 row:H[v]? =some (.row [.ptr b1 0,.ptr b2 0,.int .i64 u,.int .i64 l] false)
 up:∃o,BrOk o H b1 st1
 low:∃o,BrOk o H b2 st2
 k1:KInv st1
 k2:KInv st2
 l1:LenInv 1000000 st1
 l2:LenInv 1000000 st2
def nodV (U L:Int):IV:=.agg [.int .i64 U,.int .i64 L]
section
variable {cal : FuncId -> Bool} {O : Oracle} {N : Nat}
variable {H H' : Heap} {v b1 b2 : Nat} {u l : Int} {st1 st2 : Brs} {U L : Int} {s : Nam}
theorem VwOk.kp (h:VwOk H v b1 b2 u l st1 st2)(k:Frame NoF H H'):VwOk H' v b1 b2 u l st1 st2 :=
 ⟨k.get (fun h=>h) h.row,(by obtain⟨o,a⟩:=h.up;exact⟨o,a.kp k⟩),(by obtain⟨o,a⟩:=h.low;exact⟨o,a.kp k⟩),h.k1,h.k2,h.l1,h.l2⟩
theorem VwOk.p0 (h:VwOk H v b1 b2 u l st1 st2):lload1 H (.ptr v 0)=some (.ptr b1 0):=ld1 h.row
theorem VwOk.p1 (h:VwOk H v b1 b2 u l st1 st2):lload1 H (.ptr v 1)=some (.ptr b2 0):=ld1 h.row
theorem VwOk.kd1 (h:VwOk H v b1 b2 u l st1 st2)(hk:KindOk O f)(i:Int):O f [.ptr b1 0,.int .i64 i] H=some (.int .i64 (kindOf st1 i),H):=by
 obtain⟨o,a⟩:=h.up;exact hk o H b1 st1 i a
theorem VwOk.kd2 (h:VwOk H v b1 b2 u l st1 st2)(hk:KindOk O f)(i:Int):O f [.ptr b2 0,.int .i64 i] H=some (.int .i64 (kindOf st2 i),H):=by
 obtain⟨o,a⟩:=h.low;exact hk o H b2 st2 i a
theorem VwOk.get1 (h:VwOk H v b1 b2 u l st1 st2)(hg:BGetOk O f)(i:Int)(s:Nam):Wp (O f [.ptr b1 0,.int .i64 i,.str s] H) fun r=>r.1=.tuple [.int .i64 (getOf st1 i s).1,.int .i64 (getOf st1 i s).2]/\Frame NoF H r.2:=by
 obtain⟨o,a⟩:=h.up;exact hg o H b1 st1 i s a h.k1 h.l1
theorem VwOk.get2 (h:VwOk H v b1 b2 u l st1 st2)(hg:BGetOk O f)(i:Int)(s:Nam):Wp (O f [.ptr b2 0,.int .i64 i,.str s] H) fun r=>r.1=.tuple [.int .i64 (getOf st2 i s).1,.int .i64 (getOf st2 i s).2]/\Frame NoF H r.2:=by
 obtain⟨o,a⟩:=h.low;exact hg o H b2 st2 i s a h.k2 h.l2
def MNewOk (O:Oracle)(f:FuncId):Prop:=∀(H:Heap) (b1 b2:Nat) (u l:Int),O f [.ptr b1 0,.ptr b2 0,.int .i64 u,.int .i64 l] H=some (.ptr H.length 0,H++[.row [.ptr b1 0,.ptr b2 0,.int .i64 u,.int .i64 l] false])
theorem mnew_s (H:Heap)(b1 b2:Nat)(u l:Int):mergeNewS cal O N (.ptr b1 0) (.ptr b2 0) (.int .i64 u) (.int .i64 l) H=some (.ptr H.length 0,H++[.row [.ptr b1 0,.ptr b2 0,.int .i64 u,.int .i64 l] false]):=rfl
def VOpqOk (O:Oracle)(f:FuncId):Prop:=∀(H:Heap) (v b1 b2:Nat) (u l:Int) (st1 st2:Brs) (U:Int),VwOk H v b1 b2 u l st1 st2->O f [.ptr v 0,.int .i64 U] H=some (.bool (opq st1 U),H)
theorem vopq_s {fm:FuncId}(hm:MarksOk O fm)(h:VwOk H v b1 b2 u l st1 st2):MvOpaqueS cal O N fm (.ptr v 0) (.int .i64 U) H=some (.bool (opq st1 U),H):=by
 unfold MvOpaqueS;obtain⟨o,a⟩:=h.up;simp only[lchk_ptr,loff_ptr,ob_some,Nat.zero_add,h.p0,hm o H b1 st1 U a,lbin_and1,lbin_neq];rfl
theorem boxN {H:Heap}{U L:Int}:lbox H (nodV U L)=some (.ptr H.length 0,H++[.row [.int .i64 U,.int .i64 L] false]):=lbox_agg rfl
def VSideOk (O:Oracle)(f:FuncId):Prop:=∀(H:Heap) (v b1 b2:Nat) (u l:Int) (st1 st2:Brs) (U L:Int),VwOk H v b1 b2 u l st1 st2->Wp (O f [.ptr v 0,nodV U L] H) fun r=>r.1=(if U=0 then .tuple [.ptr b2 0,.int .i64 L]else .tuple [.ptr b1 0,.int .i64 U])/\Frame NoF H r.2
theorem vside_s (h:VwOk H v b1 b2 u l st1 st2):Wp (MvSideS cal O N (.ptr v 0) (nodV U L) H) fun r=>r.1=(if U=0 then .tuple [.ptr b2 0,.int .i64 L]else .tuple [.ptr b1 0,.int .i64 U])/\Frame NoF H r.2:=by
 unfold MvSideS;rw[boxN,ob_some];have k:Frame NoF H (H++[IObj.row [.int .i64 U,.int .i64 L] false]):=Frame.push _ _ _;have rw':(H++[IObj.row [.int .i64 U,.int .i64 L] false])[H.length]? =some (.row [.int .i64 U,.int .i64 L] false):=newRow;have h':=h.kp k;generalize H++[IObj.row [.int .i64 U,.int .i64 L] false]=K at *;have q0:lload1 K (.ptr H.length 0)=some (.int .i64 U):=ld1 rw';have q1:lload1 K (.ptr H.length 1)=some (.int .i64 L):=ld1 rw';simp only[loff_ptr,ob_some,Nat.zero_add,q0,q1,lbin_neq,lchk_ptr,h'.p0,h'.p1];refine Wp.ndec (fun hU=> ?_) (fun hU=> ?_)
 ·rw[if_neg hU];exact Wp.ret ⟨rfl,k⟩
 ·rw[if_pos hU];exact Wp.ret ⟨rfl,k⟩
def VKindOk (O:Oracle)(f:FuncId):Prop:=∀(H:Heap) (v b1 b2:Nat) (u l:Int) (st1 st2:Brs) (U L:Int),VwOk H v b1 b2 u l st1 st2->Wp (O f [.ptr v 0,nodV U L] H) fun r=>r.1=.int .i64 (kindV st1 st2 U L)/\Frame NoF H r.2
theorem vkind_s {fs fk:FuncId}(hs:VSideOk O fs)(hk:KindOk O fk)(h:VwOk H v b1 b2 u l st1 st2):Wp (MvKindS cal O N fs fk (.ptr v 0) (nodV U L) H) fun r=>r.1=.int .i64 (kindV st1 st2 U L)/\Frame NoF H r.2:=by
 unfold MvKindS;rw[boxN,ob_some];have k:Frame NoF H (H++[IObj.row [.int .i64 U,.int .i64 L] false]):=Frame.push _ _ _;have rw':(H++[IObj.row [.int .i64 U,.int .i64 L] false])[H.length]? =some (.row [.int .i64 U,.int .i64 L] false):=newRow;have h':=h.kp k;generalize H++[IObj.row [.int .i64 U,.int .i64 L] false]=K at *;rw[ldn (n:=2) rw' rfl,ob_some];refine Wp.call (hs K v b1 b2 u l st1 st2 U L h') ?_;rintro⟨w,K2⟩ ⟨e,k2⟩;simp only at e k2 ⊢;have h2:=h'.kp k2;by_cases hU:U=0
 ·rw[if_pos hU]at e;subst e;simp only[iextract_tuple,List.getElem?_cons_zero,List.getElem?_cons_succ,ob_some,h2.kd2 hk,lbin_neq];unfold kindV;rw[if_pos hU];refine Wp.ndec (fun hn=> ?_) (fun hn=> ?_)
  ·rw[if_neg hn];exact Wp.ret ⟨rfl,k.tr k2⟩
  ·rw[if_pos hn];exact Wp.ret ⟨rfl,k.tr k2⟩
 ·rw[if_neg hU]at e;subst e;simp only[iextract_tuple,List.getElem?_cons_zero,List.getElem?_cons_succ,ob_some,h2.kd1 hk,lbin_neq];unfold kindV;rw[if_neg hU];refine Wp.ndec (fun hn=> ?_) (fun hn=> ?_)
  ·rw[if_neg hn];exact Wp.ret ⟨rfl,k.tr k2⟩
  ·rw[if_pos hn];exact Wp.ret ⟨rfl,k.tr k2⟩
def VDirOk (O:Oracle)(f:FuncId):Prop:=∀(H:Heap) (v b1 b2:Nat) (u l:Int) (st1 st2:Brs) (U L:Int),VwOk H v b1 b2 u l st1 st2->Wp (O f [.ptr v 0,nodV U L] H) fun r=>r.1=.int .i64 (dirE st1 st2 U L)/\Frame NoF H r.2
theorem vdir_s {fk:FuncId}(hk:VKindOk O fk)(h:VwOk H v b1 b2 u l st1 st2):Wp (MvDirS cal O N fk (.ptr v 0) (nodV U L) H) fun r=>r.1=.int .i64 (dirE st1 st2 U L)/\Frame NoF H r.2:=by
 unfold MvDirS;rw[boxN,ob_some];have k:Frame NoF H (H++[IObj.row [.int .i64 U,.int .i64 L] false]):=Frame.push _ _ _;have rw':(H++[IObj.row [.int .i64 U,.int .i64 L] false])[H.length]? =some (.row [.int .i64 U,.int .i64 L] false):=newRow;have h':=h.kp k;generalize H++[IObj.row [.int .i64 U,.int .i64 L] false]=K at *;rw[ldn (n:=2) rw' rfl,ob_some];refine Wp.call (hk K v b1 b2 u l st1 st2 U L h') ?_;rintro⟨w,K2⟩ ⟨rfl,k2⟩;simp only;unfold dirE;rw[lbin_eql,ob_some];refine Wp.dec (fun hn=> ?_) (fun hn=> ?_)
 ·rw[if_pos hn];exact Wp.ret ⟨rfl,k.tr k2⟩
 ·rw[if_neg hn,lbin_eql,ob_some];refine Wp.dec (fun hn=> ?_) (fun hn=> ?_)
  ·rw[if_pos hn];exact Wp.ret ⟨rfl,k.tr k2⟩
  ·rw[if_neg hn];exact Wp.ret ⟨rfl,k.tr k2⟩
def VBelOk (O:Oracle)(f:FuncId):Prop:=∀(H:Heap) (v b1 b2:Nat) (u l:Int) (st1 st2:Brs) (U L:Int) (s:Nam),VwOk H v b1 b2 u l st1 st2->Wp (O f [.ptr v 0,nodV U L,.str s] H) fun r=>r.1=.int .i64 (belV st1 st2 U L s)/\Frame NoF H r.2
theorem vbel_s {fo fg:FuncId}(ho:VOpqOk O fo)(hg:BGetOk O fg)(h:VwOk H v b1 b2 u l st1 st2):Wp (MvBelowS cal O N fo fg (.ptr v 0) (nodV U L) (.str s) H) fun r=>r.1=.int .i64 (belV st1 st2 U L s)/\Frame NoF H r.2:=by
 unfold MvBelowS;rw[boxN,ob_some];have k:Frame NoF H (H++[IObj.row [.int .i64 U,.int .i64 L] false]):=Frame.push _ _ _;have rw':(H++[IObj.row [.int .i64 U,.int .i64 L] false])[H.length]? =some (.row [.int .i64 U,.int .i64 L] false):=newRow;have h':=h.kp k;generalize H++[IObj.row [.int .i64 U,.int .i64 L] false]=K at *;have q0:lload1 K (.ptr H.length 0)=some (.int .i64 U):=ld1 rw';have q1:lload1 K (.ptr H.length 1)=some (.int .i64 L):=ld1 rw';have get:Wp (ob (O fg [.ptr b2 0,.int .i64 L,.str s] K) fun r20 =>
  ob (iextract r20.1 0) fun t21 =>
  ob (iextract r20.1 1) fun t22 =>
  some (t21,r20.2)) fun r=>r.1=.int .i64 (getOf st2 L s).1/\Frame NoF H r.2:=by
  refine Wp.call (h'.get2 hg L s) ?_;rintro⟨w,K2⟩ ⟨rfl,k2⟩;exact Wp.ret ⟨rfl,k.tr k2⟩
 unfold belV;simp only[loff_ptr,ob_some,Nat.zero_add,q0,q1,lbin_eql];by_cases hL:L=0
 ·rw[decide_eq_true hL,if_pos hL];have hut:isB (.tuple []) true=false:=rfl;simp only[isB_tf,gq_false,ge_false,ob_some,lpick_true,cnd_true,hut];exact Wp.ret ⟨rfl,k⟩
 ·rw[decide_eq_false hL,if_neg hL];simp only[isB_ff,gq_true,ob_some,q0,q1,lbin_neq];by_cases hU:U=0
  ·rw[decide_eq_true hU,if_pos hU];simp only[Bool.not_true,isB_ft,gq_false,ge_false,ob_some,lpick_false,cnd_false,lchk_ptr,loff_ptr,Nat.zero_add,h'.p1,q1];exact get
  ·rw[decide_eq_false hU,if_neg hU];simp only[Bool.not_false,isB_tt,gq_true,ge_true,ob_some,q0,ho K v b1 b2 u l st1 st2 U h',lpick_true,lpick_false]
   cases opq st1 U with
   | true=>rw[cnd_true,if_pos rfl];exact Wp.ret ⟨rfl,k⟩
   | false =>
    rw[cnd_false,if_neg (by decide)];simp only[lchk_ptr,loff_ptr,ob_some,Nat.zero_add,h'.p1,q1];exact get
end
end Go.Shade
namespace Go.Shade
section
variable {cal : FuncId -> Bool} {O : Oracle} {N : Nat}
variable {H H' : Heap} {v b1 b2 : Nat} {u l : Int} {st1 st2 : Brs} {U L : Int} {s : Nam}
def getR (x:(Int×Int)×Int):IV:=.tuple [nodV x.1.1 x.1.2,.int .i64 x.2]
def VGetOk (O:Oracle)(f:FuncId):Prop:=∀(H:Heap) (v b1 b2:Nat) (u l:Int) (st1 st2:Brs) (U L:Int) (s:Nam),VwOk H v b1 b2 u l st1 st2->Wp (O f [.ptr v 0,nodV U L,.str s] H) fun r=>r.1=getR (getV st1 st2 U L s)/\Frame NoF H r.2
theorem vget_s {fd fb fg fk fo:FuncId}(hd:VDirOk O fd)(hb:VBelOk O fb)(hg:BGetOk O fg)(hk:KindOk O fk)(ho:VOpqOk O fo)(h:VwOk H v b1 b2 u l st1 st2):Wp (MvGetS cal O N fd fb fg fk fo (.ptr v 0) (nodV U L) (.str s) H) fun r=>r.1=getR (getV st1 st2 U L s)/\Frame NoF H r.2:=by
 unfold MvGetS;rw[boxN,ob_some,lzbox_eq,ob_some];simp only[cells_agg];have k0:Frame NoF H (H++[IObj.row [.int .i64 U,.int .i64 L] false]):=Frame.push _ _ _;have ra0:(H++[IObj.row [.int .i64 U,.int .i64 L] false])[H.length]? =some (.row [.int .i64 U,.int .i64 L] false):=newRow;have l0:(H++[IObj.row [.int .i64 U,.int .i64 L] false]).length=H.length+1:=by simp
 generalize H++[IObj.row [.int .i64 U,.int .i64 L] false]=K0 at *;have k1:Frame NoF K0 (K0++[IObj.row [.int .i64 0,.int .i64 0] false]):=Frame.push _ _ _;have rc:(K0++[IObj.row [.int .i64 0,.int .i64 0] false])[K0.length]? =some (.row [.int .i64 0,.int .i64 0] false):=newRow;have ra:=k1.get (fun h=>h) ra0;have kH:=k0.tr k1;generalize K0++[IObj.row [.int .i64 0,.int .i64 0] false]=K at *;generalize hc:K0.length=c at *;have hV:=h.kp kH;have lse:∀{K2:Heap} (x y e:Int),Frame NoF K K2->Wp (ob (lstV K2 2 (.ptr c 0) (.agg [.int .i64 x,.int .i64 y])) fun r7 =>
   ob (lloadn r7.2 2 (.ptr c 0)) fun t8 =>
   some ((IV.tuple [t8,.int .i64 e]),r7.2)) fun r=>r.1=.tuple [nodV x y,.int .i64 e]/\Frame NoF H r.2:=by
  intro K2 x y e kf;rw[stn (n:=2) (kf.get (fun h=>h) rc) rfl rfl rfl,ob_some];simp only;rw[ldn (n:=2) (setAt (kf.get (fun h=>h) rc)) rfl,ob_some];exact Wp.ret ⟨rfl,(kH.tr kf).setNew _ (by omega)⟩
 have b0:lbld [(.int .i64 0),(.int .i64 0)] []=some (.agg [.int .i64 0,.int .i64 0]):=rfl;have bU:∀x:Int,lbld [(.int .i64 0),(.int .i64 0)] [(0,1,.int .i64 x)]=some (.agg [.int .i64 x,.int .i64 0]):=fun x=>rfl;have bL:∀x:Int,lbld [(.int .i64 0),(.int .i64 0)] [(1,1,.int .i64 x)]=some (.agg [.int .i64 0,.int .i64 x]):=fun x=>rfl;have bUL:∀x y:Int,lbld [(.int .i64 0),(.int .i64 0)] [(0,1,.int .i64 x),(1,1,.int .i64 y)]=some (.agg [.int .i64 x,.int .i64 y]):=fun x y=>rfl;rw[ldn (n:=2) ra rfl,ob_some];refine Wp.call (hd K v b1 b2 u l st1 st2 U L hV) ?_;rintro⟨w,K2⟩ ⟨rfl,k2⟩;simp only at k2 ⊢;unfold getV;rw[lbin_neq,ob_some];refine Wp.ndec (fun hn=> ?_) (fun hn=> ?_)
 ·rw[if_neg hn,b0,ob_some];exact lse 0 0 _ k2
 rw[if_pos hn,ldn (n:=2) (k2.get (fun h=>h) ra) rfl,ob_some];refine Wp.call (hb K2 v b1 b2 u l st1 st2 U L s (hV.kp k2)) ?_;rintro⟨w,K3⟩ ⟨rfl,k3⟩;simp only at k3 ⊢;have kf:=k2.tr k3;have hV3:=hV.kp kf;have ra3:=kf.get (fun h=>h) ra;generalize belV st1 st2 U L s=bv at *;have q0:lload1 K3 (.ptr H.length 0)=some (.int .i64 U):=ld1 ra3;have low:∀{K4:Heap},Frame NoF K K4->Wp (ob (lchk (.ptr v 0)) fun t31 =>
  ob (loff t31 1) fun t32 =>
  ob (lload1 K4 t32) fun t33 =>
  ob (O fk [t33,(.int .i64 bv)] K4) fun r34 =>
  ob (lbin .eql r34.1 (.int .i64 0)) fun t35 =>
  ob (gq (isB t35 false) (some (.ptr v 0))) fun t36 =>
  ob (gq (isB t35 false) (lchk t36)) fun t37 =>
  ob (gq (isB t35 false) (loff t37 1)) fun t38 =>
  ob (gq (isB t35 false) (lload1 r34.2 t38)) fun t39 =>
  ob (gq (isB t35 false) (some (.int .i64 bv))) fun t40 =>
  ob (ge (isB t35 false) r34.2 (O fk [t39,t40] r34.2)) fun r41 =>
  ob (gq (isB t35 false) (lbin .eql r41.1 (.int .i64 4))) fun t42 =>
  ob (lpick t35 (.bool true) t42) fun t43 =>
  cnd t43
  (ob (lbld [(.int .i64 0),(.int .i64 0)] []) fun t44 =>
  ob (lstV r41.2 2 (.ptr c 0) t44) fun r45 =>
  ob (lloadn r45.2 2 (.ptr c 0)) fun t46 =>
  some ((IV.tuple [t46,(.int .i64 2)]),r45.2))
  (ob (lbld [(.int .i64 0),(.int .i64 0)] [(1,1,(.int .i64 bv))]) fun t47 =>
  ob (lstV r41.2 2 (.ptr c 0) t47) fun r48 =>
  ob (lloadn r48.2 2 (.ptr c 0)) fun t49 =>
  some ((IV.tuple [t49,(.int .i64 0)]),r48.2))) fun r=>r.1=getR (lowV st2 bv)/\Frame NoF H r.2:=by
  intro K4 k4;have hV4:=hV.kp k4;unfold lowV;simp only[lchk_ptr,loff_ptr,ob_some,Nat.zero_add,hV4.p1,hV4.kd2 hk,lbin_eql];by_cases hz:kindOf st2 bv=0
  ·rw[decide_eq_true hz,if_pos hz];simp only[isB_tf,gq_false,ge_false,ob_some,lpick_true,cnd_true,b0];exact lse 0 0 2 k4
  ·rw[decide_eq_false hz,if_neg hz];simp only[isB_ff,gq_true,ge_true,ob_some,lchk_ptr,loff_ptr,Nat.zero_add,hV4.p1,hV4.kd2 hk,lbin_eql,lpick_false];refine Wp.dec (fun h4=> ?_) (fun h4=> ?_)
   ·rw[if_pos h4,b0,ob_some];exact lse 0 0 2 k4
   ·rw[if_neg h4,bL,ob_some];exact lse 0 bv 0 k4
 rw[jn_eq];simp only[loff_ptr,ob_some,Nat.zero_add,q0,lbin_neq];refine Wp.ndec (fun hU=> ?_) (fun hU=> ?_)
 ·rw[if_neg hU];have hp0:lload1 K3 (.ptr v 0)=some (.ptr b1 0):=hV3.p0;simp only[lchk_ptr,loff_ptr,ob_some,Nat.zero_add,hp0,q0];refine Wp.call (hV3.get1 hg U s) ?_;rintro⟨w,K4⟩ ⟨rfl,k4⟩;simp only at k4 ⊢;have kf4:=kf.tr k4;have hV4:=hV.kp kf4;generalize getOf st1 U s=g at *;obtain⟨x,e⟩:=g;simp only[iextract_tuple,List.getElem?_cons_zero,List.getElem?_cons_succ,ob_some,lbin_eql];refine Wp.dec (fun he=> ?_) (fun he=> ?_)
  ·rw[if_pos he];simp only[lchk_ptr,loff_ptr,ob_some,Nat.zero_add,hV4.p0,hV4.kd1 hk,lbin_eql];refine Wp.dec (fun h4=> ?_) (fun h4=> ?_)
   ·rw[if_pos h4,b0,ob_some];exact lse 0 0 2 kf4
   ·rw[if_neg h4];unfold bothV;by_cases h2:kindOf st1 x=2
    ·rw[decide_eq_true h2,if_pos h2];simp only[isB_tt,gq_true,ge_true,ob_some,ho K4 v b1 b2 u l st1 st2 x hV4,iun_not,lpick_true]
     cases opq st1 x with
     | true =>
      simp only[Bool.not_true,isB_ft,gq_false,ge_false,ob_some,lpick_false,cnd_false,if_true,bU];exact lse x 0 0 kf4
     | false =>
      simp only[Bool.not_false,isB_tt,gq_true,ge_true,ob_some,lchk_ptr,loff_ptr,Nat.zero_add,hV4.p1,hV4.kd2 hk,lbin_eql,lpick_true];rw[if_neg (by decide)];refine Wp.dec (fun h3=> ?_) (fun h3=> ?_)
      ·rw[if_pos h3,bUL,ob_some];exact lse x bv 0 kf4
      ·rw[if_neg h3,bU,ob_some];exact lse x 0 0 kf4
    ·rw[decide_eq_false h2,if_neg h2];simp only[isB_ft,gq_false,ge_false,ob_some,lpick_false,cnd_false,bU];exact lse x 0 0 kf4
  ·rw[if_neg he];exact low kf4
 ·rw[if_pos hU];exact low kf
end
end Go.Shade
namespace Go.Shade
def BsCutL0 :LC :=
 (.seq (.reg [
  ⟨(some 23),(.nxt (.t 22)),none⟩,
  ⟨(some 24),(.ext (.t 23) 0),none⟩])
 (.seq (.cond (.t 24) .skip (.exit 1))
 (.block 2 (.seq (.reg [
  ⟨(some 25),(.ent (.t 22)),none⟩,
  ⟨(some 26),(.ext (.t 25) 0),none⟩,
  ⟨(some 27),(.ext (.t 25) 1),none⟩,
  ⟨(some 9),(.zbox (.agg [(.int .u8 0),(.int .u8 0),(.int .u8 0),(.int .u8 0),(.int .u8 0),(.int .u8 0),(.int .u8 0),(.int .u8 0),(.int .u8 0),(.int .u8 0),(.int .u8 0),(.int .u8 0),(.int .u8 0),(.int .u8 0),(.int .u8 0),(.int .u8 0)])),none⟩,
  ⟨(some 8),(.mv (.t 26)),none⟩,
  ⟨none,(.st 16 (.t 9) (.t 27)),none⟩])
 (.seq (.reg [
  ⟨(some 28),(.mv (.t 8)),none⟩,
  ⟨(some 29),(.bin .mul (.t 28) (.k (.int .i64 16))),none⟩,
  ⟨(some 10),(.mv (.t 29)),none⟩])
 (.block 3 (.seq (.reg [
  ⟨(some 31),(.mv (.t 10)),none⟩,
  ⟨(some 32),(.mv (.t 7)),none⟩,
  ⟨(some 33),(.bin .geq (.t 31) (.t 32)),none⟩,
  ⟨(some 30),(.mv (.t 33)),none⟩])
 (.cond (.t 30) (.seq (.reg [
  ⟨(some 34),(.mv (.t 1)),none⟩,
  ⟨(some 35),(.chk (.t 34)),none⟩,
  ⟨(some 36),(.off (.t 35) 1),none⟩,
  ⟨(some 37),(.ld1 (.t 36)),none⟩,
  ⟨(some 38),(.mv (.t 8)),none⟩,
  ⟨none,(.del .int (.t 37) (.t 38)),none⟩])
 (.reg [
  ⟨(some 39),(.mv (.t 0)),none⟩,
  ⟨(some 40),(.chk (.t 39)),none⟩,
  ⟨(some 41),(.off (.t 40) 1),none⟩,
  ⟨(some 42),(.ld1 (.t 41)),none⟩,
  ⟨(some 43),(.bin .sub (.t 42) (.k (.int .i64 1))),none⟩,
  ⟨(some 44),(.chk (.t 39)),none⟩,
  ⟨(some 45),(.off (.t 44) 1),none⟩,
  ⟨none,(.st 1 (.t 45) (.t 43)),none⟩])) (.seq (.reg [
  ⟨(some 47),(.mv (.t 10)),none⟩,
  ⟨(some 48),(.bin .add (.t 47) (.k (.int .i64 16))),none⟩,
  ⟨(some 49),(.mv (.t 7)),none⟩,
  ⟨(some 50),(.bin .gtr (.t 48) (.t 49)),none⟩,
  ⟨(some 46),(.mv (.t 50)),none⟩])
 (.cond (.t 46) (.seq (.reg [
  ⟨(some 51),(.mv (.t 7)),none⟩,
  ⟨(some 52),(.mv (.t 10)),none⟩,
  ⟨(some 53),(.bin .sub (.t 51) (.t 52)),none⟩,
  ⟨(some 54),(.slc (.arr 16 1) (.t 9) (some (.t 53)) none none),none⟩,
  ⟨none,(.clrS [(.int .u8 0)] (.t 54)),none⟩])
 (.drw [
  ⟨(some 55),(.mv (.t 1)),none⟩,
  ⟨(some 56),(.chk (.t 55)),none⟩,
  ⟨(some 57),(.off (.t 56) 1),none⟩,
  ⟨(some 58),(.ld1 (.t 57)),none⟩,
  ⟨(some 59),(.mv (.t 8)),none⟩,
  ⟨(some 60),(.ldn 16 (.t 9)),none⟩,
  ⟨none,(.upd .int (.t 58) (.t 59) (.t 60)),none⟩] [])) .skip))))))))))
def BsCut :LFun:=⟨(.seq (.reg [
  ⟨(some 6),(.mv (.k (.int .i64 0))),none⟩])
 (.seq (.block 0 (.seq (.reg [
  ⟨(some 12),(.mv (.t 2)),none⟩,
  ⟨(some 13),(.bin .lss (.t 12) (.k (.int .i64 0))),none⟩,
  ⟨(some 11),(.mv (.t 13)),none⟩])
 (.cond (.t 11) (.seq (.reg [
  ⟨(some 6),(.mv (.k (.int .i64 22))),none⟩])
 .ret) (.seq (.reg [
  ⟨(some 15),(.mv (.t 2)),none⟩,
  ⟨(some 16),(.bin .gtr (.t 15) (.k (.int .i64 65536))),none⟩,
  ⟨(some 14),(.mv (.t 16)),none⟩])
 (.cond (.t 14) (.seq (.reg [
  ⟨(some 6),(.mv (.k (.int .i64 27))),none⟩])
 .ret) .skip)))))
 (.seq (.reg [
  ⟨(some 17),(.mv (.t 2)),none⟩,
  ⟨(some 7),(.mv (.t 17)),none⟩])
 (.seq (.seq (.reg [
  ⟨(some 18),(.mv (.t 1)),none⟩,
  ⟨(some 19),(.chk (.t 18)),none⟩,
  ⟨(some 20),(.off (.t 19) 1),none⟩,
  ⟨(some 21),(.ld1 (.t 20)),none⟩,
  ⟨(some 22),(.rng (.t 21)),none⟩])
 (.block 1 (.loop BsCutL0)))
 (.seq (.reg [
  ⟨(some 61),(.mv (.t 1)),none⟩,
  ⟨(some 62),(.mv (.t 7)),none⟩,
  ⟨(some 63),(.chk (.t 61)),none⟩,
  ⟨(some 64),(.off (.t 63) 0),none⟩,
  ⟨none,(.st 1 (.t 64) (.t 62)),none⟩])
 (.seq (.reg [
  ⟨(some 6),(.mv (.k (.int .i64 0))),none⟩])
 .ret)))))),[(.tmp 6)],65⟩
end Go.Shade
namespace Go.Shade
variable {k : KT (IV × Heap)}
def BsCutXC0 :LC:=.seq (.reg [
  ⟨(some 6),(.mv (.k (.int .i64 0))),none⟩]) (.seq (.block 0 (.seq (.reg [
  ⟨(some 12),(.mv (.t 2)),none⟩,
  ⟨(some 13),(.bin .lss (.t 12) (.k (.int .i64 0))),none⟩,
  ⟨(some 11),(.mv (.t 13)),none⟩])
 (.cond (.t 11) (.seq (.reg [
  ⟨(some 6),(.mv (.k (.int .i64 22))),none⟩])
 .ret)
 (.seq (.reg [
  ⟨(some 15),(.mv (.t 2)),none⟩,
  ⟨(some 16),(.bin .gtr (.t 15) (.k (.int .i64 65536))),none⟩,
  ⟨(some 14),(.mv (.t 16)),none⟩])
 (.cond (.t 14) (.seq (.reg [
  ⟨(some 6),(.mv (.k (.int .i64 27))),none⟩])
 .ret)
 .skip)))))
 (.reg [
  ⟨(some 17),(.mv (.t 2)),none⟩,
  ⟨(some 7),(.mv (.t 17)),none⟩]))
def BsCutXC1 :LC:=.seq (.reg [
  ⟨(some 25),(.ent (.t 22)),none⟩,
  ⟨(some 26),(.ext (.t 25) 0),none⟩,
  ⟨(some 27),(.ext (.t 25) 1),none⟩,
  ⟨(some 9),(.zbox (.agg [(.int .u8 0),(.int .u8 0),(.int .u8 0),(.int .u8 0),(.int .u8 0),(.int .u8 0),(.int .u8 0),(.int .u8 0),(.int .u8 0),(.int .u8 0),(.int .u8 0),(.int .u8 0),(.int .u8 0),(.int .u8 0),(.int .u8 0),(.int .u8 0)])),none⟩,
  ⟨(some 8),(.mv (.t 26)),none⟩,
  ⟨none,(.st 16 (.t 9) (.t 27)),none⟩]) (.seq (.reg [
  ⟨(some 28),(.mv (.t 8)),none⟩,
  ⟨(some 29),(.bin .mul (.t 28) (.k (.int .i64 16))),none⟩,
  ⟨(some 10),(.mv (.t 29)),none⟩])
 (.block 3 (.seq (.reg [
  ⟨(some 31),(.mv (.t 10)),none⟩,
  ⟨(some 32),(.mv (.t 7)),none⟩,
  ⟨(some 33),(.bin .geq (.t 31) (.t 32)),none⟩,
  ⟨(some 30),(.mv (.t 33)),none⟩])
 (.cond (.t 30) (.seq (.reg [
  ⟨(some 34),(.mv (.t 1)),none⟩,
  ⟨(some 35),(.chk (.t 34)),none⟩,
  ⟨(some 36),(.off (.t 35) 1),none⟩,
  ⟨(some 37),(.ld1 (.t 36)),none⟩,
  ⟨(some 38),(.mv (.t 8)),none⟩,
  ⟨none,(.del .int (.t 37) (.t 38)),none⟩])
 (.reg [
  ⟨(some 39),(.mv (.t 0)),none⟩,
  ⟨(some 40),(.chk (.t 39)),none⟩,
  ⟨(some 41),(.off (.t 40) 1),none⟩,
  ⟨(some 42),(.ld1 (.t 41)),none⟩,
  ⟨(some 43),(.bin .sub (.t 42) (.k (.int .i64 1))),none⟩,
  ⟨(some 44),(.chk (.t 39)),none⟩,
  ⟨(some 45),(.off (.t 44) 1),none⟩,
  ⟨none,(.st 1 (.t 45) (.t 43)),none⟩]))
 (.seq (.reg [
  ⟨(some 47),(.mv (.t 10)),none⟩,
  ⟨(some 48),(.bin .add (.t 47) (.k (.int .i64 16))),none⟩,
  ⟨(some 49),(.mv (.t 7)),none⟩,
  ⟨(some 50),(.bin .gtr (.t 48) (.t 49)),none⟩,
  ⟨(some 46),(.mv (.t 50)),none⟩])
 (.cond (.t 46) (.seq (.reg [
  ⟨(some 51),(.mv (.t 7)),none⟩,
  ⟨(some 52),(.mv (.t 10)),none⟩,
  ⟨(some 53),(.bin .sub (.t 51) (.t 52)),none⟩,
  ⟨(some 54),(.slc (.arr 16 1) (.t 9) (some (.t 53)) none none),none⟩,
  ⟨none,(.clrS [(.int .u8 0)] (.t 54)),none⟩])
 (.drw [
  ⟨(some 55),(.mv (.t 1)),none⟩,
  ⟨(some 56),(.chk (.t 55)),none⟩,
  ⟨(some 57),(.off (.t 56) 1),none⟩,
  ⟨(some 58),(.ld1 (.t 57)),none⟩,
  ⟨(some 59),(.mv (.t 8)),none⟩,
  ⟨(some 60),(.ldn 16 (.t 9)),none⟩,
  ⟨none,(.upd .int (.t 58) (.t 59) (.t 60)),none⟩] []))
 .skip))))))
def BsCutXC2 :LC:=.seq (.reg [
  ⟨(some 61),(.mv (.t 1)),none⟩,
  ⟨(some 62),(.mv (.t 7)),none⟩,
  ⟨(some 63),(.chk (.t 61)),none⟩,
  ⟨(some 64),(.off (.t 63) 0),none⟩,
  ⟨none,(.st 1 (.t 64) (.t 62)),none⟩]) (.seq (.reg [
  ⟨(some 6),(.mv (.k (.int .i64 0))),none⟩])
 .ret)
def BsCutXC2S (cal:FuncId->Bool)(O:Oracle)(N:Nat)(v0 v1 v7 v22:IV)(H:Heap):Option (IV×Heap) :=
  ob (lchk v1) fun t1 =>
  ob (loff t1 0) fun t2 =>
  ob (lstV H 1 t2 v7) fun r3 =>
  some ((.tuple [(.int .i64 0),v0,v1,v7,v22]),r3.2)
theorem BsCutXC2Eq (cal:FuncId->Bool)(O:Oracle)(N:Nat)(hR:∀E H,k .ret E H=resK [(.tmp 6),(.tmp 0),(.tmp 1),(.tmp 7),(.tmp 22)] [] E H):∀(E:Sg) (H:Heap),lxK cal O N BsCutXC2 E H k=BsCutXC2S cal O N (lk E 0) (lk E 1) (lk E 7) (lk E 22) H:=by
 have hk:k=(kR (resK [(.tmp 6),(.tmp 0),(.tmp 1),(.tmp 7),(.tmp 22)] []) k):=(kR_mk hR rfl);intro E H;rw[hk];show lxK cal O N (.reg [
  ⟨(some 61),(.mv (.t 1)),none⟩,
  ⟨(some 62),(.mv (.t 7)),none⟩,
  ⟨(some 63),(.chk (.t 61)),none⟩,
  ⟨(some 64),(.off (.t 63) 0),none⟩,
  ⟨none,(.st 1 (.t 64) (.t 62)),none⟩]) E H (seqK (lxK cal O N (.seq (.reg [
  ⟨(some 6),(.mv (.k (.int .i64 0))),none⟩])
 .ret)) (kR (resK [(.tmp 6),(.tmp 0),(.tmp 1),(.tmp 7),(.tmp 22)] []) k))=_
 kernel_rfl
def BsCutXC1S (cal:FuncId->Bool)(O:Oracle)(N:Nat)(gN:IV->IV->IV->IV->Heap->Option (IV×Heap))(v0 v1 v7 v22:IV)(H:Heap):Option (IV×Heap) :=
  ob (ientry H v22) fun t1 =>
  ob (iextract t1 0) fun t2 =>
  ob (iextract t1 1) fun t3 =>
  ob (lzbox H (.agg [(.int .u8 0),(.int .u8 0),(.int .u8 0),(.int .u8 0),(.int .u8 0),(.int .u8 0),(.int .u8 0),(.int .u8 0),(.int .u8 0),(.int .u8 0),(.int .u8 0),(.int .u8 0),(.int .u8 0),(.int .u8 0),(.int .u8 0),(.int .u8 0)])) fun r4 =>
  ob (lstV r4.2 16 r4.1 t3) fun r5 =>
  ob (lbin .mul t2 (.int .i64 16)) fun t6 =>
  jn (fun(H38:Heap) =>
  gN v0 v1 v7 v22 H38) fun J7 =>
  ob (lbin .geq t6 v7) fun t39 =>
  cnd t39
  (ob (lchk v1) fun t40 =>
  ob (loff t40 1) fun t41 =>
  ob (lload1 r5.2 t41) fun t42 =>
  ob (ldelV r5.2 .int t42 t2) fun r43 =>
  ob (lchk v0) fun t44 =>
  ob (loff t44 1) fun t45 =>
  ob (lload1 r43.2 t45) fun t46 =>
  ob (lbin .sub t46 (.int .i64 1)) fun t47 =>
  ob (lchk v0) fun t48 =>
  ob (loff t48 1) fun t49 =>
  ob (lstV r43.2 1 t49 t47) fun r50 =>
  J7 r50.2)
  (ob (lbin .add t6 (.int .i64 16)) fun t51 =>
  ob (lbin .gtr t51 v7) fun t52 =>
  cnd t52
  (ob (lbin .sub v7 t6) fun t53 =>
  ob (lslice r5.2 (.arr 16 1) r4.1 (some t53) none none) fun t54 =>
  ob (lclrS r5.2 [(.int .u8 0)] t54) fun r55 =>
  ob (lchk v1) fun t56 =>
  ob (loff t56 1) fun t57 =>
  ob (lload1 r55.2 t57) fun t58 =>
  ob (lloadn r55.2 16 r4.1) fun t59 =>
  ob (lupdV r55.2 .int t58 t2 t59) fun r60 =>
  J7 r60.2)
  (J7 r5.2))
theorem BsCutXC1Eq (cal:FuncId->Bool)(O:Oracle)(N:Nat)(gN:IV->IV->IV->IV->Heap->Option (IV×Heap))(hgN:∀E H,k .normal E H=gN (lk E 0) (lk E 1) (lk E 7) (lk E 22) H):∀(E:Sg) (H:Heap),lxK cal O N BsCutXC1 E H k=BsCutXC1S cal O N gN (lk E 0) (lk E 1) (lk E 7) (lk E 22) H:=by
 have hk:k=(kN (fun E H=>gN (lk E 0) (lk E 1) (lk E 7) (lk E 22) H) k):=(kN_mk hgN rfl);intro E H;rw[hk];show lxK cal O N (.reg [
  ⟨(some 25),(.ent (.t 22)),none⟩,
  ⟨(some 26),(.ext (.t 25) 0),none⟩,
  ⟨(some 27),(.ext (.t 25) 1),none⟩,
  ⟨(some 9),(.zbox (.agg [(.int .u8 0),(.int .u8 0),(.int .u8 0),(.int .u8 0),(.int .u8 0),(.int .u8 0),(.int .u8 0),(.int .u8 0),(.int .u8 0),(.int .u8 0),(.int .u8 0),(.int .u8 0),(.int .u8 0),(.int .u8 0),(.int .u8 0),(.int .u8 0)])),none⟩,
  ⟨(some 8),(.mv (.t 26)),none⟩,
  ⟨none,(.st 16 (.t 9) (.t 27)),none⟩]) E H (seqK (lxK cal O N (.seq (.reg [
  ⟨(some 28),(.mv (.t 8)),none⟩,
  ⟨(some 29),(.bin .mul (.t 28) (.k (.int .i64 16))),none⟩,
  ⟨(some 10),(.mv (.t 29)),none⟩])
 (.block 3 (.seq (.reg [
  ⟨(some 31),(.mv (.t 10)),none⟩,
  ⟨(some 32),(.mv (.t 7)),none⟩,
  ⟨(some 33),(.bin .geq (.t 31) (.t 32)),none⟩,
  ⟨(some 30),(.mv (.t 33)),none⟩])
 (.cond (.t 30) (.seq (.reg [
  ⟨(some 34),(.mv (.t 1)),none⟩,
  ⟨(some 35),(.chk (.t 34)),none⟩,
  ⟨(some 36),(.off (.t 35) 1),none⟩,
  ⟨(some 37),(.ld1 (.t 36)),none⟩,
  ⟨(some 38),(.mv (.t 8)),none⟩,
  ⟨none,(.del .int (.t 37) (.t 38)),none⟩])
 (.reg [
  ⟨(some 39),(.mv (.t 0)),none⟩,
  ⟨(some 40),(.chk (.t 39)),none⟩,
  ⟨(some 41),(.off (.t 40) 1),none⟩,
  ⟨(some 42),(.ld1 (.t 41)),none⟩,
  ⟨(some 43),(.bin .sub (.t 42) (.k (.int .i64 1))),none⟩,
  ⟨(some 44),(.chk (.t 39)),none⟩,
  ⟨(some 45),(.off (.t 44) 1),none⟩,
  ⟨none,(.st 1 (.t 45) (.t 43)),none⟩]))
 (.seq (.reg [
  ⟨(some 47),(.mv (.t 10)),none⟩,
  ⟨(some 48),(.bin .add (.t 47) (.k (.int .i64 16))),none⟩,
  ⟨(some 49),(.mv (.t 7)),none⟩,
  ⟨(some 50),(.bin .gtr (.t 48) (.t 49)),none⟩,
  ⟨(some 46),(.mv (.t 50)),none⟩])
 (.cond (.t 46) (.seq (.reg [
  ⟨(some 51),(.mv (.t 7)),none⟩,
  ⟨(some 52),(.mv (.t 10)),none⟩,
  ⟨(some 53),(.bin .sub (.t 51) (.t 52)),none⟩,
  ⟨(some 54),(.slc (.arr 16 1) (.t 9) (some (.t 53)) none none),none⟩,
  ⟨none,(.clrS [(.int .u8 0)] (.t 54)),none⟩])
 (.drw [
  ⟨(some 55),(.mv (.t 1)),none⟩,
  ⟨(some 56),(.chk (.t 55)),none⟩,
  ⟨(some 57),(.off (.t 56) 1),none⟩,
  ⟨(some 58),(.ld1 (.t 57)),none⟩,
  ⟨(some 59),(.mv (.t 8)),none⟩,
  ⟨(some 60),(.ldn 16 (.t 9)),none⟩,
  ⟨none,(.upd .int (.t 58) (.t 59) (.t 60)),none⟩] []))
 .skip))))))) (kN (fun E H=>gN (lk E 0) (lk E 1) (lk E 7) (lk E 22) H) k))=_
 kernel_rfl
def BsCutXC0S (cal:FuncId->Bool)(O:Oracle)(N:Nat)(gN:IV->IV->IV->IV->Heap->Option (IV×Heap))(v0 v1 v2 v7 v22:IV)(H:Heap):Option (IV×Heap) :=
  ob (lbin .lss v2 (.int .i64 0)) fun t1 =>
  cnd t1
  (some ((.tuple [(.int .i64 22),v0,v1,v7,v22]),H))
  (ob (lbin .gtr v2 (.int .i64 65536)) fun t2 =>
  cnd t2
  (some ((.tuple [(.int .i64 27),v0,v1,v7,v22]),H))
  (gN v0 v1 v2 v22 H))
theorem BsCutXC0Eq (cal:FuncId->Bool)(O:Oracle)(N:Nat)(gN:IV->IV->IV->IV->Heap->Option (IV×Heap))(hgN:∀E H,k .normal E H=gN (lk E 0) (lk E 1) (lk E 7) (lk E 22) H)(hR:∀E H,k .ret E H=resK [(.tmp 6),(.tmp 0),(.tmp 1),(.tmp 7),(.tmp 22)] [] E H):∀(E:Sg) (H:Heap),lxK cal O N BsCutXC0 E H k=BsCutXC0S cal O N gN (lk E 0) (lk E 1) (lk E 2) (lk E 7) (lk E 22) H:=by
 have hk:k=(kN (fun E H=>gN (lk E 0) (lk E 1) (lk E 7) (lk E 22) H) (kR (resK [(.tmp 6),(.tmp 0),(.tmp 1),(.tmp 7),(.tmp 22)] []) k)):=(kN_mk hgN (kR_mk hR rfl));intro E H;rw[hk];show lxK cal O N (.reg [
  ⟨(some 6),(.mv (.k (.int .i64 0))),none⟩]) E H (seqK (lxK cal O N (.seq (.block 0 (.seq (.reg [
  ⟨(some 12),(.mv (.t 2)),none⟩,
  ⟨(some 13),(.bin .lss (.t 12) (.k (.int .i64 0))),none⟩,
  ⟨(some 11),(.mv (.t 13)),none⟩])
 (.cond (.t 11) (.seq (.reg [
  ⟨(some 6),(.mv (.k (.int .i64 22))),none⟩])
 .ret)
 (.seq (.reg [
  ⟨(some 15),(.mv (.t 2)),none⟩,
  ⟨(some 16),(.bin .gtr (.t 15) (.k (.int .i64 65536))),none⟩,
  ⟨(some 14),(.mv (.t 16)),none⟩])
 (.cond (.t 14) (.seq (.reg [
  ⟨(some 6),(.mv (.k (.int .i64 27))),none⟩])
 .ret)
 .skip)))))
 (.reg [
  ⟨(some 17),(.mv (.t 2)),none⟩,
  ⟨(some 7),(.mv (.t 17)),none⟩]))) (kN (fun E H=>gN (lk E 0) (lk E 1) (lk E 7) (lk E 22) H) (kR (resK [(.tmp 6),(.tmp 0),(.tmp 1),(.tmp 7),(.tmp 22)] []) k)))=_
 kernel_rfl
end Go.Shade
namespace Go.Shade
open Go.RowKit
variable {H : Heap}
theorem SimW.oneOf {P:Program}{g:FuncId}{args:List IV}{H K:Heap}{r':IV}{Q:IV->Heap->Prop}(h:SimW P g args H Q)(hle:H.length<=K.length)
  (hQ:∀r H1,Q r H1->r=r'/\∀(i:Nat) o,K[i]? =some o->(i<H.length/\H[i]? =some o/\H1[i]? =some o)∨(inBO K.length o=true/\H1[i]? =some o)) (hb:inB K.length r'=true):SimCall P g args H r' K:=by
 intro B0 w0 w m us hR hA;refine(h B0 w0 w m us hR hA).mono ?_;rintro e w' ⟨r,H1,m',u,hq,he,hext,hR',hu⟩;obtain⟨rfl,hk⟩:=hQ r H1 hq;have hk':∀(i:Nat) o,K[i]? =some o->inBO K.length o=true/\H1[id i]? =some (renO id o):=by
  intro i o hi;rcases hk i o hi with⟨h1,h2,h3⟩ | ⟨h4,h5⟩
  ·have hb:=inBO_le hle ((hR.good i o h2).inBO hR.dom);exact⟨hb,by rw[renO_id (n:=K.length) (f:=id) (fun _ _=>rfl) hb];exact h3⟩
  ·exact⟨h4,by rw[renO_id (n:=K.length) (f:=id) (fun _ _=>rfl) h4];exact h5⟩
 refine⟨Shade.sub K.length id m',u,he,fun i l hi=> ?_,hR'.gc id hk' (fun _ _ _ _ h=>h),VR_ren r u hb (by rw[ren_id (n:=K.length) (f:=id) (fun _ _=>rfl) _ hb];exact hu)⟩;have hlt:=hR.dom i l hi;simp only[Shade.sub,if_pos (Nat.lt_of_lt_of_le hlt hle)];exact hext i l hi
structure CutH (H0 H:Heap)(s p m:Nat)(room used sz:Int)(n0 c:Nat)(es:List Ent):Prop where
 st:H[s]? =some (.row [.int .i64 room,.int .i64 (IntKind.wrap .i64 (used - ((n0 - es.length:Nat):Int)))] false)
 bd:H[p]? =some (.row [.int .i64 sz,.map m] false)
 mp:H[m]? =some (.map es c)
 ne:s≠p/\m≠s/\m≠p
 lt:s<H0.length/\p<H0.length/\m<H0.length
 old:H0.length<=H.length/\∀i,i<H0.length->i≠s->i≠m->H[i]? =H0[i]?
theorem cut_nxt {I m c:Nat}{es:List Ent}{seen:List Nat}(hI:H[I]? =some (.iter (some m) c seen c))(hM:H[m]? =some (.map es c))(hc:ChOk es c)(hs:∀e∈es,e.2.2 ∉ seen) :
  ∃l,stNxt H (.ptr I 0)=some l/\∀r∈l,(es=[]/\r=(.tuple [.bool false],H))∨∃e∈es,r=(.tuple [.bool true,e.1,e.2.1],H.set I (.iter (some m) c (seen++[e.2.2]) c)):=by
 have hbf:∀e∈es,Nat.ble c e.2.2=false:=fun e he=>by
  have:=hc.id e he
  cases hx:Nat.ble c e.2.2 with
  | false=>rfl
  | true=>have:=nble hx;omega
 have hno:(!seen.isEmpty&&(!es.isEmpty&&es.all fun e=>Nat.ble c e.2.2))=false:=by
  cases es with
  | nil=>simp
  | cons e es=>simp[hbf e (by simp)]
 unfold stNxt;simp only[hI,hM];unfold nxtC;rw[hno];refine⟨_,rfl,fun r hr=> ?_⟩;obtain⟨o,ho,rfl⟩:=List.mem_map.1 hr;rcases List.mem_append.1 ho with ho | ho
 ·split at ho
  ·rename_i hemp;rw[List.mem_singleton]at ho;subst ho;refine .inl ⟨?_,rfl⟩;rw[List.isEmpty_iff]at hemp
   cases es with
   | nil=>rfl
   | cons e es =>
    have:=List.filter_eq_nil_iff.1 hemp e (by simp);rw[hbf e (by simp)]at this;have h2:=hs e (by simp);simp[h2]at this
  ·cases ho
 ·obtain⟨e,he,rfl⟩:=List.mem_map.1 ho;refine .inr ⟨e,?_,rfl⟩;rcases List.mem_append.1 he with he | he<;>exact(List.mem_filter.1 he).1
def gFour (a b c d:IV)(H:Heap):Option (IV×Heap):=some (.tuple [a,b,c,d],H)
def cutRs :List LRes:=[(.tmp 6),(.tmp 0),(.tmp 1),(.tmp 7),(.tmp 22)]
def cutK :KT (IV×Heap):=fun x E H=>match x with
 | .normal=>gFour (lk E 0) (lk E 1) (lk E 7) (lk E 22) H
 | .ret=>resK cutRs [] E H
 | .exit _=>none
theorem cutK_nor {E:Sg}{r:Out}(h:cutK .normal E H=some r):r=(.tuple [lk E 0,lk E 1,lk E 7,lk E 22],H):=by cases h;rfl
theorem cutK_ret {E:Sg}{r:Out}(h:cutK .ret E H=some r):r=(.tuple [lk E 6,lk E 0,lk E 1,lk E 7,lk E 22],H):=by cases h;rfl
theorem wrap_sub1 (x:Int):IntKind.wrap .i64 (IntKind.wrap .i64 x - 1)=IntKind.wrap .i64 (x - 1):=by
 have h:∀x:Int,IntKind.wrap .i64 x=if x % 18446744073709551616 ≥ 9223372036854775808 then x % 18446744073709551616 - 18446744073709551616 else x % 18446744073709551616:=by
  intro x;unfold IntKind.wrap;simp[IntKind.bits,IntKind.signed]
 rw[h (IntKind.wrap .i64 x - 1),h x,h (x - 1)];split<;>split<;>split<;>omega
theorem nodup_inj {α β:Type}{f:α->β}:∀{l:List α},(l.map f).Nodup->∀{a b:α},a∈l->b∈l->f a=f b->a=b
 | [],_,a,b,ha,_,_=>by cases ha
 | x::l,h,a,b,ha,hb,e=>by
  simp only[List.map_cons,List.nodup_cons]at h;rcases List.mem_cons.1 ha with ea | ha'
  ·rcases List.mem_cons.1 hb with eb | hb'
   ·rw[ea,eb]
   ·exact(h.1 (List.mem_map.2 ⟨b,hb',by rw[←e,ea]⟩)).elim
  ·rcases List.mem_cons.1 hb with eb | hb'
   ·exact(h.1 (List.mem_map.2 ⟨a,ha',by rw[e,eb]⟩)).elim
   ·exact nodup_inj h.2 ha' hb' e
section
variable {cal : FuncId -> Bool} {O : Oracle} {N : Nat}
theorem cut_b {H0 H:Heap}{s p m I n0 c:Nat}{room used sz:Int}{es:List Ent}{seen:List Nat}{e:Ent}(h:CutH H0 H s p m room used sz n0 c es)(hn:es.length<=n0)(hI:H[I]? =some (.iter (some m) c (seen++[e.2.2]) c))(hIn:I=H0.length)(hc:ChOk es c)(he:e∈es) :
  Wp (BsCutXC1S cal O N gFour (.ptr s 0) (.ptr p 0) (.int .i64 0) (.ptr I 0) H) fun r=>r.1=.tuple [.ptr s 0,.ptr p 0,.int .i64 0,.ptr I 0]/\∃es',es'.length+1=es.length/\CutH H0 r.2 s p m room used sz n0 c es'/\ChOk es' c/\(∀q∈es',q∈es/\q.2.2≠e.2.2)/\r.2[I]? =H[I]? :=by
 unfold BsCutXC1S;have hent:ientry H (.ptr I 0)=some (.tuple [e.1,e.2.1]):=by
  have hf:es.find? (fun q=>Nat.beq q.2.2 e.2.2)=some e:=by
   cases hq:es.find? (fun q=>Nat.beq q.2.2 e.2.2)with
   | none =>
    have:=List.find?_eq_none.1 hq e he;simp at this
   | some q =>
    have hm:=List.mem_of_find?_eq_some hq;have hp:=List.find?_some hq;have hp:=Nat.eq_of_beq_eq_true hp
    congr 1
    exact nodup_inj (f:=fun e:Ent=>e.2.2) hc.idup hm he hp
  simp only[ientry,hI,h.mp,Nat.beq_refl,if_true,List.getLast?_concat,hf,Option.map_some]
 obtain⟨k,hk,hk0,hk1⟩:=hc.key e he;obtain⟨cs,hv,hl,h1⟩:=hc.val e he;rw[hent,ob_some,iextract_tuple,iextract_tuple];simp only[List.getElem?_cons_zero,List.getElem?_cons_succ,ob_some,lzbox_eq,cells_agg,hv,hk];rw[stn (n:=16) newRow h1 hl rfl,ob_some,setRow];simp only;have k1:Frame NoF H (H++[IObj.row cs false]):=Frame.push _ _ _;have st1':=k1.get (fun h=>h) h.st;have bd1:=k1.get (fun h=>h) h.bd;have mp1:=k1.get (fun h=>h) h.mp;have i1:=k1.get (fun h=>h) hI;have old1:H0.length<=(H++[IObj.row cs false]).length/\∀i,i<H0.length->i≠s->i≠m->(H++[IObj.row cs false])[i]? =H0[i]? :=⟨Nat.le_trans h.old.1 k1.1,fun i a b d=>by rw[←h.old.2 i a b d];exact k1.2 i (by have:=h.old.1;omega) (fun h=>h)⟩;have hIl:I<H.length:=(ges hI).1;generalize H++[IObj.row cs false]=K at *;have e6:lbin .mul (.int .i64 k) (.int .i64 16)=some (.int .i64 (k*16)):=by rw[lbin_mul,wrap_i64 (by omega) (by omega)]
 have e7:lload1 K (.ptr p 1)=some (.map m):=ld1 bd1;rw[e6,ob_some,jn_eq,lbin_geq,ob_some,decide_eq_true (by omega),cnd_true];simp only[lchk_ptr,loff_ptr,ob_some,Nat.zero_add,e7];have hdel:∃j,es[j]? =some e/\ldelV K .int (.map m) (.int .i64 k)=some (.tuple [],K.set m (.map (es.eraseIdx j) c)):=by
  rcases ifind_int k 0 hc.keyI with⟨g1,g2⟩ | ⟨j,q,g1,g2,g3⟩
  ·exact absurd hk (g2 e he)
  ·have:q=e:=nodup_inj (f:=fun e:Ent=>e.1) hc.nodup (List.mem_of_getElem? g1) he (by rw[g2,hk]);subst this;refine⟨j,g1,?_⟩;unfold ldelV ldelete;simp only[mp1,isLS,if_true,g3,Option.bind_some,Nat.zero_add]
 obtain⟨j,hj,hdel⟩:=hdel;rw[hdel,ob_some];simp only;have hjl:=(ges hj).1;have hlen:(es.eraseIdx j).length+1=es.length:=by rw[List.length_eraseIdx,if_pos hjl];omega
 obtain⟨n1,n2,n3⟩:=h.ne;have km:Frame (fun i=>i=m) K (K.set m (.map (es.eraseIdx j) c)):=Frame.set _ _ rfl;have st2:=km.get (fun e=>n2 e.symm) st1';have bd2:=km.get (fun e=>n3 e.symm) bd1;have mp2:=setAt (o':=IObj.map (es.eraseIdx j) c) mp1;have hlt:=h.lt;have i2:=km.get (show ¬I=m by omega) i1;have e8:lload1 (K.set m (.map (es.eraseIdx j) c)) (.ptr s 1)=some (.int .i64 (IntKind.wrap .i64 (used - ((n0 - es.length:Nat):Int)))):=ld1 st2;rw[e8,ob_some,lbin_sub,ob_some,st1 st2 (by simp only[one_int]) (by simp),ob_some,wrap_sub1];have ks:Frame (fun i=>i=s) (K.set m (.map (es.eraseIdx j) c)) ((K.set m (.map (es.eraseIdx j) c)).set s (.row ([.int .i64 room,.int .i64 (IntKind.wrap .i64 (used - ((n0 - es.length:Nat):Int)))].set 1 (.int .i64 (IntKind.wrap .i64 (used - ((n0 - es.length:Nat):Int) - 1)))) false)):=Frame.set _ _ rfl;have hmemE:∀q∈es.eraseIdx j,q∈es:=fun q hq=>List.mem_of_mem_eraseIdx hq;have hsub:(es.eraseIdx j).Sublist es:=List.eraseIdx_sublist es j;refine Wp.ret ⟨rfl,es.eraseIdx j,hlen,⟨?_,ks.get (fun e=>n1 e.symm) bd2,ks.get n2 mp2,h.ne,h.lt,?_⟩,⟨fun q hq=>hc.key q (hmemE q hq),fun q hq=>hc.val q (hmemE q hq),fun q hq=>hc.id q (hmemE q hq),hc.nodup.sublist (hsub.map _),hc.idup.sublist (hsub.map _)⟩,fun q hq=>⟨hmemE q hq,?_⟩,?_⟩
 ·rw[setAt st2];simp only[List.set_cons_succ,List.set_cons_zero];rw[show used - ((n0 - es.length:Nat):Int) - 1=used - ((n0 - (es.eraseIdx j).length:Nat):Int) by omega]
 ·refine⟨by simpa using old1.1,fun i a b d=> ?_⟩;simp only;rw[List.getElem?_set_ne (fun e=>b e.symm),List.getElem?_set_ne (fun e=>d e.symm)];exact old1.2 i a b d
 ·intro e2;obtain⟨i,hi⟩:=List.mem_iff_getElem?.1 hq;have hne:∀a b:Nat,es[a]? =some q->es[b]? =some e->a=b:=by
   intro a b ha hb;have la:=(ges ha).1;have lb:=(ges hb).1;have:=(List.getElem_inj (xs:=es.map (·.2.2)) (h₀:=by simpa using la) (h₁:=by simpa using lb) hc.idup).1 (by
    simp only[List.getElem_map,(ges ha).2,(ges hb).2];exact e2)
   exact this
  rw[List.getElem?_eraseIdx]at hi;split at hi
  ·have:=hne _ _ hi hj;omega
  ·have:=hne _ _ hi hj;omega
 ·simp only;rw[ks.get (show ¬I=s by omega) i2,hI]
def cutL :LC:=.seq (.reg [⟨some 23,.nxt (.t 22),none⟩,⟨some 24,.ext (.t 23) 0,none⟩]) (.seq (.cond (.t 24) .skip (.exit 1)) (.block 2 BsCutXC1))
theorem cut_loop {H0:Heap}{s p m n0 c:Nat}{room used sz:Int}{kk:IX->Sg->Heap->Prop}(hQ:∀E H,lk E 0=.ptr s 0->lk E 1=.ptr p 0->lk E 7=.int .i64 0->lk E 22=.ptr H0.length 0->CutH H0 H s p m room used sz n0 c []->kk (.exit 1) E H) :
  ∀(n:Nat) (E:Sg) (H:Heap) (es:List Ent) (seen:List Nat),es.length<n->es.length<=n0->CutH H0 H s p m room used sz n0 c es->H[H0.length]? =some (.iter (some m) c seen c)->ChOk es c->(∀e∈es,e.2.2 ∉ seen) ->
   lk E 0=.ptr s 0->lk E 1=.ptr p 0->lk E 7=.int .i64 0->lk E 22=.ptr H0.length 0->itW (lxW cal O N cutL) n E H kk:=by
 intro n
 induction n with
 | zero=>intro E H es seen hn;omega
 | succ n ih =>
  intro E H es seen hn hn0 hC hI hc hs h0 h1 h7 h22;obtain⟨l,hl,hout⟩:=cut_nxt hI hC.mp hc hs;simp only[itW];unfold cutL;simp only[lxW,lopsW];refine⟨l,by unfold lopW;simp only[lwanted,la,if_true,h22];exact hl,fun r hr=> ?_⟩;rcases hout r hr with⟨rfl,rfl⟩ | ⟨en,he,rfl⟩
  ·refine⟨[(.bool false,H)],rfl,fun r hr=> ?_⟩;rw[List.mem_singleton]at hr;subst hr;exact hQ _ _ h0 h1 h7 h22 hC
  ·refine⟨[(.bool true,H.set H0.length (.iter (some m) c (seen++[en.2.2]) c))],rfl,fun r hr=> ?_⟩;rw[List.mem_singleton]at hr;subst hr;simp only;have hlt:=hC.lt;have k1:Frame (fun i=>i=H0.length) H (H.set H0.length (.iter (some m) c (seen++[en.2.2]) c)):=Frame.set _ _ rfl;have hI1:=setAt (o':=IObj.iter (some m) c (seen++[en.2.2]) c) hI;have hC1:CutH H0 (H.set H0.length (.iter (some m) c (seen++[en.2.2]) c)) s p m room used sz n0 c es:=⟨k1.get (show ¬s=H0.length by omega) hC.st,k1.get (show ¬p=H0.length by omega) hC.bd,k1.get (show ¬m=H0.length by omega) hC.mp,hC.ne,hC.lt,Nat.le_trans hC.old.1 k1.1,fun i a b d=>by rw[←hC.old.2 i a b d];exact k1.2 i (by have:=hC.old.1;omega) (by omega)⟩;generalize H.set H0.length (.iter (some m) c (seen++[en.2.2]) c)=H1 at *;show lxW cal O N BsCutXC1 _ H1 _;refine lxK_W (k:=cutK) (Q:=fun r=>r.1=.tuple [.ptr s 0,.ptr p 0,.int .i64 0,.ptr H0.length 0]/\∃es',es'.length+1=es.length/\CutH H0 r.2 s p m room used sz n0 c es'/\ChOk es' c/\(∀q∈es',q∈es/\q.2.2≠en.2.2)/\r.2[H0.length]? =H1[H0.length]?) ?_ ?_
   ·rw[BsCutXC1Eq cal O N (k:=cutK) gFour (fun _ _=>rfl)];have a0:∀v w,lk ((24,v)::(23,w)::E) 0=lk E 0:=fun _ _=>rfl;have a1:∀v w,lk ((24,v)::(23,w)::E) 1=lk E 1:=fun _ _=>rfl;have a7:∀v w,lk ((24,v)::(23,w)::E) 7=lk E 7:=fun _ _=>rfl;have a22:∀v w,lk ((24,v)::(23,w)::E) 22=lk E 22:=fun _ _=>rfl;simp only[pput,a0,a1,a7,a22,h0,h1,h7,h22];exact cut_b hC1 hn0 hI1 rfl hc he
   ·rintro x σ' H' r hx ⟨hr1,es',g1,g2,g3,g4,g5⟩
    cases x with
    | exit id=>cases hx
    | ret =>
     rw[cutK_ret hx]at hr1;simp at hr1
    | normal =>
     rw[cutK_nor hx]at hr1 g2 g5;simp only[IV.tuple.injEq,List.cons.injEq,and_true]at hr1;obtain⟨b0,b1,b7,b22⟩:=hr1;simp only at g2 g5 ⊢;refine ih σ' H' es' (seen++[en.2.2]) (by omega) (by omega) g2 (g5.trans hI1) g3 (fun q hq=> ?_) b0 b1 b7 b22;obtain⟨z1,z2⟩:=g4 q hq;intro hm;rcases List.mem_append.1 hm with hm | hm
     ·exact hs q z1 hm
     ·exact z2 (List.mem_singleton.1 hm)
theorem cut_w {H:Heap}{s p m c:Nat}{room used sz:Int}{es:List Ent}(hN:es.length<N)(hst:H[s]? =some (.row [.int .i64 room,.int .i64 used] false))(hwu:IntKind.wrap .i64 used=used)(hbd:H[p]? =some (.row [.int .i64 sz,.map m] false))(hmp:H[m]? =some (.map es c))(hne:s≠p/\m≠s/\m≠p)(hc:ChOk es c) :
  lrunW cal O N BsCut [.ptr s 0,.ptr p 0,.int .i64 0] H fun r K=>r=.int .i64 0/\∃K',CutH H K' s p m room used sz es.length c []/\K=K'.set p (.row [.int .i64 0,.map m] false):=by
 unfold lrunW;have hl1:=(ges hst).1;have hl2:=(ges hbd).1;have hl3:=(ges hmp).1;show lxW cal O N (lappN 2 BsCutXC0 (.seq (.seq (.reg [⟨some 18,.mv (.t 1),none⟩,⟨some 19,.chk (.t 18),none⟩,⟨some 20,.off (.t 19) 1,none⟩,⟨some 21,.ld1 (.t 20),none⟩,⟨some 22,.rng (.t 21),none⟩]) (.block 1 (.loop cutL))) BsCutXC2)) _ H _;refine lappN_W ?_;show lxW cal O N BsCutXC0 _ H _;refine lxK_W (k:=cutK) (Q:=fun r=>∃v,r=(.tuple [.ptr s 0,.ptr p 0,.int .i64 0,v],H)) ?_ ?_
 ·rw[BsCutXC0Eq cal O N (k:=cutK) gFour (fun _ _=>rfl) (fun _ _=>rfl)];unfold BsCutXC0S;have e0:lk (initFrom 0 [IV.ptr s 0,.ptr p 0,.int .i64 0]) 2=.int .i64 0:=rfl;have e1:lbin .lss (.int .i64 0) (.int .i64 0)=some (.bool false):=rfl;have e2:lbin .gtr (.int .i64 0) (.int .i64 65536)=some (.bool false):=rfl;rw[e0,e1,ob_some,cnd_false,e2,ob_some,cnd_false];exact⟨_,rfl,_,rfl⟩
 ·rintro x E K r hx ⟨v,rfl⟩
  cases x with
  | exit id=>cases hx
  | ret =>
   have:=cutK_ret hx;simp at this
  | normal =>
   have hr:=cutK_nor hx;simp only[Prod.mk.injEq,IV.tuple.injEq,List.cons.injEq,and_true]at hr;obtain⟨⟨b0,b1,b7,b22⟩,rfl⟩:=hr;simp only[lxW,lopsW];refine⟨[(lk E 1,H)],rfl,fun r hr=> ?_⟩;rw[List.mem_singleton]at hr;subst hr;refine⟨[(.ptr p 0,H)],lopW_q rfl (by show lchk (lk E 1)=_;rw[←b1];rfl),fun r hr=> ?_⟩;rw[List.mem_singleton]at hr;subst hr;refine⟨[(.ptr p 1,H)],rfl,fun r hr=> ?_⟩;rw[List.mem_singleton]at hr;subst hr;refine⟨[(.map m,H)],lopW_q rfl (ld1 hbd),fun r hr=> ?_⟩;rw[List.mem_singleton]at hr;subst hr;have hrng:stRng H (.map m)=some (.ptr H.length 0,H++[.iter (some m) c [] c]):=by simp only[stRng,hmp]
   refine⟨[(.ptr H.length 0,H++[.iter (some m) c [] c])],?_,fun r hr=> ?_⟩
   ·show((stRng H (.map m)).bind fun r=>some [r])=_;rw[hrng];rfl
   rw[List.mem_singleton]at hr;subst hr;simp only[pput];have k1:Frame NoF H (H++[IObj.iter (some m) c [] c]):=Frame.push _ _ _;have hC0:CutH H (H++[.iter (some m) c [] c]) s p m room used sz es.length c es:=⟨by rw[k1.get (fun h=>h) hst,Nat.sub_self];simp only[Int.natCast_zero,Int.sub_zero,hwu],k1.get (fun h=>h) hbd,k1.get (fun h=>h) hmp,hne,⟨hl1,hl2,hl3⟩,k1.1,fun i a _ _=>k1.2 i a (fun h=>h)⟩;refine cut_loop (fun σ' H' c0 c1 c7 c22 hC'=> ?_) N _ _ es [] hN (Nat.le_refl _) hC0 newRow hc (fun _ _ h=>by cases h) b0.symm b1.symm b7.symm rfl;show lxW cal O N BsCutXC2 σ' H' _;refine lxK_W (k:=fun x E H=>match x with | .ret=>resK cutRs [] E H | _=>none) (Q:=fun r=>r.1=.tuple [.int .i64 0,.ptr s 0,.ptr p 0,.int .i64 0,.ptr H.length 0]/\r.2=H'.set p (.row [.int .i64 0,.map m] false)) ?_ ?_
   ·rw[BsCutXC2Eq cal O N (k:=fun x E H=>match x with | .ret=>resK cutRs [] E H | _=>none) (fun _ _=>rfl)];rw[c0,c1,c7,c22];unfold BsCutXC2S;rw[lchk_ptr,ob_some,loff_ptr,ob_some,Nat.zero_add,st1 hC'.bd (by simp only[one_int]) (by simp),ob_some];exact⟨_,rfl,rfl,rfl⟩
   ·rintro x σ2 H2 r hx ⟨hr1,hr2⟩
    cases x with
    | exit id=>cases hx
    | normal=>cases hx
    | ret =>
     have:r=(.tuple [lk σ2 6,lk σ2 0,lk σ2 1,lk σ2 7,lk σ2 22],H2):=cutK_ret hx;rw[this]at hr1 hr2;simp only[IV.tuple.injEq,List.cons.injEq]at hr1 hr2;exact⟨[lk σ2 6],rfl,hr1.1,H',hC',hr2⟩
end
theorem keysI_at :∀{es:List Ent},keysI es=true->∀e∈es,∃k:Int,e.1=.int .i64 k/\0<=k/\k<=65536
 | [],_,e,he=>by cases he
 | (.int .i64 k,v,d)::es,h,e,he=>by
  simp only[keysI,Bool.and_eq_true,decide_eq_true_eq]at h;rcases List.mem_cons.1 he with rfl | he
  ·exact⟨k,rfl,h.1⟩
  ·exact keysI_at h.2 e he
theorem intIn_not :∀{es:List Ent} {k:Int},intIn k es=false-> .int .i64 k ∉ es.map (·.1)
 | [],_,_=>by simp
 | (x,v,d)::es,k,h=>by
  simp only[List.map_cons,List.mem_cons,not_or];by_cases hx:∃j,x=.int .i64 j
  ·obtain⟨j,rfl⟩:=hx;simp only[intIn,Bool.or_eq_false_iff,decide_eq_false_iff_not]at h;exact⟨fun e=>h.1 (by injection e with _ e;exact e.symm),intIn_not h.2⟩
  ·refine⟨fun e=>hx ⟨k,e.symm⟩,intIn_not (es:=es) ?_⟩
   cases x with
   | int kd j =>
    cases kd with
    | i64=>exact absurd ⟨j,rfl⟩ hx
    | _=>exact h
   | _=>exact h
theorem keysD_at :∀{es:List Ent},keysD es=true->(es.map (·.1)).Nodup
 | [],_=>List.nodup_nil
 | (.int .i64 k,v,d)::es,h=>by
  simp only[keysD,Bool.and_eq_true,Bool.not_eq_true']at h;simp only[List.map_cons,List.nodup_cons];exact⟨intIn_not h.1,keysD_at h.2⟩
theorem nodN_nd :∀{l:List Nat},nodN l=true->l.Nodup
 | [],_=>List.nodup_nil
 | i::l,h=>by
  simp only[nodN,Bool.and_eq_true,List.all_eq_true,Bool.not_eq_true']at h;simp only[List.nodup_cons];exact⟨(fun hm=>by have:=h.1 i hm;rw[Nat.beq_refl]at this;exact absurd this (by simp)),nodN_nd h.2⟩
theorem sound_cutT {P:Program}{O:Oracle}(hφ:Sound P O)(hm:P.follows .mixedOrders=true){f:FuncId}(hlo:LoF P f BsCut)(args:List IV)(H:Heap)(r:IV)(H':Heap)(e:cutT args H=some (r,H')):SimCall P f args H r H':=by
 unfold cutT at e;split at e
 ·rename_i s p;split at e
  ·rename_i room used sz m hst hbd;split at e
   ·rename_i es c hmp;split at e
    ·rename_i hc;simp only[Bool.and_eq_true,Bool.not_eq_true',decide_eq_true_eq,List.all_eq_true]at hc;obtain⟨c0,c1,c2,c3,c4,c5,c6,c7,c8⟩:=hc
     cases e
     have ne:∀{a b:Nat},Nat.beq a b=false->a≠b:=fun h e=>by rw[e,Nat.beq_refl]at h;cases h
     have hval:∀e∈es,∃cs,e.2.1=.agg cs/\cs.length=16/\cs.all IV.one=true:=by
      intro e he;have:=c4 e he;split at this
      ·rename_i cs hv;simp only[Bool.and_eq_true]at this;exact⟨cs,hv,Nat.eq_of_beq_eq_true this.1,this.2⟩
      ·cases this
     have hid:∀e∈es,e.2.2<c:=by
      intro e he;have:=c3 e he;have h2:e.2.2+1<=c:=by simpa[Nat.blt]using this
      omega
     have hC:ChOk es c:=⟨keysI_at c1,hval,hid,keysD_at c2,nodN_nd c5⟩;obtain⟨⟨fn,q1,q2⟩,_⟩:=hlo;have hW:=sim_W hφ (fun _ h=>h) hm q1 q2 (nble rfl) (cut_w (cal:=callable P) (O:=O) (N:=es.length+1) (by omega) hst c0 hbd hmp ⟨ne c6,ne c7,ne c8⟩ hC);have l1:=(ges hst).1;have l2:=(ges hbd).1;have l3:=(ges hmp).1;refine hW.oneOf (by simp) (fun r H1 hq=> ?_) rfl;obtain⟨rfl,K',hK,rfl⟩:=hq;refine⟨rfl,fun i o hi=> ?_⟩;have hlK:p<K'.length:=(ges hK.bd).1;by_cases e1:i=p
     ·subst e1;rw[List.getElem?_set_self (by simpa using l2)]at hi
      cases hi
      exact .inr ⟨by simp[inBO,inBs,inB];exact l3,by rw[List.getElem?_set_self hlK]⟩
     ·rw[List.getElem?_set_ne (fun h=>e1 h.symm)]at hi;rw[List.getElem?_set_ne (fun h=>e1 h.symm)];by_cases e2:i=m
      ·subst e2;rw[List.getElem?_set_self (by simpa using l3)]at hi
       cases hi
       exact .inr ⟨rfl,hK.mp⟩
      ·rw[List.getElem?_set_ne (fun h=>e2 h.symm)]at hi;by_cases e3:i=s
       ·subst e3;rw[List.getElem?_set_self l1]at hi
        cases hi
        exact .inr ⟨rfl,by rw[hK.st];simp⟩
       ·rw[List.getElem?_set_ne (fun h=>e3 h.symm)]at hi;have hil:=(ges hi).1;exact .inl ⟨hil,hi,by rw[hK.old.2 i hil e3 e2];exact hi⟩
    ·cases e
   ·cases e
  ·cases e
 ·cases e
end Go.Shade
namespace Go.Proofs.YtmkjmfegaalcoaaGreat
open Go.Shade
theorem hm :Tryz.prog.follows .mixedOrders=true:=by kernel_rfl
noncomputable def lf (fn:Func):LFun:=(lowF Tryz.prog fn).getD ⟨.skip,[],0⟩
theorem lo24 :LoF Tryz.prog 24 (Go.Shade.veneerlaw10Build 42 49 46 50 64 65 47 51 48 52 53 54 66 67):=⟨⟨Tryz.f24,Tryz.func24,by kernel_rfl⟩,by kernel_rfl⟩
theorem lo25 :LoF Tryz.prog 25 (lf Tryz.f25):=⟨⟨_,Tryz.func25,by kernel_rfl⟩,by kernel_rfl⟩
theorem e25 (cal:FuncId->Bool)(O:Oracle)(N:Nat)(v0 v1 v2 v3:IV)(H:Heap):lrunK cal O N (lf Tryz.f25) [v0,v1,v2,v3] H=Go.Shade.mergeNewS cal O N v0 v1 v2 v3 H:=by kernel_rfl
theorem lo28 :LoF Tryz.prog 28 (lf Tryz.f28):=⟨⟨_,Tryz.func28,by kernel_rfl⟩,by kernel_rfl⟩
theorem e28 (cal:FuncId->Bool)(O:Oracle)(N:Nat)(v0 v1 v2:IV)(H:Heap):lrunK cal O N (lf Tryz.f28) [v0,v1,v2] H=Go.Shade.MvGetS cal O N 71 72 43 44 68 v0 v1 v2 H:=by kernel_rfl
theorem lo30 :LoF Tryz.prog 30 (lf Tryz.f30):=⟨⟨_,Tryz.func30,by kernel_rfl⟩,by kernel_rfl⟩
theorem e30 (cal:FuncId->Bool)(O:Oracle)(N:Nat)(v0 v1:IV)(H:Heap):lrunK cal O N (lf Tryz.f30) [v0,v1] H=Go.Shade.MvKindS cal O N 75 44 v0 v1 H:=by kernel_rfl
theorem lo42 :LoF Tryz.prog 42 (Go.Shade.branchNew 88 89 90 91):=⟨⟨Tryz.f42,Tryz.func42,by kernel_rfl⟩,by kernel_rfl⟩
theorem lo43 :LoF Tryz.prog 43 (lf Tryz.f43):=⟨⟨_,Tryz.func43,by kernel_rfl⟩,by kernel_rfl⟩
theorem e43 (cal:FuncId->Bool)(O:Oracle)(N:Nat)(v0 v1 v2:IV)(H:Heap):lrunK cal O N (lf Tryz.f43) [v0,v1,v2] H=Go.Shade.BbGetS cal O N 92 93 v0 v1 v2 H:=by kernel_rfl
theorem lo44 :LoF Tryz.prog 44 (lf Tryz.f44):=⟨⟨_,Tryz.func44,by kernel_rfl⟩,by kernel_rfl⟩
theorem e44 (cal:FuncId->Bool)(O:Oracle)(N:Nat)(v0 v1:IV)(H:Heap):lrunK cal O N (lf Tryz.f44) [v0,v1] H=Go.Shade.BbKindS cal O N 94 v0 v1 H:=by kernel_rfl
theorem lo45 :LoF Tryz.prog 45 (lf Tryz.f45):=⟨⟨_,Tryz.func45,by kernel_rfl⟩,by kernel_rfl⟩
theorem e45 (cal:FuncId->Bool)(O:Oracle)(N:Nat)(v0 v1:IV)(H:Heap):lrunK cal O N (lf Tryz.f45) [v0,v1] H=Go.Shade.BbMarksS cal O N 94 v0 v1 H:=by kernel_rfl
theorem lo46 :LoF Tryz.prog 46 (lf Tryz.f46):=⟨⟨_,Tryz.func46,by kernel_rfl⟩,by kernel_rfl⟩
theorem e46 (cal:FuncId->Bool)(O:Oracle)(N:Nat)(v0 v1 v2 v3 v4:IV)(H:Heap):lrunK cal O N (lf Tryz.f46) [v0,v1,v2,v3,v4] H=Go.Shade.BbMakeS cal O N 95 96 97 91 98 v0 v1 v2 v3 v4 H:=by kernel_rfl
theorem lo47 :LoF Tryz.prog 47 (lf Tryz.f47):=⟨⟨_,Tryz.func47,by kernel_rfl⟩,by kernel_rfl⟩
theorem e47 (cal:FuncId->Bool)(O:Oracle)(N:Nat)(v0 v1 v2:IV)(H:Heap):lrunK cal O N (lf Tryz.f47) [v0,v1,v2] H=Go.Shade.BbUnlinkS cal O N 99 100 v0 v1 v2 H:=by kernel_rfl
theorem lo48 :LoF Tryz.prog 48 (lf Tryz.f48):=⟨⟨_,Tryz.func48,by kernel_rfl⟩,by kernel_rfl⟩
theorem e48 (cal:FuncId->Bool)(O:Oracle)(N:Nat)(v0 v1 v2:IV)(H:Heap):lrunK cal O N (lf Tryz.f48) [v0,v1,v2] H=Go.Shade.BbMarkS cal O N 94 v0 v1 v2 H:=by kernel_rfl
theorem lo49 :LoF Tryz.prog 49 (lf Tryz.f49):=⟨⟨_,Tryz.func49,by kernel_rfl⟩,by kernel_rfl⟩
theorem e49 (cal:FuncId->Bool)(O:Oracle)(N:Nat)(v0:IV)(H:Heap):lrunK cal O N (lf Tryz.f49) [v0] H=Go.Shade.vr05NewS cal O N 101 v0 H:=by kernel_rfl
theorem lo50 :LoF Tryz.prog 50 (Go.Shade.R5Make 102 103):=⟨⟨Tryz.f50,Tryz.func50,by kernel_rfl⟩,by kernel_rfl⟩
theorem lo51 :LoF Tryz.prog 51 (lf Tryz.f51):=⟨⟨_,Tryz.func51,by kernel_rfl⟩,by kernel_rfl⟩
theorem e51 (cal:FuncId->Bool)(O:Oracle)(N:Nat)(v0 v1 v2:IV)(H:Heap):lrunK cal O N (lf Tryz.f51) [v0,v1,v2] H=Go.Shade.R5UnlinkS cal O N 104 74 105 106 v0 v1 v2 H:=by kernel_rfl
theorem lo52 :LoF Tryz.prog 52 (lf Tryz.f52):=⟨⟨_,Tryz.func52,by kernel_rfl⟩,by kernel_rfl⟩
theorem e52 (cal:FuncId->Bool)(O:Oracle)(N:Nat)(v0 v1 v2:IV)(H:Heap):lrunK cal O N (lf Tryz.f52) [v0,v1,v2] H=Go.Shade.R5MarkS cal O N 107 v0 v1 v2 H:=by kernel_rfl
theorem lo53 :LoF Tryz.prog 53 (lf Tryz.f53):=⟨⟨_,Tryz.func53,by kernel_rfl⟩,by kernel_rfl⟩
theorem e53 (cal:FuncId->Bool)(O:Oracle)(N:Nat)(v0 v1 v2 v3:IV)(H:Heap):lrunK cal O N (lf Tryz.f53) [v0,v1,v2,v3] H=Go.Shade.BbWriteS cal O N 108 109 v0 v1 v2 v3 H:=by kernel_rfl
theorem lo54 :LoF Tryz.prog 54 (lf Tryz.f54):=⟨⟨_,Tryz.func54,by kernel_rfl⟩,by kernel_rfl⟩
theorem e54 (cal:FuncId->Bool)(O:Oracle)(N:Nat)(v0 v1 v2 v3:IV)(H:Heap):lrunK cal O N (lf Tryz.f54) [v0,v1,v2,v3] H=Go.Shade.R5WriteS cal O N 110 111 v0 v1 v2 v3 H:=by kernel_rfl
theorem lo62 :LoF Tryz.prog 62 (lf Tryz.f62):=⟨⟨_,Tryz.func62,by kernel_rfl⟩,by kernel_rfl⟩
theorem e62 (cal:FuncId->Bool)(O:Oracle)(N:Nat)(v0:IV)(H:Heap):lrunK cal O N (lf Tryz.f62) [v0] H=Go.Shade.QqLenS cal O N 117 v0 H:=by kernel_rfl
theorem lo64 :LoF Tryz.prog 64 (lf Tryz.f64):=⟨⟨_,Tryz.func64,by kernel_rfl⟩,by kernel_rfl⟩
theorem e64 (cal:FuncId->Bool)(O:Oracle)(N:Nat)(v0 v1 v2 v3:IV)(H:Heap):lrunK cal O N (lf Tryz.f64) [v0,v1,v2,v3] H=Go.Shade.BbLinkS cal O N 95 94 98 v0 v1 v2 v3 H:=by kernel_rfl
theorem lo65 :LoF Tryz.prog 65 (lf Tryz.f65):=⟨⟨_,Tryz.func65,by kernel_rfl⟩,by kernel_rfl⟩
theorem e65 (cal:FuncId->Bool)(O:Oracle)(N:Nat)(v0 v1 v2 v3:IV)(H:Heap):lrunK cal O N (lf Tryz.f65) [v0,v1,v2,v3] H=Go.Shade.R5LinkS cal O N 102 107 103 v0 v1 v2 v3 H:=by kernel_rfl
theorem lo66 :LoF Tryz.prog 66 (lf Tryz.f66):=⟨⟨_,Tryz.func66,by kernel_rfl⟩,by kernel_rfl⟩
theorem e66 (cal:FuncId->Bool)(O:Oracle)(N:Nat)(v0 v1 v2 v3 v4:IV)(H:Heap):lrunK cal O N (lf Tryz.f66) [v0,v1,v2,v3,v4] H=Go.Shade.BbRenameS cal O N 99 118 119 120 93 121 100 122 98 v0 v1 v2 v3 v4 H:=by kernel_rfl
theorem lo67 :LoF Tryz.prog 67 (lf Tryz.f67):=⟨⟨_,Tryz.func67,by kernel_rfl⟩,by kernel_rfl⟩
theorem e67 (cal:FuncId->Bool)(O:Oracle)(N:Nat)(v0 v1 v2 v3 v4:IV)(H:Heap):lrunK cal O N (lf Tryz.f67) [v0,v1,v2,v3,v4] H=Go.Shade.R5RenameS cal O N 104 74 123 124 105 106 103 v0 v1 v2 v3 v4 H:=by kernel_rfl
theorem lo68 :LoF Tryz.prog 68 (lf Tryz.f68):=⟨⟨_,Tryz.func68,by kernel_rfl⟩,by kernel_rfl⟩
theorem e68 (cal:FuncId->Bool)(O:Oracle)(N:Nat)(v0 v1:IV)(H:Heap):lrunK cal O N (lf Tryz.f68) [v0,v1] H=Go.Shade.MvOpaqueS cal O N 45 v0 v1 H:=by kernel_rfl
theorem lo69 :LoF Tryz.prog 69 (lf Tryz.f69):=⟨⟨_,Tryz.func69,by kernel_rfl⟩,by kernel_rfl⟩
theorem e69 (cal:FuncId->Bool)(O:Oracle)(N:Nat)(v0 v1:IV)(H:Heap):lrunK cal O N (lf Tryz.f69) [v0,v1] H=Go.Shade.R5KindS cal O N 107 v0 v1 H:=by kernel_rfl
theorem lo71 :LoF Tryz.prog 71 (lf Tryz.f71):=⟨⟨_,Tryz.func71,by kernel_rfl⟩,by kernel_rfl⟩
theorem e71 (cal:FuncId->Bool)(O:Oracle)(N:Nat)(v0 v1:IV)(H:Heap):lrunK cal O N (lf Tryz.f71) [v0,v1] H=Go.Shade.MvDirS cal O N 30 v0 v1 H:=by kernel_rfl
theorem lo72 :LoF Tryz.prog 72 (lf Tryz.f72):=⟨⟨_,Tryz.func72,by kernel_rfl⟩,by kernel_rfl⟩
theorem e72 (cal:FuncId->Bool)(O:Oracle)(N:Nat)(v0 v1 v2:IV)(H:Heap):lrunK cal O N (lf Tryz.f72) [v0,v1,v2] H=Go.Shade.MvBelowS cal O N 68 43 v0 v1 v2 H:=by kernel_rfl
theorem lo74 :LoF Tryz.prog 74 (lf Tryz.f74):=⟨⟨_,Tryz.func74,by kernel_rfl⟩,by kernel_rfl⟩
theorem e74 (cal:FuncId->Bool)(O:Oracle)(N:Nat)(v0 v1 v2:IV)(H:Heap):lrunK cal O N (lf Tryz.f74) [v0,v1,v2] H=Go.Shade.R5GetS cal O N 104 125 v0 v1 v2 H:=by kernel_rfl
theorem lo75 :LoF Tryz.prog 75 (lf Tryz.f75):=⟨⟨_,Tryz.func75,by kernel_rfl⟩,by kernel_rfl⟩
theorem e75 (cal:FuncId->Bool)(O:Oracle)(N:Nat)(v0 v1:IV)(H:Heap):lrunK cal O N (lf Tryz.f75) [v0,v1] H=Go.Shade.MvSideS cal O N v0 v1 H:=by kernel_rfl
theorem lo81 :LoF Tryz.prog 81 Go.Shade.vr01Less:=⟨⟨Tryz.f81,Tryz.func81,by kernel_rfl⟩,by kernel_rfl⟩
theorem lo88 :LoF Tryz.prog 88 (lf Tryz.f88):=⟨⟨_,Tryz.func88,by kernel_rfl⟩,by kernel_rfl⟩
theorem e88 (cal:FuncId->Bool)(O:Oracle)(N:Nat)(v0:IV)(H:Heap):lrunK cal O N (lf Tryz.f88) [v0] H=Go.Shade.blockNewS cal O N v0 H:=by kernel_rfl
theorem lo89 :LoF Tryz.prog 89 (lf Tryz.f89):=⟨⟨_,Tryz.func89,by kernel_rfl⟩,by kernel_rfl⟩
theorem e89 (cal:FuncId->Bool)(O:Oracle)(N:Nat)(H:Heap):lrunK cal O N (lf Tryz.f89) [] H=Go.Shade.queueNewS cal O N H:=by kernel_rfl
theorem lo90 :LoF Tryz.prog 90 (lf Tryz.f90):=⟨⟨_,Tryz.func90,by kernel_rfl⟩,by kernel_rfl⟩
theorem e90 (cal:FuncId->Bool)(O:Oracle)(N:Nat)(v0 v1 v2:IV)(H:Heap):lrunK cal O N (lf Tryz.f90) [v0,v1,v2] H=Go.Shade.QqPushS cal O N 133 v0 v1 v2 H:=by kernel_rfl
theorem lo91 :LoF Tryz.prog 91 (lf Tryz.f91):=⟨⟨_,Tryz.func91,by kernel_rfl⟩,by kernel_rfl⟩
theorem e91 (cal:FuncId->Bool)(O:Oracle)(N:Nat)(H:Heap):lrunK cal O N (lf Tryz.f91) [] H=Go.Shade.dentsNewS cal O N H:=by kernel_rfl
theorem lo92 :LoF Tryz.prog 92 (lf Tryz.f92):=⟨⟨_,Tryz.func92,by kernel_rfl⟩,by kernel_rfl⟩
theorem e92 (cal:FuncId->Bool)(O:Oracle)(N:Nat)(v0 v1:IV)(H:Heap):lrunK cal O N (lf Tryz.f92) [v0,v1] H=Go.Shade.BbDirS cal O N 94 v0 v1 H:=by kernel_rfl
theorem lo93 :LoF Tryz.prog 93 (lf Tryz.f93):=⟨⟨_,Tryz.func93,by kernel_rfl⟩,by kernel_rfl⟩
theorem e93 (cal:FuncId->Bool)(O:Oracle)(N:Nat)(v0 v1:IV)(H:Heap):lrunK cal O N (lf Tryz.f93) [v0,v1] H=Go.Shade.DdGetS cal O N 134 v0 v1 H:=by kernel_rfl
theorem lo94 :LoF Tryz.prog 94 (lf Tryz.f94):=⟨⟨_,Tryz.func94,by kernel_rfl⟩,by kernel_rfl⟩
theorem e94 (cal:FuncId->Bool)(O:Oracle)(N:Nat)(v0 v1:IV)(H:Heap):lrunK cal O N (lf Tryz.f94) [v0,v1] H=Go.Shade.BbAtS cal O N v0 v1 H:=by kernel_rfl
theorem lo95 :LoF Tryz.prog 95 (lf Tryz.f95):=⟨⟨_,Tryz.func95,by kernel_rfl⟩,by kernel_rfl⟩
theorem e95 (cal:FuncId->Bool)(O:Oracle)(N:Nat)(v0 v1 v2:IV)(H:Heap):lrunK cal O N (lf Tryz.f95) [v0,v1,v2] H=Go.Shade.BbVacantS cal O N 118 119 93 v0 v1 v2 H:=by kernel_rfl
theorem lo96 :LoF Tryz.prog 96 (lf Tryz.f96):=⟨⟨_,Tryz.func96,by kernel_rfl⟩,by kernel_rfl⟩
theorem e96 (cal:FuncId->Bool)(O:Oracle)(N:Nat)(v0:IV)(H:Heap):lrunK cal O N (lf Tryz.f96) [v0] H=Go.Shade.QqPopS cal O N 62 135 v0 H:=by kernel_rfl
theorem lo97 :LoF Tryz.prog 97 (lf Tryz.f97):=⟨⟨_,Tryz.func97,by kernel_rfl⟩,by kernel_rfl⟩
theorem e97 (cal:FuncId->Bool)(O:Oracle)(N:Nat)(v0:IV)(H:Heap):lrunK cal O N (lf Tryz.f97) [v0] H=Go.Shade.BsBodyS cal O N v0 H:=by kernel_rfl
theorem lo98 :LoF Tryz.prog 98 (lf Tryz.f98):=⟨⟨_,Tryz.func98,by kernel_rfl⟩,by kernel_rfl⟩
theorem e98 (cal:FuncId->Bool)(O:Oracle)(N:Nat)(v0 v1 v2:IV)(H:Heap):lrunK cal O N (lf Tryz.f98) [v0,v1,v2] H=Go.Shade.DdSetS cal O N 136 134 137 v0 v1 v2 H:=by kernel_rfl
theorem lo99 :LoF Tryz.prog 99 (lf Tryz.f99):=⟨⟨_,Tryz.func99,by kernel_rfl⟩,by kernel_rfl⟩
theorem e99 (cal:FuncId->Bool)(O:Oracle)(N:Nat)(v0 v1 v2:IV)(H:Heap):lrunK cal O N (lf Tryz.f99) [v0,v1,v2] H=Go.Shade.BbNamedS cal O N 118 93 v0 v1 v2 H:=by kernel_rfl
theorem lo100 :LoF Tryz.prog 100 (lf Tryz.f100):=⟨⟨_,Tryz.func100,by kernel_rfl⟩,by kernel_rfl⟩
theorem e100 (cal:FuncId->Bool)(O:Oracle)(N:Nat)(v0 v1 v2:IV)(H:Heap):lrunK cal O N (lf Tryz.f100) [v0,v1,v2] H=Go.Shade.BbAwayS cal O N 122 138 v0 v1 v2 H:=by kernel_rfl
theorem lo101 :LoF Tryz.prog 101 (lf Tryz.f101):=⟨⟨_,Tryz.func101,by kernel_rfl⟩,by kernel_rfl⟩
theorem e101 (cal:FuncId->Bool)(O:Oracle)(N:Nat)(v0:IV)(H:Heap):lrunK cal O N (lf Tryz.f101) [v0] H=Go.Shade.vr03NewS cal O N v0 H:=by kernel_rfl
theorem lo102 :LoF Tryz.prog 102 (lf Tryz.f102):=⟨⟨_,Tryz.func102,by kernel_rfl⟩,by kernel_rfl⟩
theorem e102 (cal:FuncId->Bool)(O:Oracle)(N:Nat)(v0 v1 v2:IV)(H:Heap):lrunK cal O N (lf Tryz.f102) [v0,v1,v2] H=Go.Shade.R5VacantS cal O N 104 123 125 v0 v1 v2 H:=by kernel_rfl
theorem lo103 :LoF Tryz.prog 103 (Go.Shade.R4Set 139 81):=⟨⟨Tryz.f103,Tryz.func103,by kernel_rfl⟩,by kernel_rfl⟩
theorem lo104 :LoF Tryz.prog 104 (lf Tryz.f104):=⟨⟨_,Tryz.func104,by kernel_rfl⟩,by kernel_rfl⟩
theorem e104 (cal:FuncId->Bool)(O:Oracle)(N:Nat)(v0 v1 v2:IV)(H:Heap):lrunK cal O N (lf Tryz.f104) [v0,v1,v2] H=Go.Shade.R5DirS cal O N 107 v0 v1 v2 H:=by kernel_rfl
theorem lo105 :LoF Tryz.prog 105 (Go.Shade.R4Del 125):=⟨⟨Tryz.f105,Tryz.func105,by kernel_rfl⟩,by kernel_rfl⟩
theorem lo106 :LoF Tryz.prog 106 (lf Tryz.f106):=⟨⟨_,Tryz.func106,by kernel_rfl⟩,by kernel_rfl⟩
theorem e106 (cal:FuncId->Bool)(O:Oracle)(N:Nat)(v0 v1 v2 v3:IV)(H:Heap):lrunK cal O N (lf Tryz.f106) [v0,v1,v2,v3] H=Go.Shade.R5LessS cal O N 140 v0 v1 v2 v3 H:=by kernel_rfl
theorem lo107 :LoF Tryz.prog 107 (lf Tryz.f107):=⟨⟨_,Tryz.func107,by kernel_rfl⟩,by kernel_rfl⟩
theorem e107 (cal:FuncId->Bool)(O:Oracle)(N:Nat)(v0 v1:IV)(H:Heap):lrunK cal O N (lf Tryz.f107) [v0,v1] H=Go.Shade.R5IsS cal O N v0 v1 H:=by kernel_rfl
theorem lo108 :LoF Tryz.prog 108 (lf Tryz.f108):=⟨⟨_,Tryz.func108,by kernel_rfl⟩,by kernel_rfl⟩
theorem e108 (cal:FuncId->Bool)(O:Oracle)(N:Nat)(v0 v1:IV)(H:Heap):lrunK cal O N (lf Tryz.f108) [v0,v1] H=Go.Shade.BbFileS cal O N 94 v0 v1 H:=by kernel_rfl
theorem lo109 :LoF Tryz.prog 109 Go.Shade.BsWrite:=⟨⟨Tryz.f109,Tryz.func109,by kernel_rfl⟩,by kernel_rfl⟩
theorem lo110 :LoF Tryz.prog 110 (lf Tryz.f110):=⟨⟨_,Tryz.func110,by kernel_rfl⟩,by kernel_rfl⟩
theorem e110 (cal:FuncId->Bool)(O:Oracle)(N:Nat)(v0 v1:IV)(H:Heap):lrunK cal O N (lf Tryz.f110) [v0,v1] H=Go.Shade.R5FileS cal O N 69 v0 v1 H:=by kernel_rfl
theorem lo111 :LoF Tryz.prog 111 (Go.Shade.R3sWrite 141 142):=⟨⟨Tryz.f111,Tryz.func111,by kernel_rfl⟩,by kernel_rfl⟩
theorem lo117 :LoF Tryz.prog 117 (lf Tryz.f117):=⟨⟨_,Tryz.func117,by kernel_rfl⟩,by kernel_rfl⟩
theorem e117 (cal:FuncId->Bool)(O:Oracle)(N:Nat)(v0:IV)(H:Heap):lrunK cal O N (lf Tryz.f117) [v0] H=Go.Shade.QisLenS cal O N v0 H:=by kernel_rfl
theorem lo118 :LoF Tryz.prog 118 (lf Tryz.f118):=⟨⟨_,Tryz.func118,by kernel_rfl⟩,by kernel_rfl⟩
theorem e118 (cal:FuncId->Bool)(O:Oracle)(N:Nat)(v0 v1:IV)(H:Heap):lrunK cal O N (lf Tryz.f118) [v0,v1] H=Go.Shade.BbChangedS cal O N 92 v0 v1 H:=by kernel_rfl
theorem lo119 :LoF Tryz.prog 119 (lf Tryz.f119):=⟨⟨_,Tryz.func119,by kernel_rfl⟩,by kernel_rfl⟩
theorem e119 (cal:FuncId->Bool)(O:Oracle)(N:Nat)(v0:IV)(H:Heap):lrunK cal O N (lf Tryz.f119) [v0] H=Go.Shade.branchSettableS cal O N 136 v0 H:=by kernel_rfl
theorem lo120 :LoF Tryz.prog 120 Go.Shade.BbBelow:=⟨⟨Tryz.f120,Tryz.func120,by kernel_rfl⟩,by kernel_rfl⟩
theorem lo121 :LoF Tryz.prog 121 (lf Tryz.f121):=⟨⟨_,Tryz.func121,by kernel_rfl⟩,by kernel_rfl⟩
theorem e121 (cal:FuncId->Bool)(O:Oracle)(N:Nat)(v0:IV)(H:Heap):lrunK cal O N (lf Tryz.f121) [v0] H=Go.Shade.DdLenS cal O N v0 H:=by kernel_rfl
theorem lo122 :LoF Tryz.prog 122 (lf Tryz.f122):=⟨⟨_,Tryz.func122,by kernel_rfl⟩,by kernel_rfl⟩
theorem e122 (cal:FuncId->Bool)(O:Oracle)(N:Nat)(v0 v1:IV)(H:Heap):lrunK cal O N (lf Tryz.f122) [v0,v1] H=Go.Shade.DdDelS cal O N 134 147 v0 v1 H:=by kernel_rfl
theorem lo123 :LoF Tryz.prog 123 (lf Tryz.f123):=⟨⟨_,Tryz.func123,by kernel_rfl⟩,by kernel_rfl⟩
theorem e123 (cal:FuncId->Bool)(O:Oracle)(N:Nat)(v0:IV)(H:Heap):lrunK cal O N (lf Tryz.f123) [v0] H=Go.Shade.vr05SetS cal O N 139 v0 H:=by kernel_rfl
theorem lo124 :LoF Tryz.prog 124 Go.Shade.R5Below:=⟨⟨Tryz.f124,Tryz.func124,by kernel_rfl⟩,by kernel_rfl⟩
theorem lo125 :LoF Tryz.prog 125 Go.Shade.R4Get:=⟨⟨Tryz.f125,Tryz.func125,by kernel_rfl⟩,by kernel_rfl⟩
theorem lo133 :LoF Tryz.prog 133 (lf Tryz.f133):=⟨⟨_,Tryz.func133,by kernel_rfl⟩,by kernel_rfl⟩
theorem e133 (cal:FuncId->Bool)(O:Oracle)(N:Nat)(v0 v1:IV)(H:Heap):lrunK cal O N (lf Tryz.f133) [v0,v1] H=Go.Shade.cHpPushS cal O N 159 v0 v1 H:=by kernel_rfl
theorem lo134 :LoF Tryz.prog 134 (lf Tryz.f134):=⟨⟨_,Tryz.func134,by kernel_rfl⟩,by kernel_rfl⟩
theorem e134 (cal:FuncId->Bool)(O:Oracle)(N:Nat)(v0 v1:IV)(H:Heap):lrunK cal O N (lf Tryz.f134) [v0,v1] H=Go.Shade.DdFindS cal O N 160 161 v0 v1 H:=by kernel_rfl
theorem lo135 :LoF Tryz.prog 135 (lf Tryz.f135):=⟨⟨_,Tryz.func135,by kernel_rfl⟩,by kernel_rfl⟩
theorem e135 (cal:FuncId->Bool)(O:Oracle)(N:Nat)(v0:IV)(H:Heap):lrunK cal O N (lf Tryz.f135) [v0] H=Go.Shade.cHpPopS cal O N 163 v0 H:=by kernel_rfl
theorem lo136 :LoF Tryz.prog 136 (lf Tryz.f136):=⟨⟨_,Tryz.func136,by kernel_rfl⟩,by kernel_rfl⟩
theorem e136 (cal:FuncId->Bool)(O:Oracle)(N:Nat)(v0:IV)(H:Heap):lrunK cal O N (lf Tryz.f136) [v0] H=Go.Shade.pathNameS cal O N 144 v0 H:=by kernel_rfl
theorem lo138 :LoF Tryz.prog 138 (lf Tryz.f138):=⟨⟨_,Tryz.func138,by kernel_rfl⟩,by kernel_rfl⟩
theorem e138 (cal:FuncId->Bool)(O:Oracle)(N:Nat)(v0 v1:IV)(H:Heap):lrunK cal O N (lf Tryz.f138) [v0,v1] H=Go.Shade.BbGoneS cal O N 166 90 v0 v1 H:=by kernel_rfl
theorem lo139 :LoF Tryz.prog 139 (lf Tryz.f139):=⟨⟨_,Tryz.func139,by kernel_rfl⟩,by kernel_rfl⟩
theorem e139 (cal:FuncId->Bool)(O:Oracle)(N:Nat)(v0:IV)(H:Heap):lrunK cal O N (lf Tryz.f139) [v0] H=Go.Shade.vr01NameS cal O N 167 v0 H:=by kernel_rfl
theorem lo140 :LoF Tryz.prog 140 Go.Shade.R3sCut:=⟨⟨Tryz.f140,Tryz.func140,by kernel_rfl⟩,by kernel_rfl⟩
theorem lo141 :LoF Tryz.prog 141 (lf Tryz.f141):=⟨⟨_,Tryz.func141,by kernel_rfl⟩,by kernel_rfl⟩
theorem e141 (cal:FuncId->Bool)(O:Oracle)(N:Nat)(v0 v1:IV)(H:Heap):lrunK cal O N (lf Tryz.f141) [v0,v1] H=Go.Shade.R3bThereS cal O N v0 v1 H:=by kernel_rfl
theorem lo142 :LoF Tryz.prog 142 Go.Shade.R3bLay:=⟨⟨Tryz.f142,Tryz.func142,by kernel_rfl⟩,by kernel_rfl⟩
theorem lo144 :LoF Tryz.prog 144 (lf Tryz.f144):=⟨⟨_,Tryz.func144,by kernel_rfl⟩,by kernel_rfl⟩
theorem e144 (cal:FuncId->Bool)(O:Oracle)(N:Nat)(v0 v1:IV)(H:Heap):lrunK cal O N (lf Tryz.f144) [v0,v1] H=Go.Shade.stringsIndexByteS cal O N 168 v0 v1 H:=by kernel_rfl
theorem lo147 :LoF Tryz.prog 147 (lf Tryz.f147):=⟨⟨_,Tryz.func147,by kernel_rfl⟩,by kernel_rfl⟩
theorem e147 (cal:FuncId->Bool)(O:Oracle)(N:Nat)(v0 v1 v2:IV)(H:Heap):lrunK cal O N (lf Tryz.f147) [v0,v1,v2] H=Go.Shade.sDelS cal O N v0 v1 v2 H:=by kernel_rfl
theorem lo159 :LoF Tryz.prog 159 Go.Shade.cHpUp:=⟨⟨Tryz.f159,Tryz.func159,by kernel_rfl⟩,by kernel_rfl⟩
theorem lo160 :LoF Tryz.prog 160 Go.Shade.sBsf:=⟨⟨Tryz.f160,Tryz.func160,by kernel_rfl⟩,by kernel_rfl⟩
theorem lo161 :LoF Tryz.prog 161 (lf Tryz.f161):=⟨⟨_,Tryz.func161,by kernel_rfl⟩,by kernel_rfl⟩
theorem e161 (cal:FuncId->Bool)(O:Oracle)(N:Nat)(v0 v1:IV)(H:Heap):lrunK cal O N (lf Tryz.f161) [v0,v1] H=Go.Shade.DdFind1S cal O N 162 v0 v1 H:=by kernel_rfl
theorem lo162 :LoF Tryz.prog 162 (lf Tryz.f162):=⟨⟨_,Tryz.func162,by kernel_rfl⟩,by kernel_rfl⟩
theorem e162 (cal:FuncId->Bool)(O:Oracle)(N:Nat)(v0 v1:IV)(H:Heap):lrunK cal O N (lf Tryz.f162) [v0,v1] H=Go.Shade.stringsCompareS cal O N 174 v0 v1 H:=by kernel_rfl
theorem lo163 :LoF Tryz.prog 163 Go.Shade.cHpDown:=⟨⟨Tryz.f163,Tryz.func163,by kernel_rfl⟩,by kernel_rfl⟩
theorem lo165 :LoF Tryz.prog 165 (lf Tryz.f165):=⟨⟨_,Tryz.func165,by kernel_rfl⟩,by kernel_rfl⟩
theorem e165 (cal:FuncId->Bool)(O:Oracle)(N:Nat)(v0 v1:IV)(H:Heap):lrunK cal O N (lf Tryz.f165) [v0,v1] H=Go.Shade.sRorS cal O N 175 v0 v1 H:=by kernel_rfl
theorem lo166 :LoF Tryz.prog 166 (lf Tryz.f166):=⟨⟨_,Tryz.func166,by kernel_rfl⟩,by kernel_rfl⟩
theorem e166 (cal:FuncId->Bool)(O:Oracle)(N:Nat)(v0 v1:IV)(H:Heap):lrunK cal O N (lf Tryz.f166) [v0,v1] H=Go.Shade.BsFreeS cal O N 176 v0 v1 H:=by kernel_rfl
theorem lo167 :LoF Tryz.prog 167 Go.Shade.vr01Has:=⟨⟨Tryz.f167,Tryz.func167,by kernel_rfl⟩,by kernel_rfl⟩
theorem lo168 :LoF Tryz.prog 168 (lf Tryz.f168):=⟨⟨_,Tryz.func168,by kernel_rfl⟩,by kernel_rfl⟩
theorem e168 (cal:FuncId->Bool)(O:Oracle)(N:Nat)(v0 v1:IV)(H:Heap):lrunK cal O N (lf Tryz.f168) [v0,v1] H=Go.Shade.iSibS cal O N v0 v1 H:=by kernel_rfl
theorem lo174 :LoF Tryz.prog 174 (lf Tryz.f174):=⟨⟨_,Tryz.func174,by kernel_rfl⟩,by kernel_rfl⟩
theorem e174 (cal:FuncId->Bool)(O:Oracle)(N:Nat)(v0 v1:IV)(H:Heap):lrunK cal O N (lf Tryz.f174) [v0,v1] H=Go.Shade.iBcsS cal O N v0 v1 H:=by kernel_rfl
theorem lo175 :LoF Tryz.prog 175 (lf Tryz.f175):=⟨⟨_,Tryz.func175,by kernel_rfl⟩,by kernel_rfl⟩
theorem e175 (cal:FuncId->Bool)(O:Oracle)(N:Nat)(v0 v1:IV)(H:Heap):lrunK cal O N (lf Tryz.f175) [v0,v1] H=Go.Shade.sRolS cal O N 180 v0 v1 H:=by kernel_rfl
theorem lo180 :LoF Tryz.prog 180 Go.Shade.sRev:=⟨⟨Tryz.f180,Tryz.func180,by kernel_rfl⟩,by kernel_rfl⟩
theorem lo203 :LoF Tryz.prog 203 (lf Tryz.f203):=⟨⟨_,Tryz.func203,by kernel_rfl⟩,by kernel_rfl⟩
theorem e203 (cal:FuncId->Bool)(O:Oracle)(N:Nat)(v0 v1 v2:IV)(H:Heap):lrunK cal O N (lf Tryz.f203) [v0,v1,v2] H=Go.Shade.QisLessS cal O N 205 v0 v1 v2 H:=by kernel_rfl
theorem lo204 :LoF Tryz.prog 204 (lf Tryz.f204):=⟨⟨_,Tryz.func204,by kernel_rfl⟩,by kernel_rfl⟩
theorem e204 (cal:FuncId->Bool)(O:Oracle)(N:Nat)(v0 v1 v2:IV)(H:Heap):lrunK cal O N (lf Tryz.f204) [v0,v1,v2] H=Go.Shade.QisSwapS cal O N v0 v1 v2 H:=by kernel_rfl
theorem lo205 :LoF Tryz.prog 205 (lf Tryz.f205):=⟨⟨_,Tryz.func205,by kernel_rfl⟩,by kernel_rfl⟩
theorem e205 (cal:FuncId->Bool)(O:Oracle)(N:Nat)(v0 v1:IV)(H:Heap):lrunK cal O N (lf Tryz.f205) [v0,v1] H=Go.Shade.QiAheadS cal O N v0 v1 H:=by kernel_rfl
theorem lo206 :LoF Tryz.prog 206 (lf Tryz.f206):=⟨⟨_,Tryz.func206,by kernel_rfl⟩,by kernel_rfl⟩
theorem e206 (cal:FuncId->Bool)(O:Oracle)(N:Nat)(v0:IV)(H:Heap):lrunK cal O N (lf Tryz.f206) [v0] H=Go.Shade.QisPopS cal O N v0 H:=by kernel_rfl
theorem lo207 :LoF Tryz.prog 207 (lf Tryz.f207):=⟨⟨_,Tryz.func207,by kernel_rfl⟩,by kernel_rfl⟩
theorem e207 (cal:FuncId->Bool)(O:Oracle)(N:Nat)(v0 v1:IV)(H:Heap):lrunK cal O N (lf Tryz.f207) [v0,v1] H=Go.Shade.QisPushS cal O N v0 v1 H:=by kernel_rfl
theorem lo137 :LoF Tryz.prog 137 (insL 165):=⟨⟨Tryz.f137,Tryz.func137,by kernel_rfl⟩,by kernel_rfl⟩
theorem lo176 :LoF Tryz.prog 176 BsCut:=⟨⟨Tryz.f176,Tryz.func176,by kernel_rfl⟩,by kernel_rfl⟩
end Go.Proofs.YtmkjmfegaalcoaaGreat
namespace Go.Proofs.YtmkjmfegaalcoaaGreat
open Go.Shade
def inT (f:Nat):Bool:=Nat.beq f 137||(Nat.beq f 176||(Nat.beq f 23||(Nat.beq f 78||Nat.beq f 32)))
structure TbOk (T:Table):Prop where
 non:∀f,inT f=false->T f=none
 ins:T 137=some insT
 cut:T 176=some cutT
section
variable {T : Table}
theorem okILen (hT:TbOk T):ILenOk (den Tryz.prog T) 117:=by unfold ILenOk;intros;exact denLo (hT.non 117 rfl) lo117 0 (nble (by kernel_rfl)) (by rw[e117];exact ilen_s ‹_›)
theorem okAhead (hT:TbOk T):AheadOk (den Tryz.prog T) 205:=by unfold AheadOk;intros;exact denWp (hT.non 205 rfl) lo205 0 (nble (by kernel_rfl)) (by rw[e205];exact ahead_s _ _ _)
theorem okLess (hT:TbOk T):LessOk (den Tryz.prog T) 203:=by unfold LessOk;intros;exact denWp (hT.non 203 rfl) lo203 0 (nble (by kernel_rfl)) (by rw[e203];exact less_s (okAhead hT) ‹_› ‹_› ‹_›)
theorem okSwap (hT:TbOk T):SwapOk (den Tryz.prog T) 204:=by unfold SwapOk;intros;exact denWp (hT.non 204 rfl) lo204 0 (nble (by kernel_rfl)) (by rw[e204];exact swap_s ‹_› ‹_› ‹_›)
theorem okUp (hT:TbOk T):UpOk (den Tryz.prog T) 196 159:=fun P H q l k j hQ hj hb=>denWp (hT.non 159 rfl) lo159 l.length (nble rfl) (by rw[Go.Shade.cHpUpEq];exact up_s (okLess hT) (okSwap hT) hQ hj hb)
theorem okDown (hT:TbOk T):DownOk (den Tryz.prog T) 196 163:=fun P H q l k i n hQ h1 h2 hb=>denWp (hT.non 163 rfl) lo163 (l.length+1) (nble rfl) (by rw[Go.Shade.cHpDownEq];exact down_s (okLess hT) (okSwap hT) hQ h1 h2 hb)
theorem okIPush (hT:TbOk T):IPushOk (den Tryz.prog T) 198 207:=by unfold IPushOk;intros;exact denWp (hT.non 207 rfl) lo207 0 (nble (by kernel_rfl)) (by rw[e207];exact ipush_s ‹_› ‹_›)
theorem okHPush (hT:TbOk T):HPushOk (den Tryz.prog T) 196 198 133:=by unfold HPushOk;intros;exact denWp (hT.non 133 rfl) lo133 0 (nble (by kernel_rfl)) (by rw[e133];exact hpush_s (okIPush hT) (okILen hT) (okUp hT) ‹_› ‹_›)
theorem okQPush (hT:TbOk T):QPushOk (den Tryz.prog T) 90:=by unfold QPushOk;intros;exact denWp (hT.non 90 rfl) lo90 0 (nble (by kernel_rfl)) (by rw[e90];exact qpush_s (okHPush hT) ‹_› ‹_›)
theorem okQNew (hT:TbOk T):QNewOk (den Tryz.prog T) 89:=by unfold QNewOk;intros;exact denWp (hT.non 89 rfl) lo89 0 (nble (by kernel_rfl)) (by rw[e89];exact qnew_s _)
theorem okIPop (hT:TbOk T):IPopOk (den Tryz.prog T) 198 206:=by unfold IPopOk;intros;exact denWp (hT.non 206 rfl) lo206 0 (nble (by kernel_rfl)) (by rw[e206];exact ipop_s ‹_› ‹_›)
theorem okHPop (hT:TbOk T):HPopOk (den Tryz.prog T) 196 198 135:=by unfold HPopOk;intros;exact denWp (hT.non 135 rfl) lo135 0 (nble (by kernel_rfl)) (by rw[e135];exact hpop_s (okIPop hT) (okILen hT) (okSwap hT) (okDown hT) ‹_› ‹_› ‹_›)
theorem okQLen (hT:TbOk T):QLenOk (den Tryz.prog T) 62:=by unfold QLenOk;intros;exact denLo (hT.non 62 rfl) lo62 0 (nble (by kernel_rfl)) (by rw[e62];exact qlen_s (okILen hT) ‹_›)
theorem okQPop (hT:TbOk T):QPopOk (den Tryz.prog T) 96:=by unfold QPopOk;intros;exact denWp (hT.non 96 rfl) lo96 0 (nble (by kernel_rfl)) (by rw[e96];exact qpop_s (okQLen hT) (okHPop hT) ‹_› ‹_›)
theorem okSNew (hT:TbOk T):SNewOk (den Tryz.prog T) 88:=fun H room=>by
 have h0:=snew_s H room (cal:=callable Tryz.prog) (O:=(den Tryz.prog T)) (N:=0);by_cases h:0<=room/\room<=65536
 ·rw[if_pos h]at h0 ⊢;exact denLo (hT.non 88 rfl) lo88 0 (nble (by kernel_rfl)) (by rw[e88];exact h0)
 ·rw[if_neg h]at h0 ⊢;exact denLo (hT.non 88 rfl) lo88 0 (nble (by kernel_rfl)) (by rw[e88];exact h0)
theorem okDNew (hT:TbOk T):DNewOk (den Tryz.prog T) 91:=by unfold DNewOk;intros;exact denLo (hT.non 91 rfl) lo91 0 (nble (by kernel_rfl)) (by rw[e91];exact dnew_s _)
theorem okBNew (hT:TbOk T):BNewOk (den Tryz.prog T) 42:=by unfold BNewOk;intros;exact denWp (hT.non 42 rfl) lo42 200 (nble rfl) (by rw[Go.Shade.branchNewEq];exact bnew_s (by omega) (okSNew hT) (okQNew hT) (okQPush hT) (okDNew hT) _ _)
theorem okIb2 (hT:TbOk T):IbOk (den Tryz.prog T) 168:=by unfold IbOk;intros;exact denLo (hT.non 168 rfl) lo168 0 (nble (by kernel_rfl)) (by rw[e168];exact ib2_s _ _ _)
theorem okIb (hT:TbOk T):IbOk (den Tryz.prog T) 144:=by unfold IbOk;intros;exact denLo (hT.non 144 rfl) lo144 0 (nble (by kernel_rfl)) (by rw[e144];exact ib_s (okIb2 hT) _ _ _)
theorem okPName (hT:TbOk T):PNameOk (den Tryz.prog T) 136:=by unfold PNameOk;intros;exact denLo (hT.non 136 rfl) lo136 0 (nble (by kernel_rfl)) (by rw[e136];exact pname_s (okIb hT) _ _)
theorem okCmp2 (hT:TbOk T):CmpOk (den Tryz.prog T) 174:=by unfold CmpOk;intros;exact denLo (hT.non 174 rfl) lo174 0 (nble (by kernel_rfl)) (by rw[e174];exact cmp2_s _ _ _)
theorem okCmp (hT:TbOk T):CmpOk (den Tryz.prog T) 162:=by unfold CmpOk;intros;exact denLo (hT.non 162 rfl) lo162 0 (nble (by kernel_rfl)) (by rw[e162];exact cmp_s (okCmp2 hT) _ _ _)
theorem okFind1 (hT:TbOk T):Find1Ok (den Tryz.prog T) 161:=by unfold Find1Ok;intros;exact denWp (hT.non 161 rfl) lo161 0 (nble (by kernel_rfl)) (by rw[e161];exact find1_s (okCmp hT) _ _ _ _)
theorem okBs (hT:TbOk T):BsOk (den Tryz.prog T) 160 161:=by unfold BsOk;intros;exact denWp (hT.non 160 rfl) lo160 1000002 (nble rfl) (by rw[Go.Shade.sBsfEq];exact bs_s (okFind1 hT) lo161.2 ‹_› ‹_› ‹_› (by omega))
theorem okFind (hT:TbOk T):FindOk (den Tryz.prog T) 134:=by unfold FindOk;intros;exact denWp (hT.non 134 rfl) lo134 0 (nble (by kernel_rfl)) (by rw[e134];exact find_s (okBs hT) ‹_› ‹_›)
theorem okDGet (hT:TbOk T):DGetOk (den Tryz.prog T) 93:=by unfold DGetOk;intros;exact denWp (hT.non 93 rfl) lo93 0 (nble (by kernel_rfl)) (by rw[e93];exact dget_s (okFind hT) ‹_› ‹_›)
theorem okDLen (hT:TbOk T):DLenOk (den Tryz.prog T) 121:=by unfold DLenOk;intros;exact denLo (hT.non 121 rfl) lo121 0 (nble (by kernel_rfl)) (by rw[e121];exact dlen_s ‹_›)
theorem okIns (hT:TbOk T):InsOk (den Tryz.prog T) 137:=fun args H=>den_table hT.ins args H
theorem okDSet (hT:TbOk T):DSetOk (den Tryz.prog T) 98:=by unfold DSetOk;intros;exact denWp (hT.non 98 rfl) lo98 0 (nble (by kernel_rfl)) (by rw[e98];exact dset_s (okPName hT) (okFind hT) (okIns hT) ‹_› ‹_› ‹_› ‹_›)
theorem okSDel (hT:TbOk T):SDelOk (den Tryz.prog T) 147:=by unfold SDelOk;intros;exact denWp (hT.non 147 rfl) lo147 0 (nble (by kernel_rfl)) (by rw[e147];exact sdel_s ‹_› ‹_› ‹_›)
theorem okDDel (hT:TbOk T):DDelOk (den Tryz.prog T) 122:=by unfold DDelOk;intros;exact denWp (hT.non 122 rfl) lo122 0 (nble (by kernel_rfl)) (by rw[e122];exact ddel_s (okFind hT) (okSDel hT) ‹_› ‹_› ‹_›)
theorem okSBody (hT:TbOk T):SBodyOk (den Tryz.prog T) 97:=by unfold SBodyOk;intros;exact denWp (hT.non 97 rfl) lo97 0 (nble (by kernel_rfl)) (by rw[e97];exact sbody_s _ _)
theorem okSWrite (hT:TbOk T):SWriteOk (den Tryz.prog T) 109:=by unfold SWriteOk;intros;exact denWp (hT.non 109 rfl) lo109 65538 (nble rfl) (by rw[Go.Shade.BsWriteEq];exact swrite_s (by omega) ‹_› ‹_› ‹_› ‹_› ‹_› ‹_› ‹_›)
theorem okCut (hT:TbOk T):CutTOk (den Tryz.prog T) 176:=fun args H=>den_table hT.cut args H
theorem okSFree (hT:TbOk T):SFreeOk (den Tryz.prog T) 166:=by unfold SFreeOk;intros;exact denWp (hT.non 166 rfl) lo166 0 (nble (by kernel_rfl)) (by rw[e166];exact sfree_s (okCut hT) ‹_› ‹_› ‹_›)
theorem okAt (hT:TbOk T):AtOk (den Tryz.prog T) 94:=by unfold AtOk;intros;exact denLo (hT.non 94 rfl) lo94 0 (nble (by kernel_rfl)) (by rw[e94];exact at_s ‹_›)
theorem okKind (hT:TbOk T):KindOk (den Tryz.prog T) 44:=by unfold KindOk;intros;exact denLo (hT.non 44 rfl) lo44 0 (nble (by kernel_rfl)) (by rw[e44];exact kind_s (okAt hT) ‹_›)
theorem okMarks (hT:TbOk T):MarksOk (den Tryz.prog T) 45:=by unfold MarksOk;intros;exact denLo (hT.non 45 rfl) lo45 0 (nble (by kernel_rfl)) (by rw[e45];exact marks_s (okAt hT) ‹_›)
theorem okBDir (hT:TbOk T):BDirOk (den Tryz.prog T) 92:=by unfold BDirOk;intros;exact denLo (hT.non 92 rfl) lo92 0 (nble (by kernel_rfl)) (by rw[e92];exact bdir_s (okAt hT) ‹_›)
theorem okChg (hT:TbOk T):ChgOk (den Tryz.prog T) 118:=by unfold ChgOk;intros;exact denLo (hT.non 118 rfl) lo118 0 (nble (by kernel_rfl)) (by rw[e118];exact chg_s (okBDir hT) ‹_›)
theorem okSett (hT:TbOk T):SettOk (den Tryz.prog T) 119:=by unfold SettOk;intros;exact denLo (hT.non 119 rfl) lo119 0 (nble (by kernel_rfl)) (by rw[e119];exact sett_s (okPName hT) _ _)
theorem okBGet (hT:TbOk T):BGetOk (den Tryz.prog T) 43:=by unfold BGetOk;intros;exact denWp (hT.non 43 rfl) lo43 0 (nble (by kernel_rfl)) (by rw[e43];exact bget_s (okBDir hT) (okDGet hT) ‹_› ‹_› ‹_›)
theorem okVac (hT:TbOk T):VacOk (den Tryz.prog T) 95:=by unfold VacOk;intros;exact denWp (hT.non 95 rfl) lo95 0 (nble (by kernel_rfl)) (by rw[e95];exact vac_s (okChg hT) (okSett hT) (okDGet hT) ‹_› ‹_› ‹_›)
theorem okNamed (hT:TbOk T):NamedOk (den Tryz.prog T) 99:=by unfold NamedOk;intros;exact denWp (hT.non 99 rfl) lo99 0 (nble (by kernel_rfl)) (by rw[e99];exact named_s (okChg hT) (okDGet hT) ‹_› ‹_› ‹_›)
theorem okBMark (hT:TbOk T):BMarkOk (den Tryz.prog T) 48:=by unfold BMarkOk;intros;exact denWp (hT.non 48 rfl) lo48 0 (nble (by kernel_rfl)) (by rw[e48];exact bmark_s (okAt hT) ‹_›)
theorem okBMake (hT:TbOk T):BMakeOk (den Tryz.prog T) 46:=by unfold BMakeOk;intros;exact denWp (hT.non 46 rfl) lo46 0 (nble (by kernel_rfl)) (by rw[e46];exact bmake_s (okVac hT) (okQPop hT) (okSBody hT) (okDNew hT) (okDSet hT) ‹_› ‹_› ‹_› ‹_›)
theorem okBLink (hT:TbOk T):BLinkOk (den Tryz.prog T) 64:=by unfold BLinkOk;intros;exact denWp (hT.non 64 rfl) lo64 0 (nble (by kernel_rfl)) (by rw[e64];exact blink_s (okVac hT) (okAt hT) (okDSet hT) ‹_› ‹_› ‹_›)
theorem okGone (hT:TbOk T):GoneOk (den Tryz.prog T) 138:=by unfold GoneOk;intros;exact denWp (hT.non 138 rfl) lo138 0 (nble (by kernel_rfl)) (by rw[e138];exact gone_s (okSFree hT) (okQPush hT) ‹_› ‹_› ‹_›)
theorem okAway (hT:TbOk T):AwayOk (den Tryz.prog T) 100:=fun own H b st m n d x l s h1 h2 h3 h4 h5 h6 h7 h8 h9 h10 h11=>denWp (hT.non 100 rfl) lo100 0 (nble (by kernel_rfl)) (by rw[e100];exact away_s (okDDel hT) (okGone hT) h1 h2 h3 h4 h5 h6 h7 h8 h9 h10 h11)
theorem okBUnl (hT:TbOk T):BUnlOk (den Tryz.prog T) 47:=by unfold BUnlOk;intros;exact denWp (hT.non 47 rfl) lo47 0 (nble (by kernel_rfl)) (by rw[e47];exact bunl_s (okNamed hT) (okAway hT) ‹_› ‹_› ‹_› ‹_› ‹_›)
theorem okFile (hT:TbOk T):FileOk (den Tryz.prog T) 108:=by unfold FileOk;intros;exact denLo (hT.non 108 rfl) lo108 0 (nble (by kernel_rfl)) (by rw[e108];exact file_s (okAt hT) ‹_›)
theorem okBWrite (hT:TbOk T):BWriteOk (den Tryz.prog T) 53:=by unfold BWriteOk;intros;exact denWp (hT.non 53 rfl) lo53 0 (nble (by kernel_rfl)) (by rw[e53];exact bwrite_s (okFile hT) (okSWrite hT) ‹_› ‹_› ‹_› ‹_› ‹_› ‹_›)
theorem okBelow (hT:TbOk T):BelowOk (den Tryz.prog T) 120:=fun own H b st rk i x top h1 h2 h3 h4=>denLo (hT.non 120 rfl) lo120 (rk i+1) (nble rfl) (by rw[Go.Shade.BbBelowEq];exact below_s h1 h2 h3 h4)
theorem okBRen (hT:TbOk T):BRenOk (den Tryz.prog T) 66:=by unfold BRenOk;intros;exact denWp (hT.non 66 rfl) lo66 0 (nble (by kernel_rfl)) (by rw[e66];exact bren_s (okNamed hT) (okChg hT) (okSett hT) (okBelow hT) (okDGet hT) (okDLen hT) (okAway hT) (okDDel hT) (okDSet hT) ‹_› ‹_› ‹_› ‹_› ‹_› ‹_›)
theorem okR3New (hT:TbOk T):SNewOk (den Tryz.prog T) 101:=fun H room=>by
 have h0:=r03new_s H room (cal:=callable Tryz.prog) (O:=(den Tryz.prog T)) (N:=0);by_cases h:0<=room/\room<=65536
 ·rw[if_pos h]at h0 ⊢;exact denLo (hT.non 101 rfl) lo101 0 (nble (by kernel_rfl)) (by rw[e101];exact h0)
 ·rw[if_neg h]at h0 ⊢;exact denLo (hT.non 101 rfl) lo101 0 (nble (by kernel_rfl)) (by rw[e101];exact h0)
theorem okRNew (hT:TbOk T):RNewOk (den Tryz.prog T) 49:=by unfold RNewOk;intros;exact denWp (hT.non 49 rfl) lo49 0 (nble (by kernel_rfl)) (by rw[e49];exact rnew_s (okR3New hT) _)
theorem okRIs (hT:TbOk T):RIsOk (den Tryz.prog T) 107:=by unfold RIsOk;intros;obtain⟨t,e,h⟩:=ris_s (cal:=callable Tryz.prog) (O:=(den Tryz.prog T)) (N:=1) ‹_›;exact⟨t,denLo (hT.non 107 rfl) lo107 1 (nble (by kernel_rfl)) (by rw[e107];exact e),h⟩
theorem okRKind (hT:TbOk T):RKindOk (den Tryz.prog T) 69:=by unfold RKindOk;intros;obtain⟨t,e,h⟩:=rkind_s (cal:=callable Tryz.prog) (O:=(den Tryz.prog T)) (N:=1) (okRIs hT) ‹_›;exact⟨t,denLo (hT.non 69 rfl) lo69 1 (nble (by kernel_rfl)) (by rw[e69];exact e),h⟩
theorem okRDir (hT:TbOk T):RDirOk (den Tryz.prog T) 104:=by unfold RDirOk;intros;obtain⟨t,e,h⟩:=rdir_s (cal:=callable Tryz.prog) (O:=(den Tryz.prog T)) (N:=1) (okRIs hT) ‹_›;exact⟨t,denLo (hT.non 104 rfl) lo104 1 (nble (by kernel_rfl)) (by rw[e104];exact e),h⟩
theorem okRHas (hT:TbOk T):RHasOk (den Tryz.prog T) 167:=by unfold RHasOk;intros;obtain⟨t,e⟩:=rhas_s (cal:=callable Tryz.prog) (O:=(den Tryz.prog T)) (N:=62) (by omega) ‹_›;exact⟨t,denLo (hT.non 167 rfl) lo167 62 (nble rfl) (by rw[Go.Shade.vr01HasEq];exact e)⟩
theorem okRName (hT:TbOk T):RErrOk (den Tryz.prog T) 139:=by unfold RErrOk;intros;obtain⟨t,e,h⟩:=rname_s (cal:=callable Tryz.prog) (O:=(den Tryz.prog T)) (N:=1) (okRHas hT) _ _;exact⟨t,denLo (hT.non 139 rfl) lo139 1 (nble (by kernel_rfl)) (by rw[e139];exact e),h⟩
theorem okRSet (hT:TbOk T):RErrOk (den Tryz.prog T) 123:=by unfold RErrOk;intros;obtain⟨t,e,h⟩:=rset_s (cal:=callable Tryz.prog) (O:=(den Tryz.prog T)) (N:=1) (okRName hT) _ _;exact⟨t,denLo (hT.non 123 rfl) lo123 1 (nble (by kernel_rfl)) (by rw[e123];exact e),h⟩
theorem okRGet4 (hT:TbOk T):RGet4Ok (den Tryz.prog T) 125:=by unfold RGet4Ok;intros;obtain⟨t,u,e,h⟩:=rget4_s (cal:=callable Tryz.prog) (O:=(den Tryz.prog T)) (N:=1000002) (by omega) ‹_› ‹_› ‹_›;exact⟨t,u,denLo (hT.non 125 rfl) lo125 1000002 (nble rfl) (by rw[Go.Shade.R4GetEq];exact e),h⟩
theorem okRLess (hT:TbOk T):RLess1Ok (den Tryz.prog T) 81:=fun H a b ha hb=>by obtain⟨t,e⟩:=rless1_s (cal:=callable Tryz.prog) (O:=(den Tryz.prog T)) (H:=H) ha hb;exact⟨t,denLo (hT.non 81 rfl) lo81 (a.length+1) (nble rfl) (by rw[vr01LessEq];exact e)⟩
theorem okRSet4 (hT:TbOk T):RSet4Ok (den Tryz.prog T) 103:=by unfold RSet4Ok;intros;exact denWp (hT.non 103 rfl) lo103 1000002 (nble rfl) (by rw[Go.Shade.R4SetEq];exact rset4_s (by omega) (okRName hT) (okRLess hT) ‹_› ‹_› ‹_› ‹_› ‹_›)
theorem okRDel4 (hT:TbOk T):RDel4Ok (den Tryz.prog T) 105:=by unfold RDel4Ok;intros;exact denWp (hT.non 105 rfl) lo105 1000002 (nble rfl) (by rw[Go.Shade.R4DelEq];exact rdel4_s (by omega) (okRGet4 hT) ‹_› ‹_› ‹_›)
theorem okRGet (hT:TbOk T):RGetOk (den Tryz.prog T) 74:=by unfold RGetOk;intros;obtain⟨t,u,e,h⟩:=rget_s (cal:=callable Tryz.prog) (O:=(den Tryz.prog T)) (N:=1) (okRDir hT) (okRGet4 hT) ‹_› ‹_›;exact⟨t,u,denLo (hT.non 74 rfl) lo74 1 (nble (by kernel_rfl)) (by rw[e74];exact e),h⟩
theorem okRVac (hT:TbOk T):RVacOk (den Tryz.prog T) 102:=by unfold RVacOk;intros;obtain⟨t,e,h⟩:=rvac_s (cal:=callable Tryz.prog) (O:=(den Tryz.prog T)) (N:=1) (okRDir hT) (okRSet hT) (okRGet4 hT) ‹_› ‹_›;exact⟨t,denLo (hT.non 102 rfl) lo102 1 (nble (by kernel_rfl)) (by rw[e102];exact e),h⟩
theorem okRMark (hT:TbOk T):RMarkOk (den Tryz.prog T) 52:=by unfold RMarkOk;intros;exact denWp (hT.non 52 rfl) lo52 0 (nble (by kernel_rfl)) (by rw[e52];exact rmark_s (okRIs hT) ‹_›)
theorem okRMake (hT:TbOk T):RMakeOk (den Tryz.prog T) 50:=by unfold RMakeOk;intros;exact denWp (hT.non 50 rfl) lo50 203 (nble rfl) (by rw[Go.Shade.R5MakeEq];exact rmake_s (by omega) (okRVac hT) (okRSet4 hT) ‹_› ‹_›)
theorem okRLink (hT:TbOk T):RLinkOk (den Tryz.prog T) 65:=by unfold RLinkOk;intros;exact denWp (hT.non 65 rfl) lo65 0 (nble (by kernel_rfl)) (by rw[e65];exact rlink_s (okRVac hT) (okRIs hT) (okRSet4 hT) ‹_› ‹_›)
theorem okRCut (hT:TbOk T):RCutOk (den Tryz.prog T) 140:=by unfold RCutOk;intros;exact denWp (hT.non 140 rfl) lo140 4098 (nble rfl) (by rw[Go.Shade.R3sCutEq];exact rcut_s (by omega) ‹_› ‹_›)
theorem okRGone (hT:TbOk T):RGoneOk (den Tryz.prog T) 106:=by unfold RGoneOk;intros;exact denWp (hT.non 106 rfl) lo106 0 (nble (by kernel_rfl)) (by rw[e106];exact rgone_s (okRCut hT) ‹_› ‹_›)
theorem okRUnl (hT:TbOk T):RUnlOk (den Tryz.prog T) 51:=by unfold RUnlOk;intros;exact denWp (hT.non 51 rfl) lo51 0 (nble (by kernel_rfl)) (by rw[e51];exact runl_s (okRDir hT) (okRGet hT) (okRDel4 hT) (okRGone hT) ‹_› ‹_›)
theorem okRBel (hT:TbOk T):RBelOk (den Tryz.prog T) 124:=by unfold RBelOk;intros;obtain⟨t,e⟩:=rbel_s (cal:=callable Tryz.prog) (O:=(den Tryz.prog T)) (N:=302) (by omega) ‹_› ‹_›;exact⟨t,denLo (hT.non 124 rfl) lo124 302 (nble rfl) (by rw[Go.Shade.R5BelowEq];exact e)⟩
theorem okRRen (hT:TbOk T):RRenOk (den Tryz.prog T) 67:=by unfold RRenOk;intros;exact denWp (hT.non 67 rfl) lo67 0 (nble (by kernel_rfl)) (by rw[e67];exact rren_s (okRDir hT) (okRGet hT) (okRSet hT) (okRBel hT) (okRDel4 hT) (okRGone hT) (okRSet4 hT) ‹_› ‹_›)
theorem okRFile (hT:TbOk T):RFileOk (den Tryz.prog T) 110:=by unfold RFileOk;intros;obtain⟨t,e,h⟩:=rfile_s (cal:=callable Tryz.prog) (O:=(den Tryz.prog T)) (N:=1) (okRKind hT) ‹_›;exact⟨t,denLo (hT.non 110 rfl) lo110 1 (nble (by kernel_rfl)) (by rw[e110];exact e),h⟩
theorem okRThere (hT:TbOk T):RThereOk (den Tryz.prog T) 141:=by unfold RThereOk;intros;obtain⟨t,e⟩:=there_s (cal:=callable Tryz.prog) (O:=(den Tryz.prog T)) (N:=1) ‹_› ‹_›;exact⟨t,denLo (hT.non 141 rfl) lo141 1 (nble (by kernel_rfl)) (by rw[e141];exact e)⟩
theorem okRLay (hT:TbOk T):RLayOk (den Tryz.prog T) 142:=by unfold RLayOk;intros;exact denWp (hT.non 142 rfl) lo142 4098 (nble rfl) (by rw[Go.Shade.R3bLayEq];exact lay_s (by omega) ‹_› ‹_› ‹_›)
theorem okRSWrite (hT:TbOk T):RSWriteOk (den Tryz.prog T) 111:=by unfold RSWriteOk;intros;exact denWp (hT.non 111 rfl) lo111 65539 (nble rfl) (by rw[Go.Shade.R3sWriteEq];exact rswrite_s (by omega) (okRThere hT) (okRLay hT) ‹_› ‹_› ‹_› ‹_› ‹_› ‹_›)
theorem okRWrite (hT:TbOk T):RWriteOk (den Tryz.prog T) 54:=by unfold RWriteOk;intros;exact denWp (hT.non 54 rfl) lo54 0 (nble (by kernel_rfl)) (by rw[e54];exact rwrite_s (okRFile hT) (okRSWrite hT) ‹_› ‹_› ‹_› ‹_› ‹_›)
theorem okBld (hT:TbOk T):BldOk (den Tryz.prog T) 42 49 46 50 64 65 47 51 48 52 53 54 66 67:=⟨okBNew hT,okRNew hT,okBMake hT,okRMake hT,okBLink hT,okRLink hT,okBUnl hT,okRUnl hT,okBMark hT,okRMark hT,okBWrite hT,okRWrite hT,okBRen hT,okRRen hT⟩
theorem okBuild (hT:TbOk T):BuildOk (den Tryz.prog T) 24:=by unfold BuildOk;intros;exact denWp (hT.non 24 rfl) lo24 83 (nble rfl) (by rw[Go.Shade.veneerlaw10BuildEq];exact build_s (by omega) (okBld hT) ‹_›)
theorem okMNew (hT:TbOk T):MNewOk (den Tryz.prog T) 25:=by unfold MNewOk;intros;exact denLo (hT.non 25 rfl) lo25 0 (nble (by kernel_rfl)) (by rw[e25];exact mnew_s _ _ _ _ _)
theorem okVOpq (hT:TbOk T):VOpqOk (den Tryz.prog T) 68:=by unfold VOpqOk;intros;exact denLo (hT.non 68 rfl) lo68 0 (nble (by kernel_rfl)) (by rw[e68];exact vopq_s (okMarks hT) ‹_›)
theorem okVSide (hT:TbOk T):VSideOk (den Tryz.prog T) 75:=by unfold VSideOk;intros;exact denWp (hT.non 75 rfl) lo75 0 (nble (by kernel_rfl)) (by rw[e75];exact vside_s ‹_›)
theorem okVKind (hT:TbOk T):VKindOk (den Tryz.prog T) 30:=by unfold VKindOk;intros;exact denWp (hT.non 30 rfl) lo30 0 (nble (by kernel_rfl)) (by rw[e30];exact vkind_s (okVSide hT) (okKind hT) ‹_›)
theorem okVDir (hT:TbOk T):VDirOk (den Tryz.prog T) 71:=by unfold VDirOk;intros;exact denWp (hT.non 71 rfl) lo71 0 (nble (by kernel_rfl)) (by rw[e71];exact vdir_s (okVKind hT) ‹_›)
theorem okVBel (hT:TbOk T):VBelOk (den Tryz.prog T) 72:=by unfold VBelOk;intros;exact denWp (hT.non 72 rfl) lo72 0 (nble (by kernel_rfl)) (by rw[e72];exact vbel_s (okVOpq hT) (okBGet hT) ‹_›)
theorem okVGet (hT:TbOk T):VGetOk (den Tryz.prog T) 28:=by unfold VGetOk;intros;exact denWp (hT.non 28 rfl) lo28 0 (nble (by kernel_rfl)) (by rw[e28];exact vget_s (okVDir hT) (okVBel hT) (okBGet hT) (okKind hT) (okVOpq hT) ‹_›)
end
end Go.Proofs.YtmkjmfegaalcoaaGreat
namespace Go.Shade
def newRows (B:Nat)(room:Int):Heap:=[.row [.int .i64 room,.int .i64 0] false,.row [.slice (B+2) 0 199 199 false 3,.int .i64 199] false,.row (itcs (upQ 199)) false,.row (brC (.ptr B 0) (rootC (B+5)) (.ptr (B+1) 0)) false,.row [.nilSlice] false,.row (nodC (B+4)) false]
def bnT (args:List IV)(H:Heap):Option (IV×Heap):=match args with
 | [.int .i64 room]=>if 0<=room/\room<=65536 then some (.ptr (H.length+3) 0,H++newRows H.length room)else none
 | _=>none
theorem rens_itcs (f:Nat->Nat):∀l:List It,rens f (itcs l)=itcs l
 | []=>rfl
 | x::l=>by simp only[itcs,rens,ren,rens_itcs f l]
theorem inBs_itcs (n:Nat):∀l:List It,inBs n (itcs l)=true
 | []=>rfl
 | x::l=>by simp only[itcs,inBs,inB,inBs_itcs n l,Bool.and_self]
theorem rens_append (f:Nat->Nat):∀a b:List IV,rens f (a++b)=rens f a++rens f b
 | [],b=>rfl
 | x::a,b=>by simp only[List.cons_append,rens,rens_append f a b]
theorem inBs_append (n:Nat):∀a b:List IV,inBs n (a++b)=(inBs n a&&inBs n b)
 | [],b=>by simp[inBs]
 | x::a,b=>by simp only[List.cons_append,inBs,inBs_append n a b,Bool.and_assoc]
theorem rens_nils (f:Nat->Nat):∀k,rens f (List.replicate k .nilPtr)=List.replicate k .nilPtr
 | 0=>rfl
 | k+1=>by simp only[List.replicate_succ,rens,ren,rens_nils f k]
theorem inBs_nils (n:Nat):∀k,inBs n (List.replicate k .nilPtr)=true
 | 0=>rfl
 | k+1=>by simp only[List.replicate_succ,inBs,inB,inBs_nils n k,Bool.and_self]
def bnG (h s q r b d x i:Nat):Nat:=if i<h then i else if i=h then s else if i=h+1 then q else if i=h+2 then r else if i=h+3 then b else if i=h+4 then d else x
theorem bnG_cases (h s q r b d x i:Nat)(hi:i<h+6):(i<h/\bnG h s q r b d x i=i)∨(i=h/\bnG h s q r b d x i=s)∨(i=h+1/\bnG h s q r b d x i=q)∨(i=h+2/\bnG h s q r b d x i=r)∨(i=h+3/\bnG h s q r b d x i=b)∨(i=h+4/\bnG h s q r b d x i=d)∨(i=h+5/\bnG h s q r b d x i=x):=by
 unfold bnG;by_cases e0:i<h
 ·rw[if_pos e0];exact .inl ⟨e0,rfl⟩
 ·rw[if_neg e0];by_cases e1:i=h
  ·rw[if_pos e1];exact .inr (.inl ⟨e1,rfl⟩)
  ·rw[if_neg e1];by_cases e2:i=h+1
   ·rw[if_pos e2];exact .inr (.inr (.inl ⟨e2,rfl⟩))
   ·rw[if_neg e2];by_cases e3:i=h+2
    ·rw[if_pos e3];exact .inr (.inr (.inr (.inl ⟨e3,rfl⟩)))
    ·rw[if_neg e3];by_cases e4:i=h+3
     ·rw[if_pos e4];exact .inr (.inr (.inr (.inr (.inl ⟨e4,rfl⟩))))
     ·rw[if_neg e4];by_cases e5:i=h+4
      ·rw[if_pos e5];exact .inr (.inr (.inr (.inr (.inr (.inl ⟨e5,rfl⟩)))))
      ·rw[if_neg e5];exact .inr (.inr (.inr (.inr (.inr (.inr ⟨by omega,rfl⟩)))))
theorem bnG_inj {h s q r b d x:Nat}(o:h<=s/\s<b/\h<=q/\s<q/\q<b/\b<d/\d<x/\b<r/\r<d){i j:Nat}(hi:i<h+6)(hj:j<h+6)(hne:i≠j):bnG h s q r b d x i≠bnG h s q r b d x j:=by
 have a:=bnG_cases h s q r b d x i hi;have c:=bnG_cases h s q r b d x j hj;generalize bnG h s q r b d x i=u at *;generalize bnG h s q r b d x j=v at *;omega
theorem sound_bnT {P:Program}{O:Oracle}(hφ:Sound P O){f:FuncId}(hb:BNewOk O f)(args:List IV)(H:Heap)(r:IV)(H':Heap)(e:bnT args H=some (r,H')):SimCall P f args H r H':=by
 unfold bnT at e;split at e
 ·rename_i room;split at e
  ·rename_i h0
   cases e
   obtain⟨⟨r,H1⟩,h1,h2,h3⟩:=hb H room;rw[if_pos h0]at h3;simp only at h3 h2;obtain⟨b,rfl,⟨s,q,d,x,Q,a1,a2,a3,a4,a5,a6,b1,b2,b3,b4,b5,b6,b7,b8⟩⟩:=h3;have hs:=hφ _ _ _ _ _ h1;obtain⟨sv,k,t1,t2⟩:=a6;obtain⟨_,c2,sv',c3,c4⟩:=a5;rw[c3]at t1;cases t1
   rcases c4 with⟨rfl,e⟩ | ⟨r,rest,ex,rfl,c5,c6⟩
   ·have:=congrArg List.length e;rw[upQ_length]at this;cases this
   ·rcases t2 with e | ⟨r',n',e⟩
    ·cases e
    ·injection e with _ _ e1 e2 e3 _
     rw[upQ_length]at e1 e2;have hr:rest=[]:=List.length_eq_zero_iff.1 (by omega);subst hr e3;rw[List.append_nil]at c6;rw[upQ_length]at c3;have hrq:b<r/\r<d:=by rcases b8 r c5.1 with h | h;exact absurd h c5.2;exact h
     have gc:=fun i hi=>bnG_cases H.length s q r b d x i hi;have gj:=fun i j hi hj hne=>bnG_inj (h:=H.length) (s:=s) (q:=q) (r:=r) (b:=b) (d:=d) (x:=x) ⟨b1,b2,b3,b4,b5,b6,b7,hrq⟩ (i:=i) (j:=j) hi hj hne;have g0:∀i,i<H.length->bnG H.length s q r b d x i=i:=fun i hi=>if_pos hi;generalize bnG H.length s q r b d x=g at *;have g1:g H.length=s:=by have:=gc H.length (by omega);omega
     have g2:g (H.length+1)=q:=by have:=gc (H.length+1) (by omega);omega
     have g3:g (H.length+2)=r:=by have:=gc (H.length+2) (by omega);omega
     have g4:g (H.length+3)=b:=by have:=gc (H.length+3) (by omega);omega
     have g5:g (H.length+4)=d:=by have:=gc (H.length+4) (by omega);omega
     have g6:g (H.length+5)=x:=by have:=gc (H.length+5) (by omega);omega
     have hlen:(H++newRows H.length room).length=H.length+6:=by rw[List.length_append];rfl
     refine hs.clean g g0 (by omega) (fun i o hi=> ?_) (fun i j hi hj hne=> ?_) (by rw[show ren g (.ptr (H.length+3) 0)=.ptr (g (H.length+3)) 0 from rfl,g4]) (by rw[hlen];simp[inB])
     ·rw[hlen];by_cases hlt:i<H.length
      ·rw[List.getElem?_append_left hlt]at hi;exact .inl ⟨hlt,hi,h2.get (fun h=>h) hi⟩
      ·rw[List.getElem?_append_right (by omega)]at hi;right;obtain⟨j,rfl⟩:∃j,i=H.length+j:=⟨i - H.length,by omega⟩;rw[Nat.add_sub_cancel_left]at hi;have hj:j<6:=(ges hi).1
       match j,hj with
       | 0,_=>cases hi;exact⟨rfl,by rw[Nat.add_zero,g1];exact a2⟩
       | 1,_=>cases hi;exact⟨by simp[inBO,inBs,inB],by rw[g2,c3];simp only[renO,rens,ren,g3];congr⟩
       | 2,_=>cases hi;exact⟨inBs_itcs _ _,by rw[g3,c6];simp only[renO,rens_itcs]⟩
       | 3,_=>cases hi;exact⟨by simp only[inBO,brC,rootC,inBs,inBs_append,inB,inBs_nils];simp,by rw[g4,a1];simp only[renO,brC,rootC,rens,rens_append,ren,rens_nils,g1,g2,g6]⟩
       | 4,_=>cases hi;exact⟨rfl,by rw[g5];exact a4⟩
       | 5,_=>cases hi;exact⟨by simp[inBO,nodC,inBs,inB],by rw[g6,a3];simp only[renO,nodC,rens,ren,g5]⟩
     ·rw[hlen]at hi hj;exact gj i j hi hj hne
  ·cases e
 ·cases e
end Go.Shade
namespace Go.Shade
def unit3 :List IV->Option (List It)
 | []=>some []
 | .int .i64 a:: .int .i64 b:: .int .i64 c::l=>match unit3 l with
  | some k=>some (⟨a,b,c⟩::k)
  | none=>none
 | _=>none
def lastL :List It->Option It
 | []=>none
 | [x]=>some x
 | _::l=>lastL l
def popT (args:List IV)(H:Heap):Option (IV×Heap):=match args with
 | [.ptr q 0]=>match H[q]? with
  | some (.row [.slice r 0 n lb ex 3,.int .i64 k] false)=>match H[r]? with
   | some (.row cs false)=>match unit3 cs with
    | some items=>if Nat.beq lb items.length&&(Nat.blt 0 n&&(Nat.ble n lb&&(!Nat.beq r q&&Nat.ble n 1000000)))then
      match lastL (popL (items.take n))with
      | some x=>some (.tuple [.int .i64 x.key,.int .i64 x.n,.bool true],(H.set r (.row (itcs (popL (items.take n)++items.drop n)) false)).set q (.row [.slice r 0 (n - 1) lb ex 3,.int .i64 k] false))
      | none=>none
     else none
    | none=>none
   | _=>none
  | _=>none
 | _=>none
theorem unit3_eq :∀{cs:List IV} {l:List It},unit3 cs=some l->cs=itcs l
 | [],l,h=>by cases h;rfl
 | .int .i64 a:: .int .i64 b:: .int .i64 c::cs,l,h=>by
  simp only[unit3]at h;split at h
  ·rename_i k hk
   cases h
   rw[unit3_eq hk];rfl
  ·cases h
theorem lastL_eq :∀{l:List It} {x:It},lastL l=some x->l=l.dropLast++[x]
 | [],x,h=>by cases h
 | [y],x,h=>by cases h;rfl
 | y::z::l,x,h=>by
  have:=lastL_eq (l:=z::l) h;rw[List.dropLast_cons_cons,List.cons_append,←this]
theorem sound_popT {P:Program}{O:Oracle}(hφ:Sound P O){f:FuncId}(hp:QPopOk O f)(args:List IV)(H:Heap)(r:IV)(H':Heap)(e:popT args H=some (r,H')):SimCall P f args H r H':=by
 unfold popT at e;split at e
 ·rename_i q;split at e
  ·rename_i r0 n lb ex k hq;split at e
   ·rename_i cs hr;split at e
    ·rename_i items hi;split at e
     ·rename_i hc;simp only[Bool.and_eq_true,Bool.not_eq_true']at hc;obtain⟨c1,c2,c3,c4,c5⟩:=hc;have c1:=Nat.eq_of_beq_eq_true c1;have c2:1<=n:=by simpa[Nat.blt]using c2
      have c3:=nble c3;have c5:=nble c5;have c4:r0≠q:=fun h=>by rw[h,Nat.beq_refl]at c4;cases c4
      split at e
      ·rename_i x hx
       cases e
       have hcs:=unit3_eq hi;subst hcs c1;have hl:(items.take n).length=n:=by rw[List.length_take];omega
       have hX:QX H q r0 ex (items.drop n) (items.take n) k:=⟨by rw[hl,List.length_drop,show n+(items.length - n)=items.length by omega];exact hq,by rw[List.take_append_drop];exact hr,c4⟩;have hQ:QOk (fun i=>i=q∨i=r0) H q (items.take n) k:=by
        refine⟨.inl rfl,fun i hi=> ?_,_,hX.hd,.inr ⟨r0,items.drop n,ex,rfl,⟨.inr rfl,c4⟩,hX.row⟩⟩;rcases hi with rfl | rfl
        ·exact(ges hq).1
        ·exact(ges hr).1
       obtain⟨⟨v,H1⟩,h1,h2,h3⟩:=hp _ H q _ k hQ (by omega);rcases h3 with⟨h3,_⟩ | ⟨y,h3,h4,h5,h6⟩
       ·rw[h3]at hl;simp at hl;omega
       ·simp only at h2 h4 h5 h6;have hxy:x=y:=by
         have a:=lastL_eq hx;rw[h3]at a;have:=congrArg List.getLast? a;rw[h3]at this
         simpa using this.symm
        subst hxy h4;have h6:=h6 _ _ _ hX;have hlq:=(ges hq).1;have hlr:=(ges hr).1;have hdl:(popL (items.take n)).dropLast.length=n - 1:=by rw[List.length_dropLast,popL_length,hl]
        have hrow:popL (items.take n)++items.drop n=(popL (items.take n)).dropLast++x::items.drop n:=by
         conv=>lhs;rw[h3]
         simp
        refine(hφ _ _ _ _ _ h1).clean (fun i=>i) (fun i _=>rfl) (by simp) (fun i o hi=> ?_) (fun i j _ _ h=>h) (ren_idf _ rfl).symm (by simp[inB,inBs]);by_cases e1:i=q
        ·subst e1;have hlq':i<(H.set r0 (.row (itcs (popL (items.take n)++items.drop n)) false)).length:=by simpa using hlq
         rw[List.getElem?_set_self hlq']at hi
         cases hi
         refine .inr ⟨by simp[inBO,inBs,inB];exact hlr,?_⟩;rw[h6.hd,hdl];have:n - 1+(x::items.drop n).length=items.length:=by simp;omega
         rw[this];simp only[renO,rens,ren]
        ·rw[List.getElem?_set_ne (fun h=>e1 h.symm)]at hi;by_cases e2:i=r0
         ·subst e2;rw[List.getElem?_set_self hlr]at hi
          cases hi
          refine .inr ⟨inBs_itcs _ _,?_⟩;rw[h6.row,hrow];simp only[renO,rens_itcs]
         ·rw[List.getElem?_set_ne (fun h=>e2 h.symm)]at hi;have:=(ges hi).1;exact .inl ⟨this,hi,h2.get (fun h=>h.elim e1 e2) hi⟩
      ·cases e
     ·cases e
    ·cases e
   ·cases e
  ·cases e
 ·cases e
end Go.Shade
namespace Go.Shade
abbrev i6 (n:Int):IV:=.int .i64 n
def aw10A :List IV:=[.slice 0 0 9 9 true 7]
def aw10H :Heap:=[.row ([.bool false,i6 0,i6 1,i6 0,i6 2,.str [97],.str [],.bool false,i6 0,i6 2,i6 0,i6 1,.str [120],.str [],.bool false,i6 0,i6 1,i6 0,i6 4,.str [98],.str [],.bool true,i6 0,i6 1,i6 0,i6 2,.str [97],.str [],.bool true,i6 0,i6 2,i6 0,i6 1,.str [121],.str [],.bool true,i6 0,i6 1,i6 0,i6 1,.str [98],.str [],.bool true,i6 0,i6 1,i6 0,i6 1,.str [99],.str [],.bool true,i6 4,i6 5,i6 0,i6 0,.str [],.str [104,105],.bool true,i6 0,i6 1,i6 0,i6 3,.str [108],.str [116]]) false]
def aw10R :IV:=.tuple [.ptr 1 0,.bool true]
def aw10K :Heap:=[
 .row ([.bool false,i6 0,i6 1,i6 0,i6 2,.str [97],.str [],.bool false,i6 0,i6 2,i6 0,i6 1,.str [120],.str [],.bool false,i6 0,i6 1,i6 0,i6 4,.str [98],.str [],.bool true,i6 0,i6 1,i6 0,i6 2,.str [97],.str [],.bool true,i6 0,i6 2,i6 0,i6 1,.str [121],.str [],.bool true,i6 0,i6 1,i6 0,i6 1,.str [98],.str [],.bool true,i6 0,i6 1,i6 0,i6 1,.str [99],.str [],.bool true,i6 4,i6 5,i6 0,i6 0,.str [],.str [104,105],.bool true,i6 0,i6 1,i6 0,i6 3,.str [108],.str [116]]) false,
 .row ([.ptr 2 0,.ptr 3 0,.ptr 4 0,.ptr 5 0]) false,
 .row ([.ptr 6 0,.nilPtr,.ptr 7 0,.ptr 8 0,.ptr 9 0,.ptr 10 0]++zrep 196 [.nilPtr]++[.ptr 11 0]) false,
 .row ([.ptr 12 0,.nilPtr,.ptr 13 0,.ptr 14 0,.ptr 15 0,.ptr 16 0,.ptr 17 0,.ptr 18 0]++zrep 194 [.nilPtr]++[.ptr 19 0]) false,
 .row ([.ptr 20 0,i6 0,i6 0,i6 0,i6 0,i6 0,.nilSlice,.nilSlice,.nilSlice,.str [],i6 2,i6 1,i6 0,i6 0,i6 1,.nilSlice,.nilSlice,.slice 21 0 2 2 false 2,.str [],i6 2,i6 1,i6 0,i6 0,i6 1,.nilSlice,.nilSlice,.slice 22 0 1 1 false 2,.str [],i6 1,i6 1,i6 0,i6 0,i6 0,.nilSlice,.nilSlice,.nilSlice,.str [],i6 4,i6 1]++zrep 196 [i6 0,i6 0,i6 0,.nilSlice,.nilSlice,.nilSlice,.str [],i6 0,i6 0]++[i6 0,i6 0,i6 0,.nilSlice,.nilSlice,.nilSlice,.str []]) false,
 .row ([.ptr 23 0,i6 0,i6 0,i6 0,i6 0,i6 0,.nilSlice,.nilSlice,.nilSlice,.str [],i6 2,i6 1,i6 0,i6 0,i6 1,.nilSlice,.nilSlice,.slice 24 0 4 4 false 2,.str [],i6 2,i6 1,i6 0,i6 0,i6 1,.nilSlice,.nilSlice,.slice 25 0 1 1 false 2,.str [],i6 1,i6 1,i6 0,i6 0,i6 0,.nilSlice,.nilSlice,.nilSlice,.str [],i6 1,i6 1,i6 0,i6 0,i6 0,.nilSlice,.nilSlice,.nilSlice,.str [],i6 1,i6 1,i6 0,i6 0,i6 0,.slice 26 0 2 2 false 1,.slice 27 0 1 1 false 1,.nilSlice,.str [],i6 3,i6 1,i6 0,i6 0,i6 0,.nilSlice,.nilSlice,.nilSlice,.str [116]]++zrep 194 [i6 0,i6 0,i6 0,i6 0,i6 0,.nilSlice,.nilSlice,.nilSlice,.str []]) false,
 .row ([i6 500,i6 0]) false,
 .row ([i6 2,i6 1,i6 0,i6 0,i6 1,.nilPtr,.ptr 28 0,.str []]) false,
 .row ([i6 2,i6 1,i6 0,i6 0,i6 1,.nilPtr,.ptr 29 0,.str []]) false,
 .row ([i6 1,i6 1,i6 0,i6 0,i6 0,.ptr 30 0,.nilPtr,.str []]) false,
 .row ([i6 4,i6 1,i6 0,i6 0,i6 0,.nilPtr,.nilPtr,.str []]) false,
 .row ([.slice 31 0 196 199 false 3,i6 199]) false,
 .row ([i6 500,i6 1]) false,
 .row ([i6 2,i6 1,i6 0,i6 0,i6 1,.nilPtr,.ptr 32 0,.str []]) false,
 .row ([i6 2,i6 1,i6 0,i6 0,i6 1,.nilPtr,.ptr 33 0,.str []]) false,
 .row ([i6 1,i6 1,i6 0,i6 0,i6 0,.ptr 34 0,.nilPtr,.str []]) false,
 .row ([i6 1,i6 1,i6 0,i6 0,i6 0,.ptr 35 0,.nilPtr,.str []]) false,
 .row ([i6 1,i6 1,i6 0,i6 0,i6 0,.ptr 36 0,.nilPtr,.str []]) false,
 .row ([i6 3,i6 1,i6 0,i6 0,i6 0,.nilPtr,.nilPtr,.str [116]]) false,
 .row ([.slice 37 0 194 199 false 3,i6 199]) false,
 .row ([i6 500,i6 0]) false,
 .row ([.str [97],i6 2,.str [98],i6 4]) false,
 .row ([.str [120],i6 3]) false,
 .row ([i6 500,i6 1]) false,
 .row ([.str [97],i6 2,.str [98],i6 4,.str [99],i6 5,.str [108],i6 6]) false,
 .row ([.str [121],i6 3]) false,
 .row ([.int .u8 104,.int .u8 105]) false,
 .row ([.bool true]) false,
 .row ([.slice 38 0 2 2 false 2]) false,
 .row ([.slice 39 0 1 1 false 2]) false,
 .row ([i6 0,.map 40]) false,
 .row ([i6 5,i6 5,i6 3,i6 6,i6 6,i6 4,i6 7,i6 7,i6 5,i6 9,i6 9,i6 7,i6 11,i6 11,i6 9,i6 13,i6 13,i6 11,i6 8,i6 8,i6 6,i6 17,i6 17,i6 15,i6 10,i6 10,i6 8,i6 21,i6 21,i6 19,i6 12,i6 12,i6 10,i6 25,i6 25,i6 23,i6 14,i6 14,i6 12,i6 15,i6 15,i6 13,i6 16,i6 16,i6 14,i6 33,i6 33,i6 31,i6 18,i6 18,i6 16,i6 19,i6 19,i6 17,i6 20,i6 20,i6 18,i6 41,i6 41,i6 39,i6 22,i6 22,i6 20,i6 23,i6 23,i6 21,i6 24,i6 24,i6 22,i6 49,i6 49,i6 47,i6 26,i6 26,i6 24,i6 27,i6 27,i6 25,i6 28,i6 28,i6 26,i6 29,i6 29,i6 27,i6 30,i6 30,i6 28,i6 31,i6 31,i6 29,i6 32,i6 32,i6 30,i6 65,i6 65,i6 63,i6 34,i6 34,i6 32,i6 35,i6 35,i6 33,i6 36,i6 36,i6 34,i6 37,i6 37,i6 35,i6 38,i6 38,i6 36,i6 39,i6 39,i6 37,i6 40,i6 40,i6 38,i6 81,i6 81,i6 79,i6 42,i6 42,i6 40,i6 43,i6 43,i6 41,i6 44,i6 44,i6 42,i6 45,i6 45,i6 43,i6 46,i6 46,i6 44,i6 47,i6 47,i6 45,i6 48,i6 48,i6 46,i6 97,i6 97,i6 95,i6 50,i6 50,i6 48,i6 51,i6 51,i6 49,i6 52,i6 52,i6 50,i6 53,i6 53,i6 51,i6 54,i6 54,i6 52,i6 55,i6 55,i6 53,i6 56,i6 56,i6 54,i6 57,i6 57,i6 55,i6 58,i6 58,i6 56,i6 59,i6 59,i6 57,i6 60,i6 60,i6 58,i6 61,i6 61,i6 59,i6 62,i6 62,i6 60,i6 63,i6 63,i6 61,i6 64,i6 64,i6 62,i6 129,i6 129,i6 127,i6 66,i6 66,i6 64,i6 67,i6 67,i6 65,i6 68,i6 68,i6 66,i6 69,i6 69,i6 67,i6 70,i6 70,i6 68,i6 71,i6 71,i6 69,i6 72,i6 72,i6 70,i6 73,i6 73,i6 71,i6 74,i6 74,i6 72,i6 75,i6 75,i6 73,i6 76,i6 76,i6 74,i6 77,i6 77,i6 75,i6 78,i6 78,i6 76,i6 79,i6 79,i6 77,i6 80,i6 80,i6 78,i6 161,i6 161,i6 159,i6 82,i6 82,i6 80,i6 83,i6 83,i6 81,i6 84,i6 84,i6 82,i6 85,i6 85,i6 83,i6 86,i6 86,i6 84,i6 87,i6 87,i6 85,i6 88,i6 88,i6 86,i6 89,i6 89,i6 87,i6 90,i6 90,i6 88,i6 91,i6 91,i6 89,i6 92,i6 92,i6 90,i6 93,i6 93,i6 91,i6 94,i6 94,i6 92,i6 95,i6 95,i6 93,i6 96,i6 96,i6 94,i6 193,i6 193,i6 191,i6 98,i6 98,i6 96,i6 99,i6 99,i6 97,i6 100,i6 100,i6 98,i6 101,i6 101,i6 99,i6 102,i6 102,i6 100,i6 103,i6 103,i6 101,i6 104,i6 104,i6 102,i6 105,i6 105,i6 103,i6 106,i6 106,i6 104,i6 107,i6 107,i6 105,i6 108,i6 108,i6 106,i6 109,i6 109,i6 107,i6 110,i6 110,i6 108,i6 111,i6 111,i6 109,i6 112,i6 112,i6 110,i6 113,i6 113,i6 111,i6 114,i6 114,i6 112,i6 115,i6 115,i6 113,i6 116,i6 116,i6 114,i6 117,i6 117,i6 115,i6 118,i6 118,i6 116,i6 119,i6 119,i6 117,i6 120,i6 120,i6 118,i6 121,i6 121,i6 119,i6 122,i6 122,i6 120,i6 123,i6 123,i6 121,i6 124,i6 124,i6 122,i6 125,i6 125,i6 123,i6 126,i6 126,i6 124,i6 127,i6 127,i6 125,i6 128,i6 128,i6 126,i6 200,i6 200,i6 198,i6 130,i6 130,i6 128,i6 131,i6 131,i6 129,i6 132,i6 132,i6 130,i6 133,i6 133,i6 131,i6 134,i6 134,i6 132,i6 135,i6 135,i6 133,i6 136,i6 136,i6 134,i6 137,i6 137,i6 135,i6 138,i6 138,i6 136,i6 139,i6 139,i6 137,i6 140,i6 140,i6 138,i6 141,i6 141,i6 139,i6 142,i6 142,i6 140,i6 143,i6 143,i6 141,i6 144,i6 144,i6 142,i6 145,i6 145,i6 143,i6 146,i6 146,i6 144,i6 147,i6 147,i6 145,i6 148,i6 148,i6 146,i6 149,i6 149,i6 147,i6 150,i6 150,i6 148,i6 151,i6 151,i6 149,i6 152,i6 152,i6 150,i6 153,i6 153,i6 151,i6 154,i6 154,i6 152,i6 155,i6 155,i6 153,i6 156,i6 156,i6 154,i6 157,i6 157,i6 155,i6 158,i6 158,i6 156,i6 159,i6 159,i6 157,i6 160,i6 160,i6 158,i6 198,i6 198,i6 196,i6 162,i6 162,i6 160,i6 163,i6 163,i6 161,i6 164,i6 164,i6 162,i6 165,i6 165,i6 163,i6 166,i6 166,i6 164,i6 167,i6 167,i6 165,i6 168,i6 168,i6 166,i6 169,i6 169,i6 167,i6 170,i6 170,i6 168,i6 171,i6 171,i6 169,i6 172,i6 172,i6 170,i6 173,i6 173,i6 171,i6 174,i6 174,i6 172,i6 175,i6 175,i6 173,i6 176,i6 176,i6 174,i6 177,i6 177,i6 175,i6 178,i6 178,i6 176,i6 179,i6 179,i6 177,i6 180,i6 180,i6 178,i6 181,i6 181,i6 179,i6 182,i6 182,i6 180,i6 183,i6 183,i6 181,i6 184,i6 184,i6 182,i6 185,i6 185,i6 183,i6 186,i6 186,i6 184,i6 187,i6 187,i6 185,i6 188,i6 188,i6 186,i6 189,i6 189,i6 187,i6 190,i6 190,i6 188,i6 191,i6 191,i6 189,i6 192,i6 192,i6 190,i6 199,i6 199,i6 197,i6 194,i6 194,i6 192,i6 195,i6 195,i6 193,i6 196,i6 196,i6 194,i6 197,i6 197,i6 195,i6 4,i6 4,i6 2,i6 3,i6 3,i6 1,i6 2,i6 2,i6 0]) false,
 .row ([.slice 41 0 4 4 false 2]) false,
 .row ([.slice 42 0 1 1 false 2]) false,
 .row ([i6 0,.map 43]) false,
 .row ([i6 0,.map 44]) false,
 .row ([i6 2,.map 45]) false,
 .row ([i6 7,i6 7,i6 5,i6 9,i6 9,i6 7,i6 8,i6 8,i6 6,i6 10,i6 10,i6 8,i6 11,i6 11,i6 9,i6 13,i6 13,i6 11,i6 15,i6 15,i6 13,i6 17,i6 17,i6 15,i6 19,i6 19,i6 17,i6 21,i6 21,i6 19,i6 12,i6 12,i6 10,i6 25,i6 25,i6 23,i6 14,i6 14,i6 12,i6 29,i6 29,i6 27,i6 16,i6 16,i6 14,i6 33,i6 33,i6 31,i6 18,i6 18,i6 16,i6 37,i6 37,i6 35,i6 20,i6 20,i6 18,i6 41,i6 41,i6 39,i6 22,i6 22,i6 20,i6 23,i6 23,i6 21,i6 24,i6 24,i6 22,i6 49,i6 49,i6 47,i6 26,i6 26,i6 24,i6 27,i6 27,i6 25,i6 28,i6 28,i6 26,i6 57,i6 57,i6 55,i6 30,i6 30,i6 28,i6 31,i6 31,i6 29,i6 32,i6 32,i6 30,i6 65,i6 65,i6 63,i6 34,i6 34,i6 32,i6 35,i6 35,i6 33,i6 36,i6 36,i6 34,i6 73,i6 73,i6 71,i6 38,i6 38,i6 36,i6 39,i6 39,i6 37,i6 40,i6 40,i6 38,i6 81,i6 81,i6 79,i6 42,i6 42,i6 40,i6 43,i6 43,i6 41,i6 44,i6 44,i6 42,i6 45,i6 45,i6 43,i6 46,i6 46,i6 44,i6 47,i6 47,i6 45,i6 48,i6 48,i6 46,i6 97,i6 97,i6 95,i6 50,i6 50,i6 48,i6 51,i6 51,i6 49,i6 52,i6 52,i6 50,i6 53,i6 53,i6 51,i6 54,i6 54,i6 52,i6 55,i6 55,i6 53,i6 56,i6 56,i6 54,i6 113,i6 113,i6 111,i6 58,i6 58,i6 56,i6 59,i6 59,i6 57,i6 60,i6 60,i6 58,i6 61,i6 61,i6 59,i6 62,i6 62,i6 60,i6 63,i6 63,i6 61,i6 64,i6 64,i6 62,i6 129,i6 129,i6 127,i6 66,i6 66,i6 64,i6 67,i6 67,i6 65,i6 68,i6 68,i6 66,i6 69,i6 69,i6 67,i6 70,i6 70,i6 68,i6 71,i6 71,i6 69,i6 72,i6 72,i6 70,i6 145,i6 145,i6 143,i6 74,i6 74,i6 72,i6 75,i6 75,i6 73,i6 76,i6 76,i6 74,i6 77,i6 77,i6 75,i6 78,i6 78,i6 76,i6 79,i6 79,i6 77,i6 80,i6 80,i6 78,i6 161,i6 161,i6 159,i6 82,i6 82,i6 80,i6 83,i6 83,i6 81,i6 84,i6 84,i6 82,i6 85,i6 85,i6 83,i6 86,i6 86,i6 84,i6 87,i6 87,i6 85,i6 88,i6 88,i6 86,i6 89,i6 89,i6 87,i6 90,i6 90,i6 88,i6 91,i6 91,i6 89,i6 92,i6 92,i6 90,i6 93,i6 93,i6 91,i6 94,i6 94,i6 92,i6 95,i6 95,i6 93,i6 96,i6 96,i6 94,i6 193,i6 193,i6 191,i6 98,i6 98,i6 96,i6 99,i6 99,i6 97,i6 100,i6 100,i6 98,i6 101,i6 101,i6 99,i6 102,i6 102,i6 100,i6 103,i6 103,i6 101,i6 104,i6 104,i6 102,i6 105,i6 105,i6 103,i6 106,i6 106,i6 104,i6 107,i6 107,i6 105,i6 108,i6 108,i6 106,i6 109,i6 109,i6 107,i6 110,i6 110,i6 108,i6 111,i6 111,i6 109,i6 112,i6 112,i6 110,i6 196,i6 196,i6 194,i6 114,i6 114,i6 112,i6 115,i6 115,i6 113,i6 116,i6 116,i6 114,i6 117,i6 117,i6 115,i6 118,i6 118,i6 116,i6 119,i6 119,i6 117,i6 120,i6 120,i6 118,i6 121,i6 121,i6 119,i6 122,i6 122,i6 120,i6 123,i6 123,i6 121,i6 124,i6 124,i6 122,i6 125,i6 125,i6 123,i6 126,i6 126,i6 124,i6 127,i6 127,i6 125,i6 128,i6 128,i6 126,i6 200,i6 200,i6 198,i6 130,i6 130,i6 128,i6 131,i6 131,i6 129,i6 132,i6 132,i6 130,i6 133,i6 133,i6 131,i6 134,i6 134,i6 132,i6 135,i6 135,i6 133,i6 136,i6 136,i6 134,i6 137,i6 137,i6 135,i6 138,i6 138,i6 136,i6 139,i6 139,i6 137,i6 140,i6 140,i6 138,i6 141,i6 141,i6 139,i6 142,i6 142,i6 140,i6 143,i6 143,i6 141,i6 144,i6 144,i6 142,i6 197,i6 197,i6 195,i6 146,i6 146,i6 144,i6 147,i6 147,i6 145,i6 148,i6 148,i6 146,i6 149,i6 149,i6 147,i6 150,i6 150,i6 148,i6 151,i6 151,i6 149,i6 152,i6 152,i6 150,i6 153,i6 153,i6 151,i6 154,i6 154,i6 152,i6 155,i6 155,i6 153,i6 156,i6 156,i6 154,i6 157,i6 157,i6 155,i6 158,i6 158,i6 156,i6 159,i6 159,i6 157,i6 160,i6 160,i6 158,i6 198,i6 198,i6 196,i6 162,i6 162,i6 160,i6 163,i6 163,i6 161,i6 164,i6 164,i6 162,i6 165,i6 165,i6 163,i6 166,i6 166,i6 164,i6 167,i6 167,i6 165,i6 168,i6 168,i6 166,i6 169,i6 169,i6 167,i6 170,i6 170,i6 168,i6 171,i6 171,i6 169,i6 172,i6 172,i6 170,i6 173,i6 173,i6 171,i6 174,i6 174,i6 172,i6 175,i6 175,i6 173,i6 176,i6 176,i6 174,i6 177,i6 177,i6 175,i6 178,i6 178,i6 176,i6 179,i6 179,i6 177,i6 180,i6 180,i6 178,i6 181,i6 181,i6 179,i6 182,i6 182,i6 180,i6 183,i6 183,i6 181,i6 184,i6 184,i6 182,i6 185,i6 185,i6 183,i6 186,i6 186,i6 184,i6 187,i6 187,i6 185,i6 188,i6 188,i6 186,i6 189,i6 189,i6 187,i6 190,i6 190,i6 188,i6 191,i6 191,i6 189,i6 192,i6 192,i6 190,i6 199,i6 199,i6 197,i6 194,i6 194,i6 192,i6 195,i6 195,i6 193,i6 6,i6 6,i6 4,i6 5,i6 5,i6 3,i6 4,i6 4,i6 2,i6 3,i6 3,i6 1,i6 2,i6 2,i6 0]) false,
 .row ([.str [97],i6 2,.str [98],i6 4]) false,
 .row ([.str [120],i6 3]) false,
 .map [] 0,
 .row ([.str [97],i6 2,.str [98],i6 4,.str [99],i6 5,.str [108],i6 6]) false,
 .row ([.str [121],i6 3]) false,
 .map [] 0,
 .map [] 0,
 .map [(i6 0,.agg [.int .u8 104,.int .u8 105,.int .u8 0,.int .u8 0,.int .u8 0,.int .u8 0,.int .u8 0,.int .u8 0,.int .u8 0,.int .u8 0,.int .u8 0,.int .u8 0,.int .u8 0,.int .u8 0,.int .u8 0,.int .u8 0],0)] 1]
def aw10F :List Nat:=[0,17,4,10,14,16,1,6,19,28,39,2,7,12,50,59,70,84,111,8,13,48,36,15,125,67,107,103,5,20,30,3,11,51,61,72,86,9,42,32,29,115,63,60,71,85]
end Go.Shade
namespace Go.Proofs.YtmkjmfegaalcoaaGreat
open Go.Shade
abbrev t3 :Table:=ext (ext (ext T0 137 insT) 42 bnT) 96 popT
abbrev t4 :Table:=ext t3 24 (atT aw10A aw10H aw10R aw10K)
theorem stA :stage (kcallT Tryz.prog t3 5000 100 24 aw10A aw10H) aw10H aw10K aw10F aw10R=true:=by kernel_rfl
end Go.Proofs.YtmkjmfegaalcoaaGreat
namespace Go.Proofs.YtmkjmfegaalcoaaGreat
open Go.Shade
theorem stB :isT (kcallT Tryz.prog t4 5000 100 23 [] [])=true:=by kernel_rfl
end Go.Proofs.YtmkjmfegaalcoaaGreat
namespace Go.Proofs.YtmkjmfegaalcoaaGreat
open Go.Shade
theorem s0 :Sound Tryz.prog (den Tryz.prog T0):=sound_den (soundT0 _) hm
theorem rev0 :RevOk (den Tryz.prog T0) 180:=by
 unfold RevOk;intros;exact denLo rfl lo180 1000001 (nble rfl) (by rw[Go.Shade.sRevEq];exact rev_s (by omega) ‹_› ‹_› ‹_› ‹_› ‹_›)
theorem rotl0 :RotOk (den Tryz.prog T0) 175:=by
 unfold RotOk;intros;exact denLo rfl lo175 0 (nble (by kernel_rfl)) (by rw[e175];exact rotl_s rev0 ‹_› ‹_› ‹_› ‹_› ‹_› ‹_› ‹_›)
theorem rotr0 :∀(H:Heap) (b o n lb r:Nat) (ex:Bool) (l:List Pr),H[b]? =some (.row (fl l) false)->one2 l->1<=r->r<n->n<=lb->o+n<=l.length->n<=1000000->den Tryz.prog T0 165 [.slice b (2*o) n lb ex 2,.int .i64 (r:Nat)] H=some (.tuple [],H.set b (.row (fl (rot l o n (n - r))) false)) :=
 fun H b o n lb r ex l h1 h2 h3 h4 h5 h6 h7=>denLo rfl lo165 0 (nble (by kernel_rfl)) (by rw[e165];exact rotr_s rotl0 h1 h2 h3 h4 h5 h6 h7)
theorem sIns :SoundT Tryz.prog (ext T0 137 insT):=soundExt (soundT0 _) (sound_insT s0 hm lo137 rotr0)
abbrev t1 :Table:=ext (ext T0 137 insT) 176 cutT
theorem ss1 :SoundT Tryz.prog t1:=soundExt sIns (sound_cutT s0 hm lo176)
theorem inT_ne {f g:Nat}(h:inT f=false)(hg:inT g=true):f≠g:=fun e=>by rw[e,hg]at h;cases h
theorem tb1 :TbOk t1:=⟨fun f h=>by
 show(if f=176 then some cutT else if f=137 then some insT else none)=none;rw[if_neg (inT_ne h rfl),if_neg (inT_ne h rfl)],rfl,rfl⟩
theorem s1 :Sound Tryz.prog (den Tryz.prog t1):=sound_den ss1 hm
theorem ss3 :SoundT Tryz.prog t3:=soundExt (soundExt sIns (sound_bnT s1 (okBNew tb1))) (sound_popT s1 (okQPop tb1))
theorem ss4 :SoundT Tryz.prog t4:=soundExt ss3 (sound_atT (sim_stage ss3 hm stA))
def awF (args:List IV)(H:Heap):Option (IV×Heap):=match args with
 | []=>some (.bool true,H)
 | _=>none
abbrev tt :Table:=ext t1 23 awF
theorem ss :SoundT Tryz.prog tt:=by
 refine soundExt ss1 fun args H r H' e=> ?_;unfold awF at e;split at e
 ·cases e;exact sim_awakeT ss4 hm stB H
 ·cases e
theorem tb :TbOk tt:=⟨fun f h=>by
 show(if f=23 then some awF else if f=176 then some cutT else if f=137 then some insT else none)=none;rw[if_neg (inT_ne h rfl),if_neg (inT_ne h rfl),if_neg (inT_ne h rfl)],rfl,rfl⟩
noncomputable abbrev dd :Oracle:=den Tryz.prog tt
end Go.Proofs.YtmkjmfegaalcoaaGreat
namespace Go.Shade
end Go.Shade
namespace Go.Shade
variable {H : Heap}
theorem kind_zero (st:Brs):kindOf st 0=0:=by
 unfold kindOf nodI;rw[if_neg (by decide)]
theorem get_bad {st:Brs}{i:Int}{s:Nam}(h:(getOf st i s).2≠0):(getOf st i s).1=0:=by
 unfold getOf at *;split
 ·rfl
 ·rename_i x hx;rw[hx]at h;simp only at h;split
  ·rename_i v hv;rw[hv]at h;exact absurd rfl h
  ·rfl
theorem low_shape (st2:Brs)(b:Int):(lowV st2 b=((0,0),2)/\(kindOf st2 b=0∨kindOf st2 b=4))∨(lowV st2 b=((0,b),0)/\kindOf st2 b≠0/\kindOf st2 b≠4):=by
 unfold lowV;by_cases h0:kindOf st2 b=0
 ·rw[if_pos h0];exact .inl ⟨rfl,.inl h0⟩
 ·rw[if_neg h0];by_cases h4:kindOf st2 b=4
  ·rw[if_pos h4];exact .inl ⟨rfl,.inr h4⟩
  ·rw[if_neg h4];exact .inr ⟨rfl,h0,h4⟩
theorem bel_get {st1 st2:Brs}{U L:Int}{s:Nam}(h:belV st1 st2 U L s≠0):belV st1 st2 U L s=(getOf st2 L s).1/\(getOf st2 L s).2=0:=by
 have key:belV st1 st2 U L s=(getOf st2 L s).1:=by
  unfold belV at *;split at h
  ·exact absurd rfl h
  ·rename_i hL;rw[if_neg hL];split at h
   ·rename_i hU;rw[if_pos hU]
   ·rename_i hU;rw[if_neg hU];split at h
    ·exact absurd rfl h
    ·rename_i ho;rw[if_neg ho]
 refine⟨key,?_⟩;by_cases he:(getOf st2 L s).2=0
 ·exact he
 ·rw[key,get_bad he]at h;exact absurd rfl h
theorem MActs.up {L L':Nat}{v:IV}{l:List MAct}(h:MActs L H v l)(k:L<=L'):MActs L' H v l:=by
 obtain⟨h0,h1⟩:=h;exact⟨h0.mono fun i hi=>by omega,h1⟩
def AwOk (O:Oracle)(f:FuncId):Prop:=∀H,O f [] H=some (.bool true,H)
structure BrsP (H:Heap)(b1 b2:Nat)(st1 st2:Brs):Prop where
 up:∃o,BrOk o H b1 st1
 low:∃o,BrOk o H b2 st2
 i1:BInv 160 st1
 i2:BInv 160 st2
theorem BrsP.kp {H H':Heap}{b1 b2:Nat}{st1 st2:Brs}(h:BrsP H b1 b2 st1 st2)(k:Frame NoF H H'):BrsP H' b1 b2 st1 st2 :=
 ⟨(by obtain⟨o,a⟩:=h.up;exact⟨o,a.kp k⟩),(by obtain⟨o,a⟩:=h.low;exact⟨o,a.kp k⟩),h.i1,h.i2⟩
theorem BrsP.view {b1 b2 v:Nat}{st1 st2:Brs}{u l:Int}(h:BrsP H b1 b2 st1 st2)(hv:H[v]? =some (.row [.ptr b1 0,.ptr b2 0,.int .i64 u,.int .i64 l] false)):VwOk H v b1 b2 u l st1 st2 :=
 ⟨hv,h.up,h.low,h.i1.ki,h.i2.ki,(h.i1.mono (by omega)).len,(h.i2.mono (by omega)).len⟩
theorem W2.brs {B:Nat}{Z:Nat->Prop}{b1 r1 b2 r2:Nat}(h:W2 160 B Z H b1 r1 b2 r2):∃st1 st2,BrsP H b1 b2 st1 st2:=by
 obtain⟨o1,o2,o3,o4,⟨st1,a1,a2⟩,_,⟨st2,a3,a4⟩,_⟩:=h;exact⟨st1,st2,⟨o1,a1⟩,⟨o3,a3⟩,a2,a4⟩
def mactT :List CT:=[.bool,.int .i64,.int .i64,.int .i64,.int .i64,.str,.str]
theorem fit_mact {e:List IV}(h:Fits H mactT e):∃a:MAct,e=a.cells:=by
 simp only[mactT,Fits]at h;obtain⟨_,_,rfl,h1,_,_,rfl,h2,_,_,rfl,h3,_,_,rfl,h4,_,_,rfl,h5,_,_,rfl,h6,_,_,rfl,h7,rfl⟩:=h;simp only[Fit]at h1 h2 h3 h4 h5 h6 h7;obtain⟨a1,rfl⟩:=h1;obtain⟨a2,rfl,_⟩:=h2;obtain⟨a3,rfl,_⟩:=h3;obtain⟨a4,rfl,_⟩:=h4;obtain⟨a5,rfl,_⟩:=h5;obtain⟨a6,rfl,_⟩:=h6;obtain⟨a7,rfl,_⟩:=h7;exact⟨⟨a1,a2,a3,a4,a5,a6,a7⟩,rfl⟩
theorem fit_mrows {H:Heap}:∀{elems:List (List IV)},(∀e∈elems,Fits H mactT e)->∃l:List MAct,l.length=elems.length/\elems.flatten.length=l.length*7/\∀i a,l[i]? =some a->(elems.flatten.drop (i*7)).take 7=a.cells
 | [],_=>⟨[],rfl,rfl,fun i a h=>by simp at h⟩
 | e::es,h=>by
  obtain⟨a,rfl⟩:=fit_mact (h e (by simp));obtain⟨l,h1,h2,h3⟩:=fit_mrows (elems:=es) (fun e' he'=>h e' (List.mem_cons_of_mem _ he'));have hl:a.cells.length=7:=rfl;refine⟨a::l,by simp[h1],by rw[List.flatten_cons,List.length_append,h2,hl,List.length_cons];omega,fun i b hb=> ?_⟩
  cases i with
  | zero =>
   simp at hb;subst hb;rw[List.flatten_cons,Nat.zero_mul,List.drop_zero,List.take_left' hl]
  | succ i =>
   rw[List.flatten_cons,show(i+1)*7=7+i*7 by omega,←List.drop_drop,List.drop_left' hl];exact h3 i b (by simpa using hb)
theorem fit_macts {v:IV}(h:Fit H (.sl mactT) v):∃l,MActs H.length H v l:=by
 simp only[Fit]at h;rcases h with rfl | ⟨b,n,elems,rfl,h2,h3,h4,h5⟩
 ·exact⟨[],At.nil,[],Sl.nil _ _,fun i a h=>by simp at h⟩
 ·obtain⟨l,k1,k2,k3⟩:=fit_mrows h5;have e:(l.take n).length=n:=by simp;omega
  have hs:Sl 7 H (.slice b 0 n elems.length true 0) (l.take n).length (elems.flatten.take (n*7)):=by
   refine⟨by rw[List.length_take,k2,e];omega,.inr ⟨b,0,elems.length,true,0,by rw[e],by omega,.inl rfl,fun hn=>⟨_,true,h2,by rw[k2,e];omega,by rw[e,List.drop_zero]⟩⟩⟩
  refine⟨l.take n,hs.lt,_,hs,fun i a ha=> ?_⟩;rw[List.getElem?_take]at ha;split at ha
  ·rw[List.drop_take,List.take_take,Nat.min_eq_left (by omega)];exact k3 i a ha
  ·cases ha
end Go.Shade
namespace Go.Shade
variable {H : Heap}
theorem fit_str {v:IV}(h:Fit H .str v):∃s,v=.str s:=by
 simp only[Fit]at h;obtain⟨s,rfl,_⟩:=h;exact⟨s,rfl⟩
theorem fit_int {v:IV}(h:Fit H (.int .i64) v):∃x,v=.int .i64 x:=by
 simp only[Fit]at h;obtain⟨x,rfl,_⟩:=h;exact⟨x,rfl⟩
theorem fit_node {e:List IV}(h:Fits H [.int .i64,.int .i64] e):∃U L,IV.agg e=nodV U L:=by
 simp only[Fits]at h;obtain⟨_,_,rfl,h1,_,_,rfl,h2,rfl⟩:=h;obtain⟨x,rfl⟩:=fit_int h1;obtain⟨y,rfl⟩:=fit_int h2;exact⟨x,y,rfl⟩
end Go.Shade
namespace Go.Shade
open Go.RowKit
def ltB (a b:Nam):Bool:=decide (cmpB a b<0)
def srtN (l:List Nam):List Nam:=l.mergeSort fun x y=> !ltB y x
def cmpL (a b:Nam):Int:=if cmpB a b<0 then -1 else 1
def encS (s:Nam):Value:=.string ⟨s.toArray⟩
theorem ltOf_cmpL :Go.Proofs.ltOf cmpL=ltB:=by
 funext x y
 unfold Go.Proofs.ltOf cmpL ltB;by_cases h:cmpB x y<0
 ·rw[if_pos h,decide_eq_true h];rfl
 ·rw[if_neg h,decide_eq_false h];rfl
theorem cmpB_ge {x y z:Nam}(h:¬cmpB x y<0)(k:¬cmpB y z<0):¬cmpB x z<0:=by
 intro g;have f1:=cmpB_flip x y;have f2:=cmpB_flip y z;by_cases e:cmpB x y=0
 ·rw[cmpB_eq e]at g;exact k g
 ·exact h (by
   have:cmpB y x<0:=by omega
   have:=cmpB_trans this g;exact absurd this k)
theorem swoB :Go.Sort.SWO ltB:=⟨fun x=>by simp[ltB,cmpB_self],fun x y z h k=>by
  simp only[ltB,decide_eq_true_eq]at *;exact cmpB_trans h k,fun x y z h k=>by
  simp only[ltB,decide_eq_false_iff_not]at *;exact cmpB_ge h k⟩
theorem antiB (x y:Nam)(h:ltB x y=false)(k:ltB y x=false):x=y:=by
 simp only[ltB,decide_eq_false_iff_not]at *;have:=cmpB_flip x y;exact cmpB_eq (by omega)
theorem srtN_perm (l:List Nam):(srtN l).Perm l:=List.mergeSort_perm _ _
theorem srtN_sorted (l:List Nam):(srtN l).Pairwise fun a b=>¬cmpB b a<0:=by
 have:=List.pairwise_mergeSort (le:=fun x y=> !ltB y x) (fun a b c h k=>by
  simp only[Bool.not_eq_true',ltB,decide_eq_false_iff_not]at *;exact cmpB_ge k h) (fun a b=>by
  simp only[Bool.or_eq_true,Bool.not_eq_true',ltB,decide_eq_false_iff_not];have:=cmpB_flip a b;omega) l
 exact this.imp fun h=>by simpa[ltB]using h
theorem sorted_one {l k:List Nam}(hp:l.Perm k)(h1:l.Pairwise fun a b=>¬cmpB b a<0)(h2:k.Pairwise fun a b=>¬cmpB b a<0):l=k :=
 hp.eq_of_pairwise (le:=fun a b=>¬cmpB b a<0) (fun a b _ _ h k=>antiB a b (by simpa[ltB]using k) (by simpa[ltB]using h)) h1 h2
theorem srtN_one {l k:List Nam}(h:l.Perm k):srtN l=srtN k:=sorted_one ((srtN_perm l).trans (h.trans (srtN_perm k).symm)) (srtN_sorted l) (srtN_sorted k)
theorem bl_eq :∀(x y:Nam),Op.bytesLess x y=ltB x y
 | [],[]=>rfl
 | x::a,[]=>rfl
 | [],y::b=>rfl
 | x::a,y::b=>by
  have ih:=bl_eq a b;unfold ltB at ih ⊢;simp only[Op.bytesLess,cmpB,Go.Lib.compareBytes]at ih ⊢;by_cases h1:x<y
  ·simp[h1]
  ·by_cases h2:y<x
   ·have:¬x=y:=fun e=>by subst e;exact h1 h2
    simp[h1,h2,this]
   ·have:x=y:=UInt8.toNat_inj.1 (by simp only[UInt8.lt_iff_toNat_lt]at h1 h2;omega);subst this;simp[h1,ih]
def unS :List IV->Option (List Nam)
 | []=>some []
 | .str s::l=>(unS l).map (s:: ·)
 | _::_=>none
theorem unS_eq :∀{cs:List IV} {l:List Nam},unS cs=some l->cs=l.map .str
 | [],l,h=>by cases h;rfl
 | x::cs,l,h=>by
  cases x<;>simp only[unS]at h<;>first
   | (cases h;done)
   | (obtain⟨k,hk,rfl⟩:=Option.map_eq_some_iff.1 h
      rw[unS_eq hk];rfl)
theorem unS_map :∀(l:List Nam),unS (l.map .str)=some l
 | []=>rfl
 | s::l=>by simp only[List.map_cons,unS,unS_map l];rfl
def sortT (fc:FuncId)(args:List IV)(H:Heap):Option (IV×Heap) :=
 match args with
 | [.nilSlice,.func (.func g) [] []]=>if g=fc then some (.tuple [],H)else none
 | [.slice b o n lb ex sz,.func (.func g) [] []]=>match H[b]? with
  | some (.row cs false)=>match unS ((cs.drop o).take n)with
   | some l=>if g=fc/\l.length=n/\0<n/\n<=lb/\n<4000000 then some (.tuple [],H.set b (.row (putAt cs o ((srtN l).map .str)) false))else none
   | none=>none
  | _=>none
 | _=>none
theorem putRow_heap {α:Type}[Inhabited α](enc:α->Value)(w:World)(cb off n:Nat)(d:Array α)(os:Array Obj){C:Array Value}{e:TypeId}{fr:Nat×Nat}(h:w.heap[cb]? =some (.cells C e fr))(hn:off+d.size<=C.size) :
  Below (w.setCells cb off (d.toList.map enc)).heap.size (w.setCells cb off (d.toList.map enc)) (Go.Proofs.sortWorld enc w cb off n d os):=by
 obtain⟨s1,s2,s3,s4,s5⟩:=setCells_same cb (d.toList.map enc) off w;obtain⟨C',c1,c2,c3⟩:=setCells_block (d.toList.map enc) off w C h (by simpa using hn);have hsz:(Go.Sort.putRow enc (Go.Sort.ahead w n) cb off d).heap.size=w.heap.size:=by
  simp[Go.Sort.putRow,Go.Sort.mapBlock,Go.Sort.ahead]
 refine⟨s1.symm,s2.symm,s3.symm,by rw[s4];unfold Go.Proofs.sortWorld;rw[Go.Sort.size_grow,hsz];omega,fun k hk=> ?_⟩;rw[s4]at hk;unfold Go.Proofs.sortWorld;rw[Go.Sort.heap_grow_old _ _ (by rw[hsz];exact hk)];unfold Go.Sort.putRow Go.Sort.mapBlock Go.Sort.ahead;simp only[Array.getElem?_modify];by_cases hkc:cb=k
 ·subst hkc;rw[if_pos rfl,h,c1];simp only[Option.map_some,Go.Sort.onCells,Option.some.injEq,Obj.cells.injEq,and_true];apply Array.ext_getElem?;intro j;rw[c3];simp only[Go.Sort.putCells,Array.getElem?_mapIdx,List.length_map,Array.length_toList];by_cases hj:off<=j/\j<off+d.size
  ·rw[if_pos hj,Array.getElem?_eq_getElem (by omega)];simp only[Option.map_some,if_pos hj];rw[List.getElem?_map,Array.getElem?_toList,Array.getElem?_eq_getElem (by omega),Option.map_some,getElem!_pos d _ (by omega)]
  ·rw[if_neg hj]
   cases C[j]? with
   | none=>rfl
   | some y=>simp only[Option.map_some,if_neg hj]
 ·rw[if_neg hkc,setCells_far _ _ _ _ (Ne.symm hkc)]
theorem VRs_unS (m:Mp):∀(l:List Nam),VRs m (l.map .str) (l.map encS)
 | []=>VRs.nil m
 | s::l=>VRs.cons (VR_str m s) (VRs_unS m l)
theorem sound_sortT {P:Program}{ρ:Go.Shelf.Ren}(L:Go.Proofs.SlLaysF.n6 P ρ){fc:FuncId}(eg:∀args w,(callFunc fc args).run P w=.ok (.enter fc args) w)(hc:∀(x y:Nam) (W:World),Calls P fc #[encS x,encS y] W fun e w'=>e=.returned (.int .i64 (cmpL x y))/\∃q,w'=W.drewN q)
  (hnil:∀H,SimCall P (ρ.f 6) [.nilSlice,.func (.func fc) [] []] H (.tuple []) H) (args:List IV) (H:Heap) (r:IV) (H':Heap) (e:sortT fc args H=some (r,H')):SimCall P (ρ.f 6) args H r H':=by
 unfold sortT at e;split at e
 ·rename_i g;split at e
  ·rename_i hg;subst hg;cases e;exact hnil H
  ·cases e
 ·rename_i b o n lb ex sz g;split at e
  ·rename_i cs hb;split at e
   ·rename_i l hl;split at e
    ·rename_i hcond;obtain⟨rfl,c1,c2,c3,c4⟩:=hcond
     cases e
     have hcs:=unS_eq hl;have hlen:o+n<=cs.length:=by
      have:=congrArg List.length hcs;simp only[List.length_take,List.length_drop,List.length_map,c1]at this;omega
     intro B0 w0 w m us hR hA;obtain⟨v1,t1,e1,r1,v2,t2,e2,r2,e3⟩:=hA;simp only[VRs]at e3;subst e3 e2;obtain⟨l1,o',c,sp,q1,rfl,q2,q3,q4,q5,q6⟩:=r1;obtain⟨rfl,rfl⟩:=q5 (by omega);obtain⟨a',b',rfl,q7,q8⟩:=r2;simp only[VRs,Array.toList_eq_nil_iff]at q7 q8;subst q7 q8;have hus:us= #[.slice (some ⟨l1.cb,l1.co+o,none⟩) n c,.func (.func g) #[] #[]]:=Array.toList_inj.1 e1;subst hus;have hg:=hR.good b _ hb;obtain⟨l',C,et,fr,g1,g2,g3,g4,g5,g6,g7⟩:=hg;rw[q1]at g1;cases g1
     have hd:l.toArray.size=n:=by simpa using c1
     have hH:Go.Sort.Holds encS w l1.cb (l1.co+o) l.toArray:=by
      intro j hj;rw[hd]at hj;have hx:cs[o+j]? =some (.str (l[j]'(by omega))):=by
       have:=congrArg (·[j]?) hcs;simp only[List.getElem?_take,List.getElem?_drop,if_pos hj,List.getElem?_map]at this;rw[this,List.getElem?_eq_getElem (by omega)];rfl
      obtain⟨_,u,hu,hv⟩:=g7 _ _ hx;simp only[VR]at hv;subst hv;refine⟨by rw[cell_of g2,Nat.add_assoc,hu,getElem!_pos l.toArray j (by omega)];rfl,?_⟩;rw[frozen_of g2];exact decide_eq_false (g6 _ (by omega))
     have hcmp:Go.Proofs.CmpLays1 P g #[] encS cmpL l1.cb (l1.co+o) l.toArray.size w :=
      Go.Proofs.CmpReads.lays fun k os dk _ x y=>hc x y _
     have hmain:=Go.Proofs.Any.slices_SortFunc L encS (fun _=>rfl) cmpL (by rw[ltOf_cmpL];exact swoB) g #[] l1.cb (l1.co+o) c l.toArray w eg hcmp hH (Array.getElem?_eq_some_iff.1 g2).1 (by omega);rw[hd]at hmain;refine hmain.mono ?_;rintro en w' ⟨rfl,d',k,os,hp,hs,rfl⟩;rw[ltOf_cmpL,←hd]at hs;rw[←hd]at hp;have hsort:d'.toList=srtN l:=Go.Sort.sorted_unique_holds swoB (fun x y h k=>antiB x y h k) l.toArray d' hp hs;have hds:d'.size=n:=by rw[←hd];exact hp.1
     have hsl:(srtN l).length=n:=by rw[←hsort];simpa using hds
     have hput:=hR.put hb q1 (o:=o) (VRs_unS m (srtN l)) (by simp[IV.one]) (by simpa[hsl]using hlen);refine⟨m,.tuple #[],rfl,Ext.refl m,hput.2.under ?_,by simp only[VR];exact⟨#[],rfl,VRs.nil m⟩⟩;rw[←hsort];exact putRow_heap encS w l1.cb (l1.co+o) k d' os g2 (by rw[hds];omega)
    ·cases e
   ·cases e
  ·cases e
 ·cases e
end Go.Shade
namespace Go.Proofs.YtmkjmfegaalcoaaGreat
open Go.Shade Go.RowKit
def srtR :Go.Shelf.Ren:=⟨fun | 6=>78 | 15=>129 | 14=>128 | 28=>157 | 29=>158 | 20=>149 | 21=>150 | 22=>151 | 23=>152 | 24=>153 | 25=>154 | 26=>155 | 27=>156 | 46=>169 | 47=>170 | 48=>171 | 49=>172 | 50=>173 | 57=>178 | n=>n,fun | 22=>53 | 24=>9 | 25=>126 | 39=>191 | 53=>231 | 55=>185 | 46=>225 | 45=>224 | 50=>201 | 66=>246 | 70=>250 | 76=>253 | 77=>254 | n=>n,fun n=>n⟩
theorem srtL :SlLaysF.n6 Tryz.prog srtR where
 mixed:=hm
 f6:=⟨Tryz.f78.name,by decide,Tryz.func78.trans (congrArg some (by kernel_rfl))⟩
 f14:=⟨Tryz.f128.name,by decide,Tryz.func128.trans (congrArg some (by kernel_rfl))⟩
 f15:=Tryz.func129.trans (congrArg some (by kernel_rfl))
 f20:=⟨Tryz.f149.name,by decide,Tryz.func149.trans (congrArg some (by kernel_rfl))⟩
 f21:=⟨Tryz.f150.name,by decide,Tryz.func150.trans (congrArg some (by kernel_rfl))⟩
 f22:=⟨Tryz.f151.name,by decide,Tryz.func151.trans (congrArg some (by kernel_rfl))⟩
 f23:=⟨Tryz.f152.name,by decide,Tryz.func152.trans (congrArg some (by kernel_rfl))⟩
 f24:=⟨Tryz.f153.name,by decide,Tryz.func153.trans (congrArg some (by kernel_rfl))⟩
 f25:=⟨Tryz.f154.name,by decide,Tryz.func154.trans (congrArg some (by kernel_rfl))⟩
 f26:=⟨Tryz.f155.name,by decide,Tryz.func155.trans (congrArg some (by kernel_rfl))⟩
 f27:=⟨Tryz.f156.name,by decide,Tryz.func156.trans (congrArg some (by kernel_rfl))⟩
 f28:=Tryz.func157.trans (congrArg some (by kernel_rfl))
 f29:=Tryz.func158.trans (congrArg some (by kernel_rfl))
 f46:=⟨Tryz.f169.name,by decide,Tryz.func169.trans (congrArg some (by kernel_rfl))⟩
 f47:=Tryz.func170.trans (congrArg some (by kernel_rfl))
 f48:=Tryz.func171.trans (congrArg some (by kernel_rfl))
 f49:=⟨Tryz.f172.name,by decide,Tryz.func172.trans (congrArg some (by kernel_rfl))⟩
 f50:=⟨Tryz.f173.name,by decide,Tryz.func173.trans (congrArg some (by kernel_rfl))⟩
 f57:=⟨Tryz.f178.name,by decide,Tryz.func178.trans (congrArg some (by kernel_rfl))⟩
 t0:=Tryz.underlying0
 a0:=Tryz.isAgg0
 z0:=Tryz.sizeOf0
 v0:=Tryz.zeroValue0
 t3:=Tryz.underlying3
 a3:=Tryz.isAgg3
 z3:=Tryz.sizeOf3
 v3:=Tryz.zeroValue3
 t4:=Tryz.underlying4
 a4:=Tryz.isAgg4
 z4:=Tryz.sizeOf4
 v4:=Tryz.zeroValue4
 t5:=Tryz.underlying5
 a5:=Tryz.isAgg5
 z5:=Tryz.sizeOf5
 v5:=Tryz.zeroValue5
 t9:=Tryz.underlying9
 a9:=Tryz.isAgg9
 z9:=Tryz.sizeOf9
 v9:=Tryz.zeroValue9
 t22:=Tryz.underlying53
 a22:=Tryz.isAgg53
 z22:=Tryz.sizeOf53
 v22:=Tryz.zeroValue53
 a24:=Tryz.isAgg9
 z24:=Tryz.sizeOf9
 t25:=Tryz.underlying126
 a25:=Tryz.isAgg126
 z25:=Tryz.sizeOf126
 v25:=Tryz.zeroValue126
 t39:=Tryz.underlying191
 a39:=Tryz.isAgg191
 z39:=Tryz.sizeOf191
 v39:=Tryz.zeroValue191
 t45:=Tryz.underlying224
 a45:=Tryz.isAgg224
 z45:=Tryz.sizeOf224
 v45:=Tryz.zeroValue224
 t46:=Tryz.underlying225
 a46:=Tryz.isAgg225
 z46:=Tryz.sizeOf225
 v46:=Tryz.zeroValue225
 t50:=Tryz.underlying201
 a50:=Tryz.isAgg201
 z50:=Tryz.sizeOf201
 v50:=Tryz.zeroValue201
 t53:=Tryz.underlying231
 a53:=Tryz.isAgg231
 z53:=Tryz.sizeOf231
 v53:=Tryz.zeroValue231
 t55:=Tryz.underlying185
 a55:=Tryz.isAgg185
 z55:=Tryz.sizeOf185
 v55:=Tryz.zeroValue185
 t66:=Tryz.underlying246
 a66:=Tryz.isAgg246
 z66:=Tryz.sizeOf246
 v66:=Tryz.zeroValue246
 t70:=Tryz.underlying250
 a70:=Tryz.isAgg250
 z70:=Tryz.sizeOf250
 v70:=Tryz.zeroValue250
 t76:=Tryz.underlying253
 a76:=Tryz.isAgg253
 z76:=Tryz.sizeOf253
 v76:=Tryz.zeroValue253
 t77:=Tryz.underlying254
 a77:=Tryz.isAgg254
 z77:=Tryz.sizeOf254
 v77:=Tryz.zeroValue254
theorem less41 (x y:Nam)(W:World):Calls Tryz.prog 41 #[.string ⟨x.toArray⟩,.string ⟨y.toArray⟩] W fun e w'=>e=.returned (.bool (Op.bytesLess x y))/\w'=W:=by
 go_enter Tryz.func41,Tryz.ntmps41
 go_wp2
 go_ret
 exact⟨rfl,rfl⟩
theorem clo79 (x y:Nam)(W:World):Calls Tryz.prog 79 #[.string ⟨x.toArray⟩,.string ⟨y.toArray⟩] W fun e w'=>e=.returned (.int .i64 (if Op.bytesLess x y then -1 else 1))/\w'=W:=by
 go_enter Tryz.func79,Tryz.ntmps79
 go_wp2_with (go_at_call 41;refine(less41 x y _).mono ?_;rintro e w' ⟨rfl,rfl⟩)
 all_goals (go_ret;simp_all)
theorem sNil (H:Heap):SimCall Tryz.prog 78 [.nilSlice,.func (.func 79) [] []] H (.tuple []) H :=
 sim_closed (sound_kcall hm 5 6 78 [.nilSlice,.func (.func 79) [] []] [] (.tuple []) [] (by kernel_rfl)) rfl rfl H
theorem sSrt (args:List IV)(H:Heap)(r:IV)(H':Heap)(e:sortT 79 args H=some (r,H')):SimCall Tryz.prog 78 args H r H':=by
 refine sound_sortT (ρ:=srtR) srtL (fc:=79) (enters_of Tryz.func79 (by kernel_rfl) rfl) (fun x y W=>(clo79 x y W).mono ?_) sNil args H r H' e;rintro e w' ⟨rfl,rfl⟩;refine⟨?_,0,rfl⟩;rw[bl_eq];unfold cmpL ltB;by_cases h:cmpB x y<0
 ·rw[decide_eq_true h,if_pos h,if_pos rfl]
 ·rw[decide_eq_false h,if_neg h];rfl
end Go.Proofs.YtmkjmfegaalcoaaGreat
