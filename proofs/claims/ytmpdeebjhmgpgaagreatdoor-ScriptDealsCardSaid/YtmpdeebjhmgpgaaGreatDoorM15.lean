/- The law ScriptDeals, part 15. -/
import Derived.Test.YtmpdeebjhmgpgaaGreatDoorM14
import Derived.Test.YtmpdeebjhmgpgaaGreatDoorM8
import Derived.Test.YtmpdeebjhmgpgaaGreatDoorM10
import Derived.Test.YtmpdeebjhmgpgaaGreatDoorM13
import Derived.Test.YtmpdeebjhmgpgaaGreatDoorM2
set_option linter.all false
namespace Go.Shade
theorem sum_take {T:List (List Cl)}{i:Nat}(hi:i<T.length):((T.take (i+1)).map List.length).sum=((T.take i).map List.length).sum+T[i].length:=by
 rw[List.take_add_one,List.getElem?_eq_getElem hi,List.map_append,List.sum_append];rfl
theorem sum_le {T:List (List Cl)}:∀{i:Nat},((T.take i).map List.length).sum<=(T.map List.length).sum:=by
 intro i;rw[←List.take_append_drop i T,List.take_append];have:(List.take i T).length<=i:=by simp;omega
 rw[List.take_of_length_le this];simp only[List.map_append,List.sum_append];have h2:List.take (i - (List.take i T).length) (List.drop i T)=[]∨True:=.inr trivial;rcases Nat.lt_or_ge i T.length with h | h
 ·have:i - (List.take i T).length=0:=by simp;omega
  rw[this];simp
 ·have:List.drop i T=[]:=by simp;omega
  rw[this];simp
def AwkOk (O:Oracle)(f:FuncId):Prop:=∀H:Heap,O f [] H=some (.bool true,H)
section
variable {cal : FuncId -> Bool} {O : Oracle} {N : Nat} {fa fd : FuncId}
theorem deals_loop {n:Nat}{l:List Cl}{v3:IV}{H:Heap}{gE:IV->Heap->Option (IV×Heap)}{R:Out->Prop}(hn:0<n)(hn64:n<=64)(hl:l.length<=200)(hT:TV H v3 (deal n l))
  (hE:∀s:Nat,s<=200->Wp (gE (.int .i64 (s:Nat)) H) R) :
  ∀(d i k:Nat),i+d=n->d<k->Wp (veneerlaw20ScriptDealsC0S cal O N fa fd gE k v3 (.int .i64 ((((deal n l).take i).map List.length).sum:Nat)) (.int .i64 (n:Nat)) (.int .i64 (i:Nat)) H) R:=by
 have hs:∀i,(((deal n l).take i).map List.length).sum<=200:=fun i=>by
  have:=sum_le (T:=deal n l) (i:=i);rw[deal_sum hn]at this;omega
 intro d
 induction d with
 | zero =>
  intro i k hi hk;obtain⟨k,rfl⟩:∃j,k=j+1:=⟨k - 1,by omega⟩;rw[veneerlaw20ScriptDealsC0S,lbin_lss,ob_some,decide_eq_false (by omega),cnd_false];exact hE _ (hs i)
 | succ d ih =>
  intro i k hi hk;obtain⟨k,rfl⟩:∃j,k=j+1:=⟨k - 1,by omega⟩;have hlt:i<n:=by omega
  have hT0:=hT;have at':∀j,j<n->∃p w,lix 1 v3 (.int .i64 (j:Nat))=some p/\lload1 H p=some w/\llen H .slice w=some (.int .i64 ((thr n l j).length:Nat)):=fun j hj=>by
   obtain⟨p,w,h1,h2,h3,_⟩:=hT.at (t:=j) (by rw[deal_len];exact hj);have hg:(deal n l)[j]'(by rw[deal_len];exact hj)=thr n l j:=by
    have:=deal_get hj l;rw[List.getElem?_eq_getElem (by rw[deal_len];exact hj)]at this;exact Option.some.inj this
   rw[hg]at h3;exact⟨p,w,h1,h2,h3.len⟩
  obtain⟨p,w,a1,a2,a3⟩:=at' i hlt;obtain⟨p0,w0,b1,b2,b3⟩:=at' 0 hn;have b1:lix 1 v3 (.int .i64 0)=some p0:=b1;obtain⟨m1,m2⟩:=thr_anti (Nat.zero_le i) hlt l;have hle:(thr n l 0).length<=300:=by
   rw[thr_len hn];have:=Nat.div_le_self (l.length+(n - 1 - 0)) n;omega
  have hsi:=hs i;have hsum:(((deal n l).take (i+1)).map List.length).sum=(((deal n l).take i).map List.length).sum+(thr n l i).length:=by
   rw[sum_take (by rw[deal_len];exact hlt)]
   congr 2
   have:=deal_get hlt l;rw[List.getElem?_eq_getElem (by rw[deal_len];exact hlt)]at this;exact Option.some.inj this
  have hs1:=hs (i+1);have wi:IntKind.wrap .i64 ((i:Int)+1)=((i+1:Nat):Int):=by rw[wrap_i64 (by omega) (by omega)];omega
  have ws:IntKind.wrap .i64 (((((deal n l).take i).map List.length).sum:Int)+((thr n l i).length:Nat))=((((deal n l).take (i+1)).map List.length).sum:Nat):=by rw[wrap_i64 (by omega) (by omega),hsum];omega
  have wt:IntKind.wrap .i64 (((thr n l i).length:Int)+1)=((thr n l i).length:Int)+1:=wrap_i64 (by omega) (by omega);rw[veneerlaw20ScriptDealsC0S,lbin_lss,ob_some,decide_eq_true (by omega),cnd_true];simp only[a1,a2,a3,b1,b2,b3,ob_some,lbin_add,ws,lbin_gtr,decide_eq_false (show ¬(((thr n l 0).length:Nat):Int)<((thr n l i).length:Nat) by omega),isB_ff,gq_true,wt,lbin_lss,decide_eq_false (show ¬(((thr n l i).length:Nat):Int)+1<((thr n l 0).length:Nat) by omega),lpick_false];by_cases h0:i=0
  ·subst h0;simp only[decide_eq_false (show ¬(0:Int)<((0:Nat):Int) by omega),isB_ft,gq_false,ob_some,lpick_false,cnd_false,wi];exact ih 1 k (by omega) (by omega)
  ·obtain⟨p',w',c1,c2,c3⟩:=at' (i - 1) (by omega);have hw1:IntKind.wrap .i64 ((i:Int) - 1)=((i - 1:Nat):Int):=by rw[wrap_i64 (by omega) (by omega)];omega
   obtain⟨m3,_⟩:=thr_anti (show i - 1<=i by omega) hlt l;simp only[decide_eq_true (show(0:Int)<((i:Nat):Int) by omega),isB_tt,gq_true,ob_some,lbin_sub,hw1,a1,a2,a3,c1,c2,c3,lbin_gtr,decide_eq_false (show ¬(((thr n l (i - 1)).length:Nat):Int)<((thr n l i).length:Nat) by omega),lpick_true,lpick_false,cnd_false,wi];exact ih (i+1) k (by omega) (by omega)
theorem deals_l (hA:AwkOk O fa)(hD:ScrDecOk O fd)(hN:1000<N){H:Heap}{v:IV}{bs:List UInt8}(hv:v.one=true)(hl:low H.length v)(hb:BS H v bs) :
  Wp (veneerlaw20ScriptDealsS cal O N fa fd v H) fun r=>r.1=.bool true:=by
 unfold veneerlaw20ScriptDealsS veneerlaw20ScriptDealsC9S veneerlaw20ScriptDealsC8S;simp only[hA H,ob_some,iun_not,Bool.not_true,cnd_false];unfold veneerlaw20ScriptDealsC7S;rw[hb.len,ob_some,lbin_gtr,ob_some];refine Wp.dec (fun _=>Wp.ret rfl) (fun hsz=> ?_);unfold veneerlaw20ScriptDealsC6S;refine Wp.call (hD H v bs hv hl hb) ?_;rintro⟨w,K⟩ ⟨tv,p,rfl,hT,hp,rp,kK⟩;simp only[iextract_tuple,List.getElem?_cons_zero,List.getElem?_cons_succ,ob_some];unfold veneerlaw20ScriptDealsC5S;have hn:0<scN bs/\scN bs<=64:=by unfold scN;have:=(bs.getD 0 0).toNat_lt;omega
 have hm:scM bs<256:=(bs.getD 1 0).toNat_lt;have hlen:=hT.len;rw[deal_len]at hlen;simp only at hT hlen ⊢;simp only[hlen,ob_some,lbin_lss,decide_eq_false (show ¬((scN bs:Nat):Int)<1 by omega),isB_ff,gq_true,lbin_gtr,decide_eq_false (show ¬(64:Int)<((scN bs:Nat):Int) by omega),lpick_false,llen_slice,decide_eq_false (show ¬(255:Int)<((scM bs:Nat):Int) by omega),cnd_false];unfold veneerlaw20ScriptDealsC4S veneerlaw20ScriptDealsC3S veneerlaw20ScriptDealsC2S;rw[hlen,ob_some];unfold veneerlaw20ScriptDealsC1S;refine deals_loop hn.1 hn.2 (dec_len 200 _) hT (fun s hs=> ?_) _ 0 N (Nat.zero_add _) (by omega);dsimp only;rw[lbin_leq,ob_some,decide_eq_true (by omega)];exact Wp.ret rfl
end
end Go.Shade
namespace Go.Proofs.YtmpdeebjhmgpgaaGreatDoor
open Go.Shade
theorem sB :SoundT Tryz.prog tB:=soundExt (soundExt sA (sound_atT (sim_stage sA hm stA))) (sound_atT (sim_stage sA hm stB))
theorem sE :SoundT Tryz.prog tE:=soundExt sB (sound_atT (sim_stage sB hm stE))
theorem sC :SoundT Tryz.prog tC:=soundExt sA (sound_atT (sim_stage sE hm stC))
def awF (args:List IV)(H:Heap):Option (IV×Heap):=match args with
 | []=>some (.bool true,H)
 | _=>none
theorem lo103 :LoF Tryz.prog 103 callWithin:=⟨⟨Tryz.f103,Tryz.func103,by kernel_rfl⟩,by kernel_rfl⟩
theorem lo68 :LoF Tryz.prog 68 (callMay 103):=⟨⟨Tryz.f68,Tryz.func68,by kernel_rfl⟩,by kernel_rfl⟩
theorem lo43 :LoF Tryz.prog 43 (callEncode 68):=⟨⟨Tryz.f43,Tryz.func43,by kernel_rfl⟩,by kernel_rfl⟩
theorem lo38 :LoF Tryz.prog 38 callDecode1:=⟨⟨Tryz.f38,Tryz.func38,by kernel_rfl⟩,by kernel_rfl⟩
theorem lo39 :LoF Tryz.prog 39 callDecode2:=⟨⟨Tryz.f39,Tryz.func39,by kernel_rfl⟩,by kernel_rfl⟩
theorem lo40 :LoF Tryz.prog 40 callDecode3:=⟨⟨Tryz.f40,Tryz.func40,by kernel_rfl⟩,by kernel_rfl⟩
theorem lo18 :LoF Tryz.prog 18 (callDecode 38 39 40):=⟨⟨Tryz.f18,Tryz.func18,by kernel_rfl⟩,by kernel_rfl⟩
theorem lo21 :LoF Tryz.prog 21 (callScript 43):=⟨⟨Tryz.f21,Tryz.func21,by kernel_rfl⟩,by kernel_rfl⟩
noncomputable abbrev u0 :Table:=ext T0 9 awF
noncomputable abbrev u1 :Table:=ext u0 103 (tab WithinR)
noncomputable abbrev u2 :Table:=ext u1 68 (tab MayR)
noncomputable abbrev u3 :Table:=ext u2 43 (tab EncR)
noncomputable abbrev u4 :Table:=ext u3 38 (tab OneR)
noncomputable abbrev u5 :Table:=ext u4 39 (tab (TwoR 38))
noncomputable abbrev u6 :Table:=ext u5 40 (tab (TextR 38))
noncomputable abbrev u7 :Table:=ext u6 18 (tab DecR)
noncomputable abbrev uu :Table:=ext u7 21 (tab ScriptR)
theorem v0 :SoundT Tryz.prog u0:=soundExt (soundT0 _) fun args H r H' e=>by
 unfold awF at e;split at e
 ·cases e;exact sim_awakeT sC hm stD H
 ·cases e
theorem v1 :SoundT Tryz.prog u1:=soundExt v0 fun args H r H' h=>simWithin v0 hm rfl lo103 args H (r,H') (tab_some h)
theorem v2 :SoundT Tryz.prog u2:=soundExt v1 fun args H r H' h=>simMay v1 hm rfl rfl lo68 args H (r,H') (tab_some h)
theorem v3 :SoundT Tryz.prog u3:=soundExt v2 fun args H r H' h=>simEnc v2 hm rfl rfl lo43 args H (r,H') (tab_some h)
theorem v4 :SoundT Tryz.prog u4:=soundExt v3 fun args H r H' h=>simOne v3 hm rfl lo38 args H (r,H') (tab_some h)
theorem v5 :SoundT Tryz.prog u5:=soundExt v4 fun args H r H' h=>simTwo v4 hm lo38.2 rfl rfl lo39 args H (r,H') (tab_some h)
theorem v6 :SoundT Tryz.prog u6:=soundExt v5 fun args H r H' h=>simText v5 hm lo38.2 rfl rfl lo40 args H (r,H') (tab_some h)
theorem v7 :SoundT Tryz.prog u7:=soundExt v6 fun args H r H' h=>simDec v6 hm lo38.2 lo39.2 lo40.2 rfl rfl rfl rfl lo18 args H (r,H') (tab_some h)
theorem vv :SoundT Tryz.prog uu:=soundExt v7 fun args H r H' h=>simScript v7 hm rfl rfl lo21 args H (r,H') (tab_some h)
noncomputable abbrev dd :Oracle:=den Tryz.prog uu
theorem okAwk :AwkOk dd 9:=fun H=>den_table (g:=awF) rfl [] H
theorem lo10 :LoF Tryz.prog 10 (Go.Shade.scriptDecode 18):=⟨⟨Tryz.f10,Tryz.func10,by kernel_rfl⟩,by kernel_rfl⟩
theorem okScrDec :ScrDecOk dd 10:=fun H v bs h1 h2 h3=>denWp rfl lo10 1001 (nble rfl) (by rw[Go.Shade.scriptDecodeEq];exact scd_s (okDec (T:=uu) (f:=18) rfl) (by omega) h1 h2 h3)
theorem lo7 :LoF Tryz.prog 7 (Go.Shade.veneerlaw20ScriptDeals 9 10):=⟨⟨Tryz.f7,Tryz.func7,by kernel_rfl⟩,by kernel_rfl⟩
end Go.Proofs.YtmpdeebjhmgpgaaGreatDoor
