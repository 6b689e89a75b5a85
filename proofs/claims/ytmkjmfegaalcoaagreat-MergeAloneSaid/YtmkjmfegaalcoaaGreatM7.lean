/- The law MergeAlone, part 7. -/
import Derived.Test.YtmkjmfegaalcoaaGreatM6
import Derived.Test.YtmkjmfegaalcoaaGreatM3
import Derived.Test.YtmkjmfegaalcoaaGreatM1
import Derived.KernelRfl
set_option linter.all false
namespace Go.Shade
variable {H : Heap} {i : Int} {s : Nam} {st : Brs}
theorem kind_zero (st:Brs):kindOf st 0=0:=by
 unfold kindOf nodI; rw[if_neg (by decide)]
theorem get_bad (h:(getOf st i s).2≠0):(getOf st i s).1=0:=by
 unfold getOf at *
 split
 ·rfl
 ·rename_i x hx
  rw[hx]at h
  simp only at h
  split
  ·rename_i v hv; rw[hv]at h; exact absurd rfl h
  ·rfl
theorem get_err (h:(getOf st i s).2≠0)(hk:kindOf st i=2):(getOf st i s).2=2:=by
 unfold getOf at *
 unfold dirOf at *
 unfold kindOf at hk
 split at h
 ·rename_i e he
  split at he
  ·rename_i hn; rw[hn]at hk; cases hk
  ·rename_i x hn
   rw[hn]at hk
   simp only at hk
   rw[if_pos hk]at he; cases he
 ·rename_i x hx
  try rw[hx]
  try simp only
  split at h
  ·exact absurd rfl h
  ·rename_i hn; first | rfl | rw[hn]
theorem get_ok {c:Nat}(hI:BInv c st)(h:(getOf st i s).2=0):2<=(getOf st i s).1/\kindOf st (getOf st i s).1≠0:=by
 unfold getOf at *
 split at h
 ·rename_i e he; rcases dirOf_inr he with rfl | rfl<;>cases h
 ·rename_i x hx
  try rw[hx]
  try simp only
  split at h
  ·rename_i v hv
   try rw[hv]
   try simp only
   obtain⟨hn,_⟩:=dirOf_inl hx
   obtain⟨m,rfl,hm⟩:=nodI_at hn
   unfold entOf at hv
   split at hv
   ·rename_i l hl
    obtain⟨n,rfl,n2,n200,y,hy,_⟩:=hI.ent m x l s v hm hl hv
    refine⟨by omega,?_⟩
    have hny:nodI st ((n:Nat):Int)=some y:=by unfold nodI; rw[if_pos (by omega)]; simpa using hy
    unfold kindOf
    rw[hny]
    have:=(hI.ki.kind n y hy).1
    simp only; omega
   ·cases hv
  ·cases h
theorem low_shape (st2:Brs)(b:Int):(lowV st2 b=((0,0),2)/\(kindOf st2 b=0∨kindOf st2 b=4))∨(lowV st2 b=((0,b),0)/\kindOf st2 b≠0/\kindOf st2 b≠4):=by
 unfold lowV
 by_cases h0:kindOf st2 b=0
 ·rw[if_pos h0]; exact .inl ⟨rfl,.inl h0⟩
 ·rw[if_neg h0]
  by_cases h4:kindOf st2 b=4
  ·rw[if_pos h4]; exact .inl ⟨rfl,.inr h4⟩
  ·rw[if_neg h4]; exact .inr ⟨rfl,h0,h4⟩
theorem bel_get {st1 st2:Brs}{U L:Int}(h:belV st1 st2 U L s≠0):belV st1 st2 U L s=(getOf st2 L s).1/\(getOf st2 L s).2=0:=by
 have key:belV st1 st2 U L s=(getOf st2 L s).1:=by
  unfold belV at *
  split at h
  ·exact absurd rfl h
  ·rename_i hL
   rw[if_neg hL]
   split at h
   ·rename_i hU; rw[if_pos hU]
   ·rename_i hU
    rw[if_neg hU]
    split at h
    ·exact absurd rfl h
    ·rename_i ho; rw[if_neg ho]
 refine⟨key,?_⟩
 by_cases he:(getOf st2 L s).2=0
 ·exact he
 ·rw[key,get_bad he]at h; exact absurd rfl h
theorem leqN {x y a b:Int}:leq (.struct [(0,.int),(1,.int)]) (nodV x y) (nodV a b)=some (decide (x=a/\y=b)):=by
 show some ((x==a)&&((y==b)&&true))=_
 congr 1
 by_cases h1:x=a<;>by_cases h2:y=b<;>simp[h1,h2]
theorem bldU (x:Int):lbld [(.int .i64 0),(.int .i64 0)] [(0,1,.int .i64 x)]=some (nodV x 0):=rfl
theorem bldL (x:Int):lbld [(.int .i64 0),(.int .i64 0)] [(1,1,.int .i64 x)]=some (nodV 0 x):=rfl
def AwOk (φ:Oracle)(f:FuncId):Prop:=∀H,φ f [] H=some (.bool true,H)
structure BrsP (H:Heap)(b1 b2:Nat)(st1 st2:Brs):Prop where
 up:∃o,BrOk o H b1 st1
 low:∃o,BrOk o H b2 st2
 i1:BInv 160 st1
 i2:BInv 160 st2
theorem BrsP.kp {H H':Heap}{b1 b2:Nat}{st1 st2:Brs}(h:BrsP H b1 b2 st1 st2)(k:Frame NoF H H'):BrsP H' b1 b2 st1 st2 :=
 ⟨(by obtain⟨o,a⟩:=h.up; exact⟨o,a.kp k⟩),(by obtain⟨o,a⟩:=h.low; exact⟨o,a.kp k⟩),h.i1,h.i2⟩
theorem W2.brs {B:Nat}{Z:Nat->Prop}{b1 r1 b2 r2:Nat}(h:W2 160 B Z H b1 r1 b2 r2):∃st1 st2,BrsP H b1 b2 st1 st2:=by
 obtain⟨o1,o2,o3,o4,⟨st1,a1,a2⟩,_,⟨st2,a3,a4⟩,_⟩:=h
 exact⟨st1,st2,⟨o1,a1⟩,⟨o3,a3⟩,a2,a4⟩
def mactT :List CT:=[.bool,.int .i64,.int .i64,.int .i64,.int .i64,.str,.str]
theorem fit_mact {e:List IV}(h:Fits H mactT e):∃a:MAct,e=a.cells:=by
 simp only[mactT,Fits]at h
 obtain⟨_,_,rfl,h1,_,_,rfl,h2,_,_,rfl,h3,_,_,rfl,h4,_,_,rfl,h5,_,_,rfl,h6,_,_,rfl,h7,rfl⟩:=h
 simp only[Fit]at h1 h2 h3 h4 h5 h6 h7
 obtain⟨a1,rfl⟩:=h1
 obtain⟨a2,rfl,_⟩:=h2
 obtain⟨a3,rfl,_⟩:=h3
 obtain⟨a4,rfl,_⟩:=h4
 obtain⟨a5,rfl,_⟩:=h5
 obtain⟨a6,rfl,_⟩:=h6
 obtain⟨a7,rfl,_⟩:=h7
 exact⟨⟨a1,a2,a3,a4,a5,a6,a7⟩,rfl⟩
theorem fit_mrows {H:Heap}:∀{elems:List (List IV)},(∀e∈elems,Fits H mactT e)->∃l:List MAct,l.length=elems.length/\elems.flatten.length=l.length*7/\∀i a,l[i]? =some a->(elems.flatten.drop (i*7)).take 7=a.cells
 | [],_=>⟨[],rfl,rfl,fun i a h=>by simp at h⟩
 | e::es,h=>by
  obtain⟨a,rfl⟩:=fit_mact (h e (by simp))
  obtain⟨l,h1,h2,h3⟩:=fit_mrows (elems:=es) (fun e' he'=>h e' (List.mem_cons_of_mem _ he'))
  have hl:a.cells.length=7:=rfl
  refine⟨a::l,by simp[h1],by rw[List.flatten_cons,List.length_append,h2,hl,List.length_cons]; omega,fun i b hb=> ?_⟩
  cases i with
  | zero =>
   simp at hb; subst hb
   rw[List.flatten_cons,Nat.zero_mul,List.drop_zero,List.take_left' hl]
  | succ i =>
   rw[List.flatten_cons,show(i+1)*7=7+i*7 by omega,←List.drop_drop,List.drop_left' hl]; exact h3 i b (by simpa using hb)
theorem fit_macts {v:IV}(h:Fit H (.sl mactT) v):∃l,MActs H.length H v l:=by
 simp only[Fit]at h
 rcases h with rfl | ⟨b,n,elems,rfl,h2,h3,h4,h5⟩
 ·exact⟨[],At.nil,[],Sl.nil _ _,fun i a h=>by simp at h⟩
 ·obtain⟨l,k1,k2,k3⟩:=fit_mrows h5
  have e:(l.take n).length=n:=by simp; omega
  have hs:Sl 7 H (.slice b 0 n elems.length true 0) (l.take n).length (elems.flatten.take (n*7)):=by
   refine⟨by rw[List.length_take,k2,e]; omega,.inr ⟨b,0,elems.length,true,0,by rw[e],by omega,.inl rfl,fun hn=>⟨_,true,h2,by rw[k2,e]; omega,by rw[e,List.drop_zero]⟩⟩⟩
  refine⟨l.take n,hs.lt,_,hs,fun i a ha=> ?_⟩
  rw[List.getElem?_take]at ha
  split at ha
  ·rw[List.drop_take,List.take_take,Nat.min_eq_left (by omega)]; exact k3 i a ha
  ·cases ha
end Go.Shade
namespace Go.Shade
theorem fit_str {H:Heap}{v:IV}(h:Fit H .str v):∃s,v=.str s:=by
 simp only[Fit]at h
 obtain⟨s,rfl,_⟩:=h
 exact⟨s,rfl⟩
theorem fit_int {H:Heap}{v:IV}(h:Fit H (.int .i64) v):∃x,v=.int .i64 x:=by
 simp only[Fit]at h
 obtain⟨x,rfl,_⟩:=h
 exact⟨x,rfl⟩
end Go.Shade
namespace Go.Shade
end Go.Shade
namespace Go.Shade
theorem root_kind {c:Nat}{st:Brs}(hI:BInv c st):kindOf st 1=2:=by
 obtain⟨x,hx,hk⟩:=hI.root
 unfold kindOf nodI
 rw[if_pos (by omega)]
 show(match st.nod 1 with | some x=>x.kind | none=>0)=2
 rw[hx]; exact hk
theorem root_U {c:Nat}{st1:Brs}(h1:BInv c st1):rootU st1 1=1:=by unfold rootU; rw[if_pos (root_kind h1)]
section
variable {cal : FuncId -> Bool} {φ : Oracle} {N : Nat}
end
end Go.Shade
namespace Go.Shade
def veneerlaw10MergeAloneS (cal:CB)(φ:Oracle)(N:Nat)(f0 f1 f2 f3 f4 f5 f6 f7:FuncId)(v0 v1 v2:IV)(H:Heap):OH :=
 ob (φ f0 [] H) fun r1 =>ob (iun .not r1.1) fun t2 =>cnd t2
 (some ((.bool false),r1.2))
 (ob (φ f1 [v0] r1.2) fun r3 =>ob (iextract r3.1 0) fun t4 =>ob (iextract r3.1 1) fun t5 =>ob (φ f2 [(.int .i64 9)] r3.2) fun r6 =>ob (iun .not t5) fun t7 =>ob (gq (isB t7 false) (some r6.1)) fun t8 =>ob (gq (isB t7 false) (leqv false (leq .ptr t8 .nilPtr))) fun t9 =>ob (lpick t7 (.bool true) t9) fun t10 =>cnd t10
 (ob (leqv true (leq .ptr r6.1 .nilPtr)) fun t11 =>some (t11,r6.2))
 (ob (lchk t4) fun t12 =>ob (loff t12 1) fun t13 =>ob (lload1 r6.2 t13) fun t14 =>ob (φ f3 [r6.1,t14,(.int .i64 1),v1] r6.2) fun r15 =>ob (lchk t4) fun t16 =>ob (loff t16 0) fun t17 =>ob (lload1 r15.2 t17) fun t18 =>ob (φ f3 [t18,r6.1,v1,(.int .i64 1)] r15.2) fun r19 =>ob (lchk t4) fun t20 =>ob (loff t20 1) fun t21 =>ob (lload1 r19.2 t21) fun t22 =>ob (φ f4 [t22,v1,v2] r19.2) fun r23 =>ob (iextract r23.1 0) fun t24 =>ob (iextract r23.1 1) fun t25 =>ob (φ f5 [r15.1] r23.2) fun r26 =>ob (φ f6 [r15.1,r26.1,v2] r26.2) fun r27 =>ob (iextract r27.1 0) fun t28 =>ob (iextract r27.1 1) fun t29 =>ob (lzbox r27.2 (.agg [(.int .i64 0),(.int .i64 0)])) fun r30 =>ob (lstV r30.2 2 r30.1 t28) fun r31 =>jn (fun(H67:Heap) =>ob (lchk t4) fun t68 =>ob (loff t68 0) fun t69 =>ob (lload1 H67 t69) fun t70 =>ob (φ f4 [t70,v1,v2] H67) fun r71 =>ob (iextract r71.1 0) fun t72 =>ob (iextract r71.1 1) fun t73 =>ob (φ f5 [r19.1] r71.2) fun r74 =>ob (φ f6 [r19.1,r74.1,v2] r74.2) fun r75 =>ob (iextract r75.1 0) fun t76 =>ob (iextract r75.1 1) fun t77 =>ob (lzbox r75.2 (.agg [(.int .i64 0),(.int .i64 0)])) fun r78 =>ob (lstV r78.2 2 r78.1 t76) fun r79 =>ob (lchk t4) fun t80 =>ob (loff t80 0) fun t81 =>ob (lload1 r79.2 t81) fun t82 =>ob (φ f7 [t82,v1] r79.2) fun r83 =>ob (lbin .eql r83.1 (.int .i64 2)) fun t84 =>cnd t84
 (ob (lchk t4) fun t85 =>ob (loff t85 0) fun t86 =>ob (lload1 r83.2 t86) fun t87 =>ob (φ f7 [t87,t72] r83.2) fun r88 =>ob (lbin .eql r88.1 (.int .i64 4)) fun t89 =>ob (gq (isB t89 true) (some t77)) fun t90 =>ob (gq (isB t89 true) (lbin .eql t90 (.int .i64 2))) fun t91 =>ob (lpick t89 t91 (.bool false)) fun t92 =>ob (gq (isB t92 false) (some t89)) fun t93 =>ob (gq (isB t92 false) (iun .not t93)) fun t94 =>ob (gq (isB t92 false) (some t94)) fun t95 =>ob (gq (isB t95 true) (lloadn r88.2 2 r78.1)) fun t96 =>ob (gq (isB t95 true) (some t72)) fun t97 =>ob (gq (isB t95 true) (lbld [(.int .i64 0),(.int .i64 0)] [(0,1,t97)])) fun t98 =>ob (gq (isB t95 true) (leqv false (leq (.struct [(0,.int),(1,.int)]) t96 t98))) fun t99 =>ob (gq (isB t92 false) (lpick t95 t99 (.bool false))) fun t100 =>ob (gq (isB t92 false) (some t100)) fun t101 =>ob (gq (isB t101 true) (some t73)) fun t102 =>ob (gq (isB t101 true) (some t77)) fun t103 =>ob (gq (isB t101 true) (lbin .eql t102 t103)) fun t104 =>ob (gq (isB t92 false) (lpick t101 t104 (.bool false))) fun t105 =>ob (lpick t92 (.bool true) t105) fun t106 =>some (t106,r88.2))
 (some ((.bool true),r83.2))) fun J32 =>ob (lchk t4) fun t107 =>ob (loff t107 1) fun t108 =>ob (lload1 r31.2 t108) fun t109 =>ob (φ f7 [t109,v1] r31.2) fun r110 =>ob (lbin .eql r110.1 (.int .i64 2)) fun t111 =>cnd t111
 (ob (lchk t4) fun t112 =>ob (loff t112 1) fun t113 =>ob (lload1 r110.2 t113) fun t114 =>ob (φ f7 [t114,t24] r110.2) fun r115 =>ob (lbin .eql r115.1 (.int .i64 4)) fun t116 =>ob (gq (isB t116 true) (some t29)) fun t117 =>ob (gq (isB t116 true) (lbin .neq t117 (.int .i64 2))) fun t118 =>ob (lpick t116 t118 (.bool false)) fun t119 =>ob (gq (isB t119 false) (some t116)) fun t120 =>ob (gq (isB t119 false) (iun .not t120)) fun t121 =>ob (gq (isB t119 false) (some t121)) fun t122 =>ob (gq (isB t122 true) (lloadn r115.2 2 r30.1)) fun t123 =>ob (gq (isB t122 true) (some t24)) fun t124 =>ob (gq (isB t122 true) (lbld [(.int .i64 0),(.int .i64 0)] [(1,1,t124)])) fun t125 =>ob (gq (isB t122 true) (leqv true (leq (.struct [(0,.int),(1,.int)]) t123 t125))) fun t126 =>ob (gq (isB t122 true) (some t126)) fun t127 =>ob (gq (isB t127 false) (some t25)) fun t128 =>ob (gq (isB t127 false) (some t29)) fun t129 =>ob (gq (isB t127 false) (lbin .neq t128 t129)) fun t130 =>ob (gq (isB t122 true) (lpick t127 (.bool true) t130)) fun t131 =>ob (gq (isB t119 false) (lpick t122 t131 (.bool false))) fun t132 =>ob (lpick t119 (.bool true) t132) fun t133 =>cnd t133
 (some ((.bool false),r115.2))
 (J32 r115.2))
 (J32 r110.2)))
end Go.Shade
namespace Go.Shade
variable {ino : Int} {s : Nam} {st : Brs}
theorem emp_get (h:BInv 0 st)(i:Int)(s:Nam):(getOf st i s).2≠0:=by
 unfold getOf
 split
 ·rename_i e he; rcases dirOf_inr he with rfl | rfl<;>decide
 ·rename_i x hx
  obtain⟨hn,_⟩:=dirOf_inl hx
  obtain⟨m,rfl,hm⟩:=nodI_at hn
  have:entOf x s=none:=by
   unfold entOf
   split
   ·rename_i l hl
    have hz:=h.len m x l hm hl
    have:l=[]:=List.length_eq_zero_iff.1 (by omega)
    subst this; rfl
   ·rfl
  rw[this]; decide
theorem emp_opq (hm:∀k y,st.nod k=some y->y.marks=0)(i:Int):opq st i=false:=by
 have:marksOf st i=0:=by
  unfold marksOf
  split
  ·rename_i x hx
   obtain⟨n,_,hn⟩:=nodI_at hx
   exact hm n x hn
  ·rfl
 unfold opq; rw[this]; rfl
theorem kind_ne0 {i:Int}(h:kindOf st i=2):i≠0:=fun e=>by rw[e,kind_zero]at h; cases h
theorem alone_low {c:Nat}{st0 st2:Brs}(h0:BInv 0 st0)(hm:∀k y,st0.nod k=some y->y.marks=0)(h2:BInv c st2)(hk:kindOf st2 ino=2) :
  (kindOf st2 (getOf st2 ino s).1=4->(getV st0 st2 (rootU st0 1) (rootL st0 st2 1 ino) s).2=2)/\(kindOf st2 (getOf st2 ino s).1≠4->((getV st0 st2 (rootU st0 1) (rootL st0 st2 1 ino) s).1.1=0/\(getV st0 st2 (rootU st0 1) (rootL st0 st2 1 ino) s).1.2=(getOf st2 ino s).1)/\(getOf st2 ino s).2=(getV st0 st2 (rootU st0 1) (rootL st0 st2 1 ino) s).2):=by
 have hL:rootL st0 st2 1 ino=ino:=by unfold rootL; rw[if_pos hk,root_U h0,if_neg (by decide),emp_opq hm,if_neg (by decide)]
 rw[root_U h0,hL]
 have hd:dirE st0 st2 1 ino=0:=by
  have:kindV st0 st2 1 ino=2:=by unfold kindV; rw[if_neg (by decide),root_kind h0,if_neg (by decide)]
  unfold dirE; rw[this]; rfl
 have hb:belV st0 st2 1 ino s=(getOf st2 ino s).1:=by
  unfold belV; rw[if_neg (kind_ne0 hk),if_neg (by decide),emp_opq hm,if_neg (by decide)]
 have hg:getV st0 st2 1 ino s=lowV st2 (getOf st2 ino s).1:=by
  unfold getV; rw[if_pos hd,if_neg (by decide),if_neg (emp_get h0 1 s),hb]
 rw[hg]
 have hbad:(getOf st2 ino s).2≠0->(getOf st2 ino s).1=0/\(getOf st2 ino s).2=2:=fun h=>⟨get_bad h,get_err h hk⟩
 have hok:(getOf st2 ino s).2=0->kindOf st2 (getOf st2 ino s).1≠0:=fun h=>(get_ok h2 h).2
 generalize getOf st2 ino s=q at *
 obtain⟨a,e⟩:=q
 simp only at hbad hok ⊢
 rcases low_shape st2 a with⟨e1,h⟩ | ⟨e1,k0,k4⟩
 ·rw[e1]
  refine⟨fun _=>rfl,fun h4=> ?_⟩
  rcases h with h | h
  ·have he:e≠0:=fun h'=>hok h' h
   obtain⟨ha,h2⟩:=hbad he
   exact⟨⟨rfl,ha.symm⟩,h2⟩
  ·exact absurd h h4
 ·rw[e1]
  refine⟨fun h=>absurd h k4,fun _=>⟨⟨rfl,rfl⟩,?_⟩⟩
  by_cases he:e=0
  ·exact he
  ·rw[(hbad he).1,kind_zero]at k0; exact absurd rfl k0
theorem alone_up {c:Nat}{st0 st1:Brs}(h0:BInv 0 st0)(h1:BInv c st1)(hk:kindOf st1 ino=2) :
  (kindOf st1 (getOf st1 ino s).1=4->(getV st1 st0 (rootU st1 ino) (rootL st1 st0 ino 1) s).2=2)/\(kindOf st1 (getOf st1 ino s).1≠4->((getV st1 st0 (rootU st1 ino) (rootL st1 st0 ino 1) s).1.1=(getOf st1 ino s).1/\(getV st1 st0 (rootU st1 ino) (rootL st1 st0 ino 1) s).1.2=0)/\(getOf st1 ino s).2=(getV st1 st0 (rootU st1 ino) (rootL st1 st0 ino 1) s).2):=by
 have hU:rootU st1 ino=ino:=by unfold rootU; rw[if_pos hk]
 have hi:=kind_ne0 hk
 rw[hU]
 generalize rootL st1 st0 ino 1=L
 have hd:dirE st1 st0 ino L=0:=by
  have:kindV st1 st0 ino L=2:=by unfold kindV; rw[if_neg hi,hk,if_neg (by decide)]
  unfold dirE; rw[this]; rfl
 have hb:belV st1 st0 ino L s=0:=by
  by_cases h:belV st1 st0 ino L s=0
  ·exact h
  ·exact absurd (bel_get h).2 (emp_get h0 L s)
 have hg:getV st1 st0 ino L s=if(getOf st1 ino s).2=0 then(if kindOf st1 (getOf st1 ino s).1=4 then((0,0),2)else(((getOf st1 ino s).1,0),0))else((0,0),2):=by
  unfold getV
  rw[if_pos hd,if_neg hi,hb]
  have h1:∀x,bothV st1 st0 x 0=0:=fun x=>by unfold bothV; rw[kind_zero]; simp
  have h2:lowV st0 0=((0,0),2):=by unfold lowV; rw[kind_zero,if_pos rfl]
  rw[h1,h2]
 rw[hg]
 have hbad:(getOf st1 ino s).2≠0->(getOf st1 ino s).1=0/\(getOf st1 ino s).2=2:=fun h=>⟨get_bad h,get_err h hk⟩
 generalize getOf st1 ino s=q at *
 obtain⟨a,e⟩:=q
 simp only at hbad ⊢
 by_cases he:e=0
 ·rw[if_pos he]
  by_cases h4:kindOf st1 a=4
  ·rw[if_pos h4]; exact⟨fun _=>rfl,fun h=>absurd h4 h⟩
  ·rw[if_neg h4]; exact⟨fun h=>absurd h h4,fun _=>⟨⟨rfl,rfl⟩,he⟩⟩
 ·rw[if_neg he]
  obtain⟨ha,h2⟩:=hbad he
  exact⟨fun _=>rfl,fun _=>⟨⟨ha.symm,rfl⟩,h2⟩⟩
section
variable {cal : FuncId -> Bool} {φ : Oracle} {N : Nat}
theorem alone_l {fa fb fn fm fbg fr fg fbk:FuncId}(hA:AwOk φ fa)(hB:BuildOk φ fb)(hN:BNewOk φ fn)(hM:MNewOk φ fm)(hBG:BGetOk φ fbg)(hR:VRootOk φ fr)(hG:VGetOk φ fg)(hBK:KindOk φ fbk){H:Heap}{v:IV}{l:List MAct}(hv:MActs H.length H v l) :
  Wp (veneerlaw10MergeAloneS cal φ N fa fb fn fm fbg fr fg fbk v (.int .i64 ino) (.str s) H) fun r=>r.1=.bool true:=by
 unfold veneerlaw10MergeAloneS
 simp only[hA H,ob_some,iun_not,Bool.not_true,cnd_false]
 refine Wp.call (hB H v l hv) ?_
 rintro⟨w,K⟩ ⟨k1,hw⟩
 simp only at k1 hw ⊢
 rcases hw with rfl | ⟨p,b1,r1,b2,r2,hp,rfl,rp,hW⟩
 ·simp only[iextract_tuple,List.getElem?_cons_zero,List.getElem?_cons_succ,ob_some]
  refine Wp.call (hN K 9) ?_
  rintro⟨w,K2⟩ ⟨_,g1⟩
  rw[if_pos (by decide)]at g1
  obtain⟨b0,rfl,_⟩:=g1
  have en:leqv true (leq .ptr (.ptr b0 0) .nilPtr)=some (.bool true):=rfl
  simp only[iun_not,ob_some,Bool.not_false,isB_tf,gq_false,lpick_true,cnd_true,en]
  exact Wp.ret rfl
 obtain⟨st1,st2,hP⟩:=hW.brs
 simp only[iextract_tuple,List.getElem?_cons_zero,List.getElem?_cons_succ,ob_some]
 refine Wp.call (hN K 9) ?_
 rintro⟨w,K2⟩ ⟨k2,g1⟩
 rw[if_pos (by decide)]at g1
 obtain⟨b0,rfl,n0⟩:=g1
 obtain⟨o0,st0,hB0,hI0,_,hm0⟩:=n0.okM n0.le
 simp only at k2 hB0 ⊢
 have en:leqv false (leq .ptr (.ptr b0 0) .nilPtr)=some (.bool false):=rfl
 have rp2:=k2.get (fun h=>h) rp
 have hP2:=hP.kp k2
 have p1:lload1 K2 (.ptr p 1)=some (.ptr b2 0):=ld1 rp2
 simp only[iun_not,ob_some,Bool.not_true,isB_ff,gq_true,en,lpick_false,cnd_false,lchk_ptr,loff_ptr,Nat.zero_add,p1,hM K2 b0 b2 1 ino]
 have k3:Frame NoF K2 (K2++[IObj.row [.ptr b0 0,.ptr b2 0,.int .i64 1,.int .i64 ino] false]):=Frame.push _ _ _
 have rv:(K2++[IObj.row [.ptr b0 0,.ptr b2 0,.int .i64 1,.int .i64 ino] false])[K2.length]? =some (.row [.ptr b0 0,.ptr b2 0,.int .i64 1,.int .i64 ino] false):=newRow
 have rp3:=k3.get (fun h=>h) rp2
 have hP3:=hP2.kp k3
 have hB3:=hB0.kp k3
 generalize K2++[IObj.row [.ptr b0 0,.ptr b2 0,.int .i64 1,.int .i64 ino] false]=K3 at *
 generalize K2.length=vp at *
 have p0:lload1 K3 (.ptr p 0)=some (.ptr b1 0):=ld1 rp3
 simp only[p0,ob_some,hM K3 b1 b0 ino 1]
 have k4:Frame NoF K3 (K3++[IObj.row [.ptr b1 0,.ptr b0 0,.int .i64 ino,.int .i64 1] false]):=Frame.push _ _ _
 have rw4:(K3++[IObj.row [.ptr b1 0,.ptr b0 0,.int .i64 ino,.int .i64 1] false])[K3.length]? =some (.row [.ptr b1 0,.ptr b0 0,.int .i64 ino,.int .i64 1] false):=newRow
 have rp4:=k4.get (fun h=>h) rp3
 have rv4:=k4.get (fun h=>h) rv
 have hP4:=hP3.kp k4
 have hB4:=hB3.kp k4
 generalize K3++[IObj.row [.ptr b1 0,.ptr b0 0,.int .i64 ino,.int .i64 1] false]=K4 at *
 generalize K3.length=wp at *
 have hV4:VwOk K4 vp b0 b2 1 ino st0 st2:=⟨rv4,⟨o0,hB4⟩,hP4.low,hI0.ki,hP4.i2.ki,(hI0.mono (by omega)).len,(hP4.i2.mono (by omega)).len⟩
 have hW4:VwOk K4 wp b1 b0 ino 1 st1 st0:=⟨rw4,hP4.up,⟨o0,hB4⟩,hP4.i1.ki,hI0.ki,(hP4.i1.mono (by omega)).len,(hI0.mono (by omega)).len⟩
 have fin:∀K5:Heap,Frame NoF K4 K5->VwOk K5 vp b0 b2 1 ino st0 st2/\VwOk K5 wp b1 b0 ino 1 st1 st0/\lload1 K5 (.ptr p 0)=some (.ptr b1 0)/\lload1 K5 (.ptr p 1)=some (.ptr b2 0):=fun K5 k5=>⟨hV4.kp k5,hW4.kp k5,ld1 (k5.get (fun h=>h) rp4),ld1 (k5.get (fun h=>h) rp4)⟩
 obtain⟨_,_,_,q1⟩:=fin K4 (Frame.refl _ _)
 simp only[q1,ob_some]
 refine Wp.call (hV4.get2 hBG ino s) ?_
 rintro⟨w,K5⟩ ⟨rfl,k5⟩
 simp only at k5 ⊢
 simp only[iextract_tuple,List.getElem?_cons_zero,List.getElem?_cons_succ,ob_some]
 obtain⟨hV5,_,_,_⟩:=fin K5 k5
 refine Wp.call (hR K5 vp b0 b2 1 ino st0 st2 hV5) ?_
 rintro⟨w,K6⟩ ⟨rfl,k6⟩
 simp only at k6 ⊢
 have kf6:=k5.tr k6
 obtain⟨hV6,_,_,_⟩:=fin K6 kf6
 refine Wp.call (hG K6 vp b0 b2 1 ino st0 st2 _ _ s hV6) ?_
 rintro⟨w,K7⟩ ⟨rfl,k7⟩
 simp only at k7 ⊢
 have kf7:=kf6.tr k7
 have hLow:=fun hk=>alone_low (s:=s) hI0 hm0 hP.i2 (ino:=ino) hk
 generalize getV st0 st2 (rootU st0 1) (rootL st0 st2 1 ino) s=g at *
 generalize getOf st2 ino s=gl at *
 obtain⟨⟨x,y⟩,f⟩:=g
 obtain⟨a,e⟩:=gl
 simp only at hLow ⊢
 have eg:∀x y g:Int,getR ((x,y),g)=.tuple [nodV x y,.int .i64 g]:=fun _ _ _=>rfl
 have hone:∀x y:Int,([IV.int .i64 x,.int .i64 y]).all IV.one=true:=fun _ _=>rfl
 have est:∀(K:Heap) (x y:Int),lstV (K++[IObj.row [.int .i64 0,.int .i64 0] false]) 2 (.ptr K.length 0) (nodV x y)=some (.tuple [],(K++[IObj.row [.int .i64 0,.int .i64 0] false]).set K.length (.row [.int .i64 x,.int .i64 y] false)):=fun K x y=>stn (n:=2) newRow (hone x y) rfl rfl
 simp only[eg,iextract_tuple,List.getElem?_cons_zero,List.getElem?_cons_succ,ob_some,lzbox_eq,cells_agg]
 rw[est,ob_some,setRow]
 have k8:Frame NoF K7 (K7++[IObj.row [.int .i64 x,.int .i64 y] false]):=Frame.push _ _ _
 have rx:(K7++[IObj.row [.int .i64 x,.int .i64 y] false])[K7.length]? =some (.row [.int .i64 x,.int .i64 y] false):=newRow
 have kf8:=kf7.tr k8
 simp only
 generalize K7++[IObj.row [.int .i64 x,.int .i64 y] false]=K8 at *
 generalize K7.length=c at *
 refine jn1 (fun K9=>Frame NoF K4 K9) (fun K9 k9=> ?_) (fun J hJ=> ?_)
 ·
  obtain⟨_,hW9,q0,_⟩:=fin K9 k9
  simp only[lchk_ptr,loff_ptr,ob_some,Nat.zero_add,q0]
  refine Wp.call (hW9.get1 hBG ino s) ?_
  rintro⟨w,L5⟩ ⟨rfl,l5⟩
  simp only at l5 ⊢
  simp only[iextract_tuple,List.getElem?_cons_zero,List.getElem?_cons_succ,ob_some]
  have lf5:=k9.tr l5
  obtain⟨_,hW5,_,_⟩:=fin L5 lf5
  refine Wp.call (hR L5 wp b1 b0 ino 1 st1 st0 hW5) ?_
  rintro⟨w,L6⟩ ⟨rfl,l6⟩
  simp only at l6 ⊢
  have lf6:=lf5.tr l6
  obtain⟨_,hW6,_,_⟩:=fin L6 lf6
  refine Wp.call (hG L6 wp b1 b0 ino 1 st1 st0 _ _ s hW6) ?_
  rintro⟨w,L7⟩ ⟨rfl,l7⟩
  simp only at l7 ⊢
  have lf7:=lf6.tr l7
  have hUp:=fun hk=>alone_up (s:=s) hI0 hP.i1 (ino:=ino) hk
  generalize getV st1 st0 (rootU st1 ino) (rootL st1 st0 ino 1) s=g at *
  generalize getOf st1 ino s=gl at *
  obtain⟨⟨x2,y2⟩,h⟩:=g
  obtain⟨a2,e2⟩:=gl
  simp only at hUp ⊢
  simp only[eg,iextract_tuple,List.getElem?_cons_zero,List.getElem?_cons_succ,ob_some]
  rw[est,ob_some,setRow]
  have l8:Frame NoF L7 (L7++[IObj.row [.int .i64 x2,.int .i64 y2] false]):=Frame.push _ _ _
  have rx2:(L7++[IObj.row [.int .i64 x2,.int .i64 y2] false])[L7.length]? =some (.row [.int .i64 x2,.int .i64 y2] false):=newRow
  have lf8:=lf7.tr l8
  simp only
  generalize L7++[IObj.row [.int .i64 x2,.int .i64 y2] false]=L8 at *
  generalize L7.length=c2 at *
  obtain⟨_,hW8,q0,_⟩:=fin L8 lf8
  have eld:lloadn L8 2 (.ptr c2 0)=some (nodV x2 y2):=ldn (n:=2) rx2 rfl
  simp only[q0,ob_some,hW8.kd1 hBK,lbin_eql]
  refine Wp.dec (fun hk=> ?_) (fun _=>Wp.ret rfl)
  obtain⟨u1,u2⟩:=hUp hk
  have hut:isB (.tuple []) true=false:=rfl
  have huf:isB (.tuple []) false=false:=rfl
  by_cases h4:kindOf st1 a2=4
  ·rw[decide_eq_true h4,u1 h4]
   simp only[isB_tt,gq_true,ob_some,lbin_eql,decide_true,lpick_true,isB_tf,gq_false,hut,huf]
   exact Wp.ret rfl
  ·obtain⟨v1,v2⟩:=u2 h4
   rw[decide_eq_false h4]
   simp only[isB_ft,gq_false,ob_some,lpick_false,isB_ff,gq_true,iun_not,Bool.not_false,isB_tt,eld,bldU,leqN,leqv_f,lpick_true]
   rw[decide_eq_true v1]
   simp only[isB_tt,gq_true,ob_some,lbin_eql,lpick_true]
   rw[decide_eq_true v2]
   exact Wp.ret rfl
 ·
  obtain⟨hV8,_,_,q1⟩:=fin K8 kf8
  have eld:lloadn K8 2 (.ptr c 0)=some (nodV x y):=ldn (n:=2) rx rfl
  simp only[lchk_ptr,loff_ptr,ob_some,Nat.zero_add,q1,hV8.kd2 hBK,lbin_eql]
  refine Wp.dec (fun hk=> ?_) (fun _=>hJ K8 kf8)
  obtain⟨u1,u2⟩:=hLow hk
  have hut:isB (.tuple []) true=false:=rfl
  have huf:isB (.tuple []) false=false:=rfl
  by_cases h4:kindOf st2 a=4
  ·rw[decide_eq_true h4,u1 h4]
   simp only[isB_tt,gq_true,ob_some,lbin_neq,decide_true,Bool.not_true,lpick_true,isB_ff,iun_not,isB_ft,gq_false,lpick_false,hut,huf,cnd_false]
   exact hJ K8 kf8
  ·obtain⟨v1,v2⟩:=u2 h4
   rw[decide_eq_false h4]
   simp only[isB_ft,gq_false,ob_some,lpick_false,isB_ff,gq_true,iun_not,Bool.not_false,isB_tt,eld,bldL,leqN,leqv_t,lpick_true]
   rw[decide_eq_true v1]
   simp only[Bool.not_true,isB_ff,gq_true,ob_some,lbin_neq,lpick_false]
   rw[decide_eq_true v2]
   simp only[Bool.not_true,cnd_false]
   exact hJ K8 kf8
end
end Go.Shade
namespace Go.Proofs.YtmkjmfegaalcoaaGreat
open Go.Shade
theorem lo7 :LoF Tryz.prog 7 (lf Tryz.f7):=⟨⟨_,Tryz.func7,by kernel_rfl⟩,by kernel_rfl⟩
theorem e7 (cal:FuncId->Bool)(φ:Oracle)(N:Nat)(v0 v1 v2:IV)(H:Heap):lrunK cal φ N (lf Tryz.f7) [v0,v1,v2] H=Go.Shade.veneerlaw10MergeAloneS cal φ N 23 24 42 25 43 26 28 44 v0 v1 v2 H:=by kernel_rfl
end Go.Proofs.YtmkjmfegaalcoaaGreat
