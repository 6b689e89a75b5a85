/- Part 7 of the proof. -/
import Derived.Test.YtmpdeebjhmgpgaaGreatDoorM2
import Derived.KernelRfl
set_option linter.all false
namespace Go.Shade.S
open Go.Shade
def QqPushS (cal:CB)(O:Oracle)(N:Nat)(f0:FuncId)(v0 v1 v2:IV)(H:Heap):OH :=
 ob (lchk v0) fun t1 =>ob (loff t1 0) fun t2 =>ob (some (.iface 195 t2)) fun t3 =>ob (lchk v0) fun t4 =>ob (loff t4 1) fun t5 =>ob (lload1 H t5) fun t6 =>ob (lbld [(.int .i64 0),(.int .i64 0),(.int .i64 0)] [(0,1,v1),(1,1,v2),(2,1,t6)]) fun t7 =>ob (some (.iface 197 t7)) fun t8 =>ob (O f0 [t3,t8] H) fun r9 =>ob (lchk v0) fun t10 =>ob (loff t10 1) fun t11 =>ob (lload1 r9.2 t11) fun t12 =>ob (lbin .add t12 (.int .i64 1)) fun t13 =>ob (lchk v0) fun t14 =>ob (loff t14 1) fun t15 =>ob (lstV r9.2 1 t15 t13) fun r16 =>some ((.tuple []),r16.2)
def QisPushS (cal:CB)(O:Oracle)(N:Nat)(v0 v1:IV)(H:Heap):OH :=
 ob (lchk v0) fun t1 =>ob (lload1 H t1) fun t2 =>ob (lasrt 197 (.agg [(.int .i64 0),(.int .i64 0),(.int .i64 0)]) false v1) fun t3 =>ob (lbldS H 3 1 [(.int .i64 0),(.int .i64 0),(.int .i64 0)] [(0,t3)]) fun r4 =>ob (lapp r4.2 3 24 t2 r4.1) fun r5 =>ob (lchk v0) fun t6 =>ob (lstV r5.2 1 t6 r5.1) fun r7 =>
  ckd ((!(true)||((!(false))&&ivo (lload1 H t1) t2&&ivo (lload1 r4.2 t1) t2))&&true) <|
 some ((.tuple []),r7.2)
def QisPopS (cal:CB)(O:Oracle)(N:Nat)(v0:IV)(H:Heap):OH :=
 ob (lchk v0) fun t1 =>ob (lload1 H t1) fun t2 =>ob (llen H .slice t2) fun t3 =>ob (lbin .sub t3 (.int .i64 1)) fun t4 =>ob (lchk v0) fun t5 =>ob (lload1 H t5) fun t6 =>ob (lix 3 t6 t4) fun t7 =>ob (lloadn H 3 t7) fun t8 =>ob (lzbox H (.agg [(.int .i64 0),(.int .i64 0),(.int .i64 0)])) fun r9 =>ob (lstV r9.2 3 r9.1 t8) fun r10 =>ob (lchk v0) fun t11 =>ob (lload1 r10.2 t11) fun t12 =>ob (lslice r10.2 (.slice 3) t12 none (some t4) none) fun t13 =>ob (lchk v0) fun t14 =>ob (lstV r10.2 1 t14 t13) fun r15 =>ob (lloadn r15.2 3 r9.1) fun t16 =>ob (some (.iface 197 t16)) fun t17 =>some (t17,r15.2)
def cHpPushS (cal:CB)(O:Oracle)(N:Nat)(f0:FuncId)(v0 v1:IV)(H:Heap):OH :=
 ob (linvV O H [(120,(74,0)),(195,(355,0)),(287,(361,0))] v0 [v1]) fun r1 =>ob (linvV O r1.2 [(120,(108,0)),(127,(243,0)),(191,(149,0)),(195,(149,1)),(285,(187,0)),(287,(187,1)),(410,(365,0))] v0 []) fun r2 =>ob (lbin .sub r2.1 (.int .i64 1)) fun t3 =>ob (O f0 [v0,t3] r2.2) fun r4 =>some ((.tuple []),r4.2)
def cHpPopS (cal:CB)(O:Oracle)(N:Nat)(f0:FuncId)(v0:IV)(H:Heap):OH :=
 ob (linvV O H [(120,(108,0)),(127,(243,0)),(191,(149,0)),(195,(149,1)),(285,(187,0)),(287,(187,1)),(410,(365,0))] v0 []) fun r1 =>ob (lbin .sub r1.1 (.int .i64 1)) fun t2 =>ob (linvV O r1.2 [(191,(352,0)),(195,(352,1)),(285,(359,0)),(287,(359,1))] v0 [(.int .i64 0),t2]) fun r3 =>ob (O f0 [v0,(.int .i64 0),t2] r3.2) fun r4 =>ob (linvV O r4.2 [(120,(77,0)),(195,(354,0)),(287,(360,0))] v0 []) fun r5 =>some (r5.1,r5.2)
def X9K1 :LC:=.block 1 (.seq (.reg [ qM 5 1,qO 6 (.bin .sub (.t 5) (k6 1)),qO 7 (.bin .quo (.t 6) (k6 2)),qM 4 7]) (.seq (.seq (.reg [ qM 8 4,qM 9 1,qO 10 (.bin .eql (.t 8) (.t 9)),qM 11 10,⟨(some 12),(.mv (.t 0)),(some (11,false))⟩,⟨(some 13),(.mv (.t 1)),(some (11,false))⟩,⟨(some 14),(.mv (.t 4)),(some (11,false))⟩,⟨(some 15),(.inv [(191,(351,0)),(195,(351,1)),(285,(358,0)),(287,(358,1))] (.t 12) [(.t 13),(.t 14)]),(some (11,false))⟩,⟨(some 16),(.un .not (.t 15)),(some (11,false))⟩,qO 17 (.pick (.t 11) (.k (.bool true)) (.t 16))]) (.cond (.t 17) (.exit 0) .skip)) (.seq (.reg [ qM 18 0,qM 19 4,qM 20 1,qO 21 (.inv [(191,(352,0)),(195,(352,1)),(285,(359,0)),(287,(359,1))] (.t 18) [(.t 19),(.t 20)])]) (.reg [ qM 22 4,qM 1 22]))))
def cHpUpC0 :LC:=.loop X9K1
def cHpUpC1 :LC:=.block 0 cHpUpC0
def cHpUpC0S (cal:CB)(O:Oracle)(N:Nat)(gE0:Heap->OH):Nat->IV->IV->Heap->OH
 | 0,_,_,_=>none
 | n+1,v0,v1,H =>ob (lbin .sub v1 (.int .i64 1)) fun t1 =>ob (lbin .quo t1 (.int .i64 2)) fun t2 =>ob (lbin .eql t2 v1) fun t3 =>ob (gq (isB t3 false) (some v0)) fun t4 =>ob (gq (isB t3 false) (some v1)) fun t5 =>ob (gq (isB t3 false) (some t2)) fun t6 =>ob (ge (isB t3 false) H (linvV O H [(191,(351,0)),(195,(351,1)),(285,(358,0)),(287,(358,1))] t4 [t5,t6])) fun r7 =>ob (gq (isB t3 false) (iun .not r7.1)) fun t8 =>ob (lpick t3 (.bool true) t8) fun t9 =>cnd t9
  (gE0 r7.2)
  (ob (linvV O r7.2 [(191,(352,0)),(195,(352,1)),(285,(359,0)),(287,(359,1))] v0 [t2,v1]) fun r10 =>
   cHpUpC0S cal O N gE0 n v0 t2 r10.2)
theorem cHpUpC0Eq (cal:CB)(O:Oracle)(N:Nat){k:KT (IV×Heap)}(gE0:Heap->OH)(hgE0:∀E H,k (.exit 0) E H=gE0 H):∀(n:Nat) (E:Sg) (H:Heap),itK (lxK cal O N X9K1) n E H k=cHpUpC0S cal O N gE0 n (lk E 0) (lk E 1) H:=by
 have hk:k=(kE 0 (fun E H=>gE0 H) k):=(kE_mk hgE0 rfl);intro n
 induction n with
 | zero=>intro E H;rfl
 | succ n ih =>
  intro E H;rw[itK_succ,seqK_mk (g:=fun E H=>cHpUpC0S cal O N gE0 n (lk E 0) (lk E 1) H) ih,hk];kernel_rfl
def cHpUpC1S (cal:CB)(O:Oracle)(N:Nat)(gN:Heap->OH)(v0 v1:IV)(H:Heap):OH :=
  cHpUpC0S cal O N (fun H=>gN H) N v0 v1 H
theorem cHpUpC1Eq (cal:CB)(O:Oracle)(N:Nat){k:KT (IV×Heap)}(gN:Heap->OH)(hgN:∀E H,k .normal E H=gN H):∀(E:Sg) (H:Heap),lxK cal O N cHpUpC1 E H k=cHpUpC1S cal O N gN (lk E 0) (lk E 1) H:=by
 have hk:k=(kN (fun E H=>gN H) k):=(kN_mk hgN rfl);intro E H;rw[hk];show lxK cal O N cHpUpC0 E H (blockK 0 (kN (fun E H=>gN H) k))=_;exact(cHpUpC0Eq cal O N (k:=(blockK 0 (kN (fun E H=>gN H) k))) gN (fun _ _=>by kernel_rfl) N E H).trans (by kernel_rfl)
def cHpUp :LFun:=⟨cHpUpC1,[],23⟩
def cHpUpS (cal:CB)(O:Oracle)(N:Nat)(v0 v1:IV)(H:Heap):OH :=
  cHpUpC1S cal O N (fun H=>some ((.tuple []),H)) v0 v1 H
theorem cHpUpEq (cal:CB)(O:Oracle)(N:Nat)(v0 v1:IV)(H:Heap):lrunK cal O N (cHpUp) [v0,v1] H=cHpUpS cal O N v0 v1 H:=by
 show lxK cal O N cHpUpC1 (initFrom 0 [v0,v1]) H (endK [])=_;exact cHpUpC1Eq cal O N (k:=(endK [])) (fun H=>some ((.tuple []),H)) (fun _ _=>by kernel_rfl) (initFrom 0 [v0,v1]) H
def X9K0 :LC:=.block 1 (.seq (.reg [ qM 12 7,qO 13 (.bin .mul (k6 2) (.t 12)),qO 14 (.bin .add (.t 13) (k6 1)),qM 8 14]) (.seq (.seq (.reg [ qM 15 8,qM 16 2,qO 17 (.bin .geq (.t 15) (.t 16)),qM 18 17,⟨(some 19),(.mv (.t 8)),(some (18,false))⟩,⟨(some 20),(.bin .lss (.t 19) (k6 0)),(some (18,false))⟩,qO 21 (.pick (.t 18) (.k (.bool true)) (.t 20))]) (.cond (.t 21) (.exit 0) .skip)) (.seq (.reg [ qM 22 8,qM 9 22]) (.seq (.seq (.reg [ qM 23 8,qO 24 (.bin .add (.t 23) (k6 1)),qM 10 24]) (.seq (.reg [ qM 25 10,qM 26 2,qO 27 (.bin .lss (.t 25) (.t 26)),qM 28 27,⟨(some 29),(.mv (.t 0)),(some (28,true))⟩,⟨(some 30),(.mv (.t 10)),(some (28,true))⟩,⟨(some 31),(.mv (.t 8)),(some (28,true))⟩,⟨(some 32),(.inv [(191,(351,0)),(195,(351,1)),(285,(358,0)),(287,(358,1))] (.t 29) [(.t 30),(.t 31)]),(some (28,true))⟩,qO 33 (.pick (.t 28) (.t 32) (.k (.bool false)))]) (.cond (.t 33) (.reg [ qM 34 10,qM 9 34]) .skip))) (.seq (.seq (.reg [ qM 35 0,qM 36 9,qM 37 7,qO 38 (.inv [(191,(351,0)),(195,(351,1)),(285,(358,0)),(287,(358,1))] (.t 35) [(.t 36),(.t 37)]),qO 39 (.un .not (.t 38))]) (.cond (.t 39) (.exit 0) .skip)) (.seq (.reg [ qM 40 0,qM 41 7,qM 42 9,qO 43 (.inv [(191,(352,0)),(195,(352,1)),(285,(359,0)),(287,(359,1))] (.t 40) [(.t 41),(.t 42)])]) (.reg [ qM 44 9,qM 7 44])))))))
def cHpDownC0 :LC:=.loop X9K0
def cHpDownC1 :LC:=.block 0 cHpDownC0
def X9K2 :LC:=.seq (.reg [ qM 45 7,qM 46 1,qO 47 (.bin .gtr (.t 45) (.t 46)),qM 6 47]) .ret
def cHpDownC2 :LC:=.seq cHpDownC1 X9K2
def cHpDownC3 :LC:=.seq (.reg [ qM 11 1,qM 7 11]) cHpDownC2
def cHpDownC4 :LC:=.seq (.reg [ qO 6 (.mv (.k (.bool false)))]) cHpDownC3
def cHpDownC0S (cal:CB)(O:Oracle)(N:Nat)(gE0:IV->IV->Heap->OH):Nat->IV->IV->IV->IV->Heap->OH
 | 0,_,_,_,_,_=>none
 | n+1,v0,v1,v2,v7,H =>ob (lbin .mul (.int .i64 2) v7) fun t1 =>ob (lbin .add t1 (.int .i64 1)) fun t2 =>ob (lbin .geq t2 v2) fun t3 =>ob (gq (isB t3 false) (some t2)) fun t4 =>ob (gq (isB t3 false) (lbin .lss t4 (.int .i64 0))) fun t5 =>ob (lpick t3 (.bool true) t5) fun t6 =>cnd t6
  (gE0 v1 v7 H)
  (jn (fun(j8:IV) (H21:Heap) =>ob (linvV O H21 [(191,(351,0)),(195,(351,1)),(285,(358,0)),(287,(358,1))] v0 [j8,v7]) fun r22 =>ob (iun .not r22.1) fun t23 =>cnd t23
  (gE0 v1 v7 r22.2)
  (ob (linvV O r22.2 [(191,(352,0)),(195,(352,1)),(285,(359,0)),(287,(359,1))] v0 [v7,j8]) fun r24 =>
   cHpDownC0S cal O N gE0 n v0 v1 v2 j8 r24.2)) fun J7 =>ob (lbin .add t2 (.int .i64 1)) fun t25 =>ob (lbin .lss t25 v2) fun t26 =>ob (gq (isB t26 true) (some v0)) fun t27 =>ob (gq (isB t26 true) (some t25)) fun t28 =>ob (gq (isB t26 true) (some t2)) fun t29 =>ob (ge (isB t26 true) H (linvV O H [(191,(351,0)),(195,(351,1)),(285,(358,0)),(287,(358,1))] t27 [t28,t29])) fun r30 =>ob (lpick t26 r30.1 (.bool false)) fun t31 =>cnd t31
  (J7 t25 r30.2)
  (J7 t2 r30.2))
theorem cHpDownC0Eq (cal:CB)(O:Oracle)(N:Nat){k:KT (IV×Heap)}(gE0:IV->IV->Heap->OH)(hgE0:∀E H,k (.exit 0) E H=gE0 (lk E 1) (lk E 7) H):∀(n:Nat) (E:Sg) (H:Heap),itK (lxK cal O N X9K0) n E H k=cHpDownC0S cal O N gE0 n (lk E 0) (lk E 1) (lk E 2) (lk E 7) H:=by
 have hk:k=(kE 0 (fun E H=>gE0 (lk E 1) (lk E 7) H) k):=(kE_mk hgE0 rfl);intro n
 induction n with
 | zero=>intro E H;rfl
 | succ n ih =>
  intro E H;rw[itK_succ,seqK_mk (g:=fun E H=>cHpDownC0S cal O N gE0 n (lk E 0) (lk E 1) (lk E 2) (lk E 7) H) ih,hk];kernel_rfl
def cHpDownC1S (cal:CB)(O:Oracle)(N:Nat)(gN:IV->IV->Heap->OH)(v0 v1 v2 v7:IV)(H:Heap):OH :=
  cHpDownC0S cal O N (fun v1 v7 H=>gN v1 v7 H) N v0 v1 v2 v7 H
theorem cHpDownC1Eq (cal:CB)(O:Oracle)(N:Nat){k:KT (IV×Heap)}(gN:IV->IV->Heap->OH)(hgN:∀E H,k .normal E H=gN (lk E 1) (lk E 7) H):∀(E:Sg) (H:Heap),lxK cal O N cHpDownC1 E H k=cHpDownC1S cal O N gN (lk E 0) (lk E 1) (lk E 2) (lk E 7) H:=by
 have hk:k=(kN (fun E H=>gN (lk E 1) (lk E 7) H) k):=(kN_mk hgN rfl);intro E H;rw[hk];show lxK cal O N cHpDownC0 E H (blockK 0 (kN (fun E H=>gN (lk E 1) (lk E 7) H) k))=_;exact(cHpDownC0Eq cal O N (k:=(blockK 0 (kN (fun E H=>gN (lk E 1) (lk E 7) H) k))) gN (fun _ _=>by kernel_rfl) N E H).trans (by kernel_rfl)
def cHpDownC2S (cal:CB)(O:Oracle)(N:Nat)(v0 v1 v2 v7:IV)(H:Heap):OH :=
  cHpDownC1S cal O N (fun v1 v7 H=>ob (lbin .gtr v7 v1) fun t1 =>some (t1,H)) v0 v1 v2 v7 H
theorem cHpDownC2Eq (cal:CB)(O:Oracle)(N:Nat){k:KT (IV×Heap)}(hR:∀E H,k .ret E H=resK [(.tmp 6)] [] E H):∀(E:Sg) (H:Heap),lxK cal O N cHpDownC2 E H k=cHpDownC2S cal O N (lk E 0) (lk E 1) (lk E 2) (lk E 7) H:=by
 have hk:k=(kR (resK [(.tmp 6)] []) k):=(kR_mk hR rfl);intro E H;rw[hk];show lxK cal O N cHpDownC1 E H (seqK (lxK cal O N X9K2) (kR (resK [(.tmp 6)] []) k))=_;exact(cHpDownC1Eq cal O N (k:=(seqK (lxK cal O N X9K2) (kR (resK [(.tmp 6)] []) k))) (fun v1 v7 H=>ob (lbin .gtr v7 v1) fun t1 =>some (t1,H)) (fun _ _=>by kernel_rfl) E H).trans (by kernel_rfl)
def cHpDownC3S (cal:CB)(O:Oracle)(N:Nat)(v0 v1 v2:IV)(H:Heap):OH :=
  cHpDownC2S cal O N v0 v1 v2 v1 H
theorem cHpDownC3Eq (cal:CB)(O:Oracle)(N:Nat){k:KT (IV×Heap)}(hR:∀E H,k .ret E H=resK [(.tmp 6)] [] E H):∀(E:Sg) (H:Heap),lxK cal O N cHpDownC3 E H k=cHpDownC3S cal O N (lk E 0) (lk E 1) (lk E 2) H:=by
 have hk:k=(kR (resK [(.tmp 6)] []) k):=(kR_mk hR rfl);intro E H;rw[hk];show lxK cal O N (.reg [ qM 11 1,qM 7 11]) E H (seqK (lxK cal O N cHpDownC2) (kR (resK [(.tmp 6)] []) k))=_;rw[seqK_mk (g:=fun E H=>cHpDownC2S cal O N (lk E 0) (lk E 1) (lk E 2) (lk E 7) H) (cHpDownC2Eq cal O N (k:=(kR (resK [(.tmp 6)] []) k)) (fun _ _=>by kernel_rfl))];kernel_rfl
def cHpDownC4S (cal:CB)(O:Oracle)(N:Nat)(v0 v1 v2:IV)(H:Heap):OH :=
  cHpDownC3S cal O N v0 v1 v2 H
theorem cHpDownC4Eq (cal:CB)(O:Oracle)(N:Nat){k:KT (IV×Heap)}(hR:∀E H,k .ret E H=resK [(.tmp 6)] [] E H):∀(E:Sg) (H:Heap),lxK cal O N cHpDownC4 E H k=cHpDownC4S cal O N (lk E 0) (lk E 1) (lk E 2) H:=by
 have hk:k=(kR (resK [(.tmp 6)] []) k):=(kR_mk hR rfl);intro E H;rw[hk];show lxK cal O N (.reg [ qO 6 (.mv (.k (.bool false)))]) E H (seqK (lxK cal O N cHpDownC3) (kR (resK [(.tmp 6)] []) k))=_;rw[seqK_mk (g:=fun E H=>cHpDownC3S cal O N (lk E 0) (lk E 1) (lk E 2) H) (cHpDownC3Eq cal O N (k:=(kR (resK [(.tmp 6)] []) k)) (fun _ _=>by kernel_rfl))];kernel_rfl
def cHpDown :LFun:=⟨cHpDownC4,[(.tmp 6)],48⟩
def cHpDownS (cal:CB)(O:Oracle)(N:Nat)(v0 v1 v2:IV)(H:Heap):OH :=
  cHpDownC4S cal O N v0 v1 v2 H
theorem cHpDownEq (cal:CB)(O:Oracle)(N:Nat)(v0 v1 v2:IV)(H:Heap):lrunK cal O N (cHpDown) [v0,v1,v2] H=cHpDownS cal O N v0 v1 v2 H:=by
 show lxK cal O N cHpDownC4 (initFrom 0 [v0,v1,v2]) H (endK [(.tmp 6)])=_;exact cHpDownC4Eq cal O N (k:=(endK [(.tmp 6)])) (fun _ _=>by kernel_rfl) (initFrom 0 [v0,v1,v2]) H
def QqPopS (cal:CB)(O:Oracle)(N:Nat)(f0 f1:FuncId)(v0:IV)(H:Heap):OH :=
 ob (O f0 [v0] H) fun r1 =>ob (lbin .eql r1.1 (.int .i64 0)) fun t2 =>cnd t2
 (some ((.tuple [(.int .i64 0),(.int .i64 0),(.bool false)]),r1.2))
 (ob (lchk v0) fun t3 =>ob (loff t3 0) fun t4 =>ob (some (.iface 195 t4)) fun t5 =>ob (O f1 [t5] r1.2) fun r6 =>ob (lasrt 197 (.agg [(.int .i64 0),(.int .i64 0),(.int .i64 0)]) false r6.1) fun t7 =>ob (lzbox r6.2 (.agg [(.int .i64 0),(.int .i64 0),(.int .i64 0)])) fun r8 =>ob (lstV r8.2 3 r8.1 t7) fun r9 =>ob (loff r8.1 0) fun t10 =>ob (lload1 r9.2 t10) fun t11 =>ob (loff r8.1 1) fun t12 =>ob (lload1 r9.2 t12) fun t13 =>some ((.tuple [t11,t13,(.bool true)]),r9.2))
end Go.Shade.S
namespace Go.Shade.S
open Go.Shade
variable {H : Heap} {P : Nat -> Prop} {k : Int} {l : List It} {q : Nat} {x : It}
section
variable {cal : FuncId -> Bool} {O : Oracle} {N : Nat}
theorem up_go {P:Nat->Prop}{q:Nat}{k:Int}{H0:Heap}(hL:LessOk O 351)(hS:SwapOk O 352):∀(n j:Nat) (l:List It) (H:Heap),QOk P H q l k->j<l.length->l.length<=1000000->Frame P H0 H->j<n ->
  Wp (cHpUpC0S cal O N (fun H=>some ((.tuple []),H)) n (.iface 195 (.ptr q 0)) (.int .i64 (j:Nat)) H) fun r=>r.1=.tuple []/\QOk P r.2 q (upL n l j) k/\Frame P H0 r.2/\r.2[q]? =H[q]?
 | 0,j,l,H,_,_,_,_,hn=>by omega
 | n+1,j,l,H,hQ,hj,hb,hk,hn=>by
  rw[cHpUpC0S];by_cases h0:j=0
  ·subst h0;have e1:lbin .sub (.int .i64 ((0:Nat):Int)) (.int .i64 1)=some (.int .i64 (-1)):=rfl;have e2:lbin .quo (.int .i64 (-1)) (.int .i64 2)=some (.int .i64 0):=rfl;have e3:lbin .eql (.int .i64 0) (.int .i64 ((0:Nat):Int))=some (.bool true):=rfl;rw[e1,ob_some,e2,ob_some,e3,ob_some];simp only[isB_tf,gq_false,ge_false,ob_some,lpick_true,cnd_true];refine Wp.ret ⟨rfl,?_,hk,rfl⟩;unfold upL;rw[if_pos rfl];exact hQ
  ·have e1:lbin .sub (.int .i64 (j:Nat)) (.int .i64 1)=some (.int .i64 ((j:Int) - 1)):=by rw[lbin_sub,wrap_i64 (by omega) (by omega)]
   have e2:lbin .quo (.int .i64 ((j:Int) - 1)) (.int .i64 2)=some (.int .i64 (((j - 1) / 2:Nat):Int)):=by rw[lbin_quo (by decide),tdiv2 (by omega),wrap_i64 (by omega) (by omega)]
   have e3:lbin .eql (.int .i64 (((j - 1) / 2:Nat):Int)) (.int .i64 (j:Nat))=some (.bool false):=by rw[lbin_eql,decide_eq_false (by omega)]
   rw[e1,ob_some,e2,ob_some,e3,ob_some];simp only[isB_ff,gq_true,ge_true,ob_some];refine Wp.call (invLess rfl hL hQ hj (show(j - 1) / 2<l.length by omega)) ?_;rintro⟨v,H1⟩ ⟨g1,g2,g3⟩;simp only at g1 g2 g3 ⊢;subst g1;rw[iun_not,ob_some,lpick_false,ob_some]
   cases ha:aheadAt l j ((j - 1) / 2)with
   | false =>
    rw[Bool.not_false,cnd_true];have hq0:H1[q]? =H[q]? :=by obtain⟨_,_,sv,h3,_⟩:=id hQ;exact(g3.get (fun h=>h) h3).trans h3.symm
    refine Wp.ret ⟨rfl,?_,hk.tr g3.no,hq0⟩;unfold upL;rw[if_neg h0,ha];exact g2
   | true =>
    rw[Bool.not_true,cnd_false];refine Wp.call (invSwap rfl hS g2 (show(j - 1) / 2<l.length by omega) hj) ?_;have hq0:H1[q]? =H[q]? :=by obtain⟨_,_,sv,h3,_⟩:=id hQ;exact(g3.get (fun h=>h) h3).trans h3.symm
    rintro⟨v,H2⟩ ⟨_,k2,k3,k4,_⟩;simp only at k2 k3 k4 ⊢;refine(up_go hL hS n ((j - 1) / 2) _ H2 k2 (by rw[iswp_length];omega) (by rw[iswp_length];exact hb) ((hk.tr g3.no).tr k3) (by omega)).mono ?_;rintro⟨v,H3⟩ ⟨m1,m2,m3,m4⟩;refine⟨m1,?_,m3,m4.trans (k4.trans hq0)⟩;unfold upL;rw[if_neg h0,ha];exact m2
theorem up_s {j:Nat}(hL:LessOk O 351)(hS:SwapOk O 352)(hQ:QOk P H q l k)(hj:j<l.length)(hb:l.length<=1000000):Wp (cHpUpS cal O l.length (.iface 195 (.ptr q 0)) (.int .i64 (j:Nat)) H) fun r=>r.1=.tuple []/\QOk P r.2 q (upL l.length l j) k/\Frame P H r.2/\r.2[q]? =H[q]? :=by
 unfold cHpUpS cHpUpC1S;exact up_go hL hS l.length j l H hQ hj hb (Frame.refl _ _) hj
theorem down_go {P:Nat->Prop}{q:Nat}{k:Int}{H0:Heap}{i0:Nat}(hL:LessOk O 351)(hS:SwapOk O 352):∀(f i n:Nat) (l:List It) (H:Heap),QOk P H q l k->i<l.length->n<=l.length->l.length<=1000000->Frame P H0 H->n<=i+f->0<f ->
  Wp (cHpDownC0S cal O N (fun v1 v7 H=>ob (lbin .gtr v7 v1) fun t1=>some (t1,H)) f (.iface 195 (.ptr q 0)) (.int .i64 (i0:Nat)) (.int .i64 (n:Nat)) (.int .i64 (i:Nat)) H) fun r=>(∃b,r.1=.bool b)/\QOk P r.2 q (dnL f l i n) k/\Frame P H0 r.2/\∀b ex rest,QX H q b ex rest l k->QX r.2 q b ex rest (dnL f l i n) k
 | 0,i,n,l,H,_,_,_,_,_,hn,h0=>by omega
 | f+1,i,n,l,H,hQ,hi,hl,hb,hk,hn,h0=>by
  rw[cHpDownC0S];have e1:lbin .mul (.int .i64 2) (.int .i64 (i:Nat))=some (.int .i64 ((2*i:Nat):Int)):=by rw[lbin_mul,wrap_i64 (by omega) (by omega)];congr 2
  have e2:lbin .add (.int .i64 ((2*i:Nat):Int)) (.int .i64 1)=some (.int .i64 ((2*i+1:Nat):Int)):=by rw[lbin_add,wrap_i64 (by omega) (by omega)];congr 2
  rw[e1,ob_some,e2,ob_some,lbin_geq,ob_some];by_cases h1:n<=2*i+1
  ·rw[decide_eq_true (by omega)];simp only[isB_tf,gq_false,ge_false,ob_some,lpick_true,cnd_true];rw[lbin_gtr,ob_some];refine Wp.ret ⟨⟨_,rfl⟩,?_,hk,fun b ex rest hx=> ?_⟩
   ·unfold dnL;rw[if_pos h1];exact hQ
   ·unfold dnL;rw[if_pos h1];exact hx
  ·rw[decide_eq_false (by omega)];have e3:lbin .lss (.int .i64 ((2*i+1:Nat):Int)) (.int .i64 0)=some (.bool false):=by rw[lbin_lss,decide_eq_false (by omega)]
   simp only[isB_ff,gq_true,ob_some,e3,lpick_false,cnd_false,jn_eq];have e4:lbin .add (.int .i64 ((2*i+1:Nat):Int)) (.int .i64 1)=some (.int .i64 ((2*i+2:Nat):Int)):=by rw[lbin_add,wrap_i64 (by omega) (by omega)];congr 2
   rw[e4,ob_some,lbin_lss,ob_some];have fin:∀(H1:Heap),QOk P H1 q l k->Frame P H0 H1->Frame NoF H H1->Wp (ob (linvV O H1 [(191,(351,0)),(195,(351,1)),(285,(358,0)),(287,(358,1))] (.iface 195 (.ptr q 0)) [.int .i64 (dnJ l i n:Nat),.int .i64 (i:Nat)]) fun r22 =>
     ob (iun .not r22.1) fun t23 =>
     cnd t23
     (ob (lbin .gtr (.int .i64 (i:Nat)) (.int .i64 (i0:Nat))) fun t1=>some (t1,r22.2))
     (ob (linvV O r22.2 [(191,(352,0)),(195,(352,1)),(285,(359,0)),(287,(359,1))] (.iface 195 (.ptr q 0)) [.int .i64 (i:Nat),.int .i64 (dnJ l i n:Nat)]) fun r24 =>
     cHpDownC0S cal O N (fun v1 v7 H=>ob (lbin .gtr v7 v1) fun t1=>some (t1,H)) f (.iface 195 (.ptr q 0)) (.int .i64 (i0:Nat)) (.int .i64 (n:Nat)) (.int .i64 (dnJ l i n:Nat)) r24.2)) fun r=>(∃b,r.1=.bool b)/\QOk P r.2 q (dnL (f+1) l i n) k/\Frame P H0 r.2/\∀b ex rest,QX H q b ex rest l k->QX r.2 q b ex rest (dnL (f+1) l i n) k:=by
    intro H1 q1 k1 kn;have hJ:=dnJ_lt (l:=l) (show 2*i+1<n by omega);refine Wp.call (invLess rfl hL q1 (show dnJ l i n<l.length by omega) hi) ?_;rintro⟨v,H2⟩ ⟨g1,g2,g3⟩;simp only at g1 g2 g3 ⊢;subst g1;rw[iun_not,ob_some]
    cases ha:aheadAt l (dnJ l i n) i with
    | false =>
     rw[Bool.not_false,cnd_true,lbin_gtr,ob_some];refine Wp.ret ⟨⟨_,rfl⟩,?_,k1.tr g3.no,fun b ex rest hx=> ?_⟩
     ·unfold dnL;rw[if_neg h1,ha];exact g2
     ·unfold dnL;rw[if_neg h1,ha];exact hx.frame (kn.tr g3)
    | true =>
     rw[Bool.not_true,cnd_false];refine Wp.call (invSwap rfl hS g2 hi (show dnJ l i n<l.length by omega)) ?_;rintro⟨v,H3⟩ ⟨_,k2,k3,_,k5⟩;simp only at k2 k3 k5 ⊢;refine(down_go hL hS f (dnJ l i n) n _ H3 k2 (by rw[iswp_length];omega) (by rw[iswp_length];exact hl) (by rw[iswp_length];exact hb) ((k1.tr g3.no).tr k3) (by omega) (by omega)).mono ?_;rintro⟨v,H4⟩ ⟨m1,m2,m3,m4⟩;refine⟨m1,?_,m3,fun b ex rest hx=> ?_⟩
     ·unfold dnL;rw[if_neg h1,ha];exact m2
     ·unfold dnL;rw[if_neg h1,ha];exact m4 b ex rest (k5 b ex rest (hx.frame (kn.tr g3)))
   by_cases h2:2*i+2<n
   ·rw[decide_eq_true (by omega)];simp only[isB_tt,gq_true,ge_true,ob_some];refine Wp.call (invLess rfl hL hQ (show 2*i+2<l.length by omega) (show 2*i+1<l.length by omega)) ?_;rintro⟨v,H1⟩ ⟨g1,g2,g3⟩;simp only at g1 g2 g3 ⊢;subst g1;rw[lpick_true,ob_some]
    cases ha:aheadAt l (2*i+2) (2*i+1)with
    | true =>
     rw[cnd_true];have hJ:dnJ l i n=2*i+2:=by unfold dnJ;rw[if_pos ⟨h2,ha⟩]
     rw[←hJ];exact fin H1 g2 (hk.tr g3.no) g3
    | false =>
     rw[cnd_false];have hJ:dnJ l i n=2*i+1:=by unfold dnJ;rw[if_neg (by rw[ha];simp)]
     rw[←hJ];exact fin H1 g2 (hk.tr g3.no) g3
   ·rw[decide_eq_false (by omega)];simp only[isB_ft,gq_false,ge_false,ob_some,lpick_false,cnd_false];have hJ:dnJ l i n=2*i+1:=by unfold dnJ;rw[if_neg (by omega)]
    rw[←hJ];exact fin H hQ hk (Frame.refl _ _)
theorem down_s {i n:Nat}(hL:LessOk O 351)(hS:SwapOk O 352)(hQ:QOk P H q l k)(hl:n<=l.length)(hi:i<l.length)(hb:l.length<=1000000):Wp (cHpDownS cal O (l.length+1) (.iface 195 (.ptr q 0)) (.int .i64 (i:Nat)) (.int .i64 (n:Nat)) H) fun r=>(∃b,r.1=.bool b)/\QOk P r.2 q (dnL (l.length+1) l i n) k/\Frame P H r.2/\∀b ex rest,QX H q b ex rest l k->QX r.2 q b ex rest (dnL (l.length+1) l i n) k:=by
 unfold cHpDownS cHpDownC4S cHpDownC3S cHpDownC2S cHpDownC1S;exact down_go hL hS (l.length+1) i n l H hQ hi hl hb (Frame.refl _ _) (by omega) (by omega)
theorem ipush_s (hQ:QOk P H q l k)(hb:l.length<=1000000):Wp (QisPushS cal O N (.ptr q 0) (.iface 197 (.agg x.c)) H) fun r=>r.1=.tuple []/\Frame P H r.2/\(TQ H q->TQ r.2 q)/\∃P',QOk P' r.2 q (l++[x]) k/\∀i,P' i->P i∨H.length<=i:=by
 obtain⟨h1,h2,sv,h3,h4⟩:=id hQ;unfold QisPushS;have e1:lload1 H (.ptr q 0)=some sv:=ld1 h3;have e2:lasrt 197 (.agg [(.int .i64 0),(.int .i64 0),(.int .i64 0)]) false (.iface 197 (.agg x.c))=some (.agg x.c):=rfl;have e3:lbldS H 3 1 [(.int .i64 0),(.int .i64 0),(.int .i64 0)] [(0,.agg x.c)]=some (.slice H.length 0 1 1 true 3,H++[.row x.c false]):=rfl;rw[lchk_ptr,ob_some,e1,ob_some,e2,ob_some,e3,ob_some];simp only;have k1:Frame NoF H (H++[IObj.row x.c false]):=Frame.push _ _ _;have r1:(H++[IObj.row x.c false])[H.length]? =some (.row x.c false):=newRow;have l1:(H++[IObj.row x.c false]).length=H.length+1:=by simp
 generalize H++[IObj.row x.c false]=K at *;have q1:=k1.get (fun h=>h) h3;have e4:lload1 K (.ptr q 0)=some sv:=ld1 q1;refine Wp.call (app_item (x:=x) (h4.frame k1 fun _ _ h=>h) (fun i hi=>by have:=h2 i hi.1;omega) rfl (by simp[lxcells,lsl,irow,r1,It.c_length];rfl) hb) ?_;rintro⟨w,K2⟩ ⟨g1,g2,gt⟩;simp only at g1 g2 gt ⊢;have q2:=g1.get (fun h=>h.2 rfl) q1;have lq:=(ges q2).1;rw[ob_some,st1 q2 g2.one (by simp),ob_some,e4];simp only[ivo_refl,Bool.not_true,Bool.not_false,Bool.false_or,Bool.and_self,ckd_true];refine Wp.ret ⟨rfl,?_,fun ht=>⟨w,k,by rw[setAt q2];rfl,gt (by obtain⟨sv2,k2,e,t⟩:=ht;rw[h3]at e;cases e;exact t)⟩,fun i=>P i∨(H.length<=i/\i<K2.length),⟨.inl h1,fun i hi=> ?_,w,?_,?_⟩,fun i hi=>hi.imp (fun h=>h) fun h=>h.1⟩
 ·exact((k1.no).tr (g1.mono fun i hi=>hi.1)).tr (Frame.set _ _ h1)
 ·rcases hi with h | h
  ·have:=h2 i h;have:=g1.1;simp;omega
  ·simpa using h.2
 ·rw[setAt q2];rfl
 ·refine(g2.frame (Frame.set (F:=fun i=>i=q) K2 _ rfl) ?_).mono ?_
  ·intro i hi e;rcases hi with h | h
   ·exact h.2 e
   ·have:=h2 q h1;omega
  ·intro i hi;rcases hi with h | h
   ·exact⟨.inl h.1,h.2⟩
   ·exact⟨.inr ⟨by omega,h.2⟩,by have:=h2 q h1;omega⟩
theorem hpush_s {fu:FuncId}(hI:IPushOk O 197 355)(hL:ILenOk O 149)(hU:UpOk O 195 fu)(hQ:QOk P H q l k)(hb:l.length<1000000):Wp (cHpPushS cal O N fu (.iface 195 (.ptr q 0)) (.iface 197 (.agg x.c)) H) fun r=>r.1=.tuple []/\Frame P H r.2/\(TQ H q->TQ r.2 q)/\∃P',QOk P' r.2 q (upL (l.length+1) (l++[x]) l.length) k/\∀i,P' i->P i∨H.length<=i:=by
 unfold cHpPushS;rw[linv0 (f:=355) rfl];refine Wp.call (hI P H q l k x hQ (by omega)) ?_;rintro⟨v,H1⟩ ⟨_,g2,gt,P',g3,g4⟩;simp only at g2 g3 gt ⊢;rw[invLen (f:=149) rfl hL g3,ob_some];have e1:lbin .sub (.int .i64 ((l++[x]).length:Nat)) (.int .i64 1)=some (.int .i64 (l.length:Nat)):=by rw[lbin_sub,wrap_i64 (by rw[List.length_append,List.length_singleton];omega) (by rw[List.length_append,List.length_singleton];omega)];simp
 simp only;rw[e1,ob_some];refine Wp.call (hU P' H1 q (l++[x]) k l.length g3 (by simp) (by simp;omega)) ?_;rintro⟨v,H2⟩ ⟨_,m2,m3,m4⟩;simp only at m2 m3 m4 ⊢;refine Wp.ret ⟨rfl,g2.trans m3 fun i hi hp=>by rcases g4 i hp with h | h;exact h;omega,fun ht=>by obtain⟨sv,k',e,t⟩:=gt ht;exact⟨sv,k',m4.trans e,t⟩,P',by simpa using m2,g4⟩
theorem qpush_s {fh:FuncId}(hH:HPushOk O 195 197 fh){key n:Int}(hQ:QOk P H q l k)(hb:l.length<1000000):Wp (QqPushS cal O N fh (.ptr q 0) (.int .i64 key) (.int .i64 n) H) fun r=>r.1=.tuple []/\Frame P H r.2/\(TQ H q->TQ r.2 q)/\∃P',QOk P' r.2 q (upL (l.length+1) (l++[⟨key,n,k⟩]) l.length) (IntKind.wrap .i64 (k+1))/\∀i,P' i->P i∨H.length<=i:=by
 obtain⟨h1,h2,sv,h3,h4⟩:=id hQ;unfold QqPushS;have e1:lload1 H (.ptr q 1)=some (.int .i64 k):=ld1 h3;have e2:lbld [(.int .i64 0),(.int .i64 0),(.int .i64 0)] [(0,1,.int .i64 key),(1,1,.int .i64 n),(2,1,.int .i64 k)]=some (.agg (It.mk key n k).c):=rfl;simp only[lchk_ptr,loff_ptr,ob_some,Nat.zero_add,e1,e2];refine Wp.call (hH P H q l k ⟨key,n,k⟩ hQ hb) ?_;rintro⟨v,H1⟩ ⟨_,g2,gt,P',g3,g4⟩;obtain⟨a1,a2,sv',a3,a4⟩:=id g3;have e3:lload1 H1 (.ptr q 1)=some (.int .i64 k):=ld1 a3;simp only[e3,ob_some,lbin_add];rw[st1 a3 (by simp only[one_int]) (by simp),ob_some];refine Wp.ret ⟨rfl,g2.tr (Frame.set _ _ h1),fun ht=>⟨sv',_,by rw[setAt a3];rfl,by obtain⟨sv2,k2,e,t⟩:=gt ht;rw[a3]at e;cases e;exact t⟩,P',⟨a1,fun i hi=>by simpa using a2 i hi,sv',?_,?_⟩,g4⟩
 ·rw[setAt a3];rfl
 ·exact a4.frame (Frame.set (F:=fun i=>i=q) H1 _ rfl) fun i hi e=>hi.2 e
theorem ipop_s (hQ:QOk P H q (l++[x]) k)(hb:l.length<1000000):Wp (QisPopS cal O N (.ptr q 0) H) fun r=>r.1=.iface 197 (.agg x.c)/\Frame P H r.2/\QOk P r.2 q l k/\∀b ex rest,QX H q b ex rest (l++[x]) k->QX r.2 q b ex (x::rest) l k:=by
 obtain⟨h1,h2,sv,h3,h4⟩:=id hQ;unfold QisPopS;have e1:lload1 H (.ptr q 0)=some sv:=ld1 h3;have e2:lbin .sub (.int .i64 ((l++[x]).length:Nat)) (.int .i64 1)=some (.int .i64 (l.length:Nat)):=by rw[lbin_sub,wrap_i64 (by rw[List.length_append,List.length_singleton];omega) (by rw[List.length_append,List.length_singleton];omega)];simp
 obtain⟨r,rest,ex,rfl,c1,c2,c3,c4⟩:=h4.at (i:=l.length) (x:=x) (by simp);rw[lchk_ptr,ob_some,e1,ob_some,h4.len,ob_some,e2,ob_some,ob_some,e1,ob_some,c3,ob_some,c4,ob_some,lzbox_eq,ob_some];simp only[cells_agg];have k1:Frame NoF H (H++[IObj.row [(.int .i64 0),(.int .i64 0),(.int .i64 0)] false]):=Frame.push _ _ _;rw[stn (n:=3) newRow x.c_one rfl rfl,ob_some,setRow];simp only;have k2:Frame NoF H (H++[IObj.row x.c false]):=Frame.push _ _ _;have r2:(H++[IObj.row x.c false])[H.length]? =some (.row x.c false):=newRow;generalize H++[IObj.row x.c false]=K at *;have q2:=k2.get (fun h=>h) h3;have e3:lload1 K (.ptr q 0)=some _:=ld1 q2;rw[ob_some,e3,ob_some];have lq:=h2 q h1;have e4:lslice K (.slice 3) (.slice r 0 (l++[x]).length ((l++[x]).length+rest.length) ex 3) none (some (.int .i64 (l.length:Nat))) none=some (.slice r 0 l.length (l.length+(x::rest).length) ex 3):=by
  simp only[lslice,bnd];rw[if_pos (by omega)];simp only[Option.bind_some,Int.toNat_natCast];rw[if_neg (by simp),if_pos (by simp;omega)];simp;omega
 rw[e4,ob_some,ob_some,st1 q2 rfl (by simp),ob_some];have r3:(K.set q (.row ([.slice r 0 (l++[x]).length ((l++[x]).length+rest.length) ex 3,.int .i64 k].set 0 (.slice r 0 l.length (l.length+(x::rest).length) ex 3)) false))[H.length]? =some (.row x.c false):=by
  rw[List.getElem?_set_ne (by omega)];exact r2
 rw[ldn (n:=3) r3 rfl,ob_some,ob_some];refine Wp.ret ⟨rfl,k2.no.tr (Frame.set _ _ h1),⟨h1,fun i hi=>by have:=h2 i hi;have:=k2.1;simp;omega,_,setAt q2,.inr ⟨r,x::rest,ex,rfl,c1,?_⟩⟩,fun b ex' rest' hx=> ?_⟩
 ·rw[List.getElem?_set_ne (fun e=>c1.2 e.symm)];have:=k2.get (fun h=>h) c2;rw[this];simp
 ·have e1:=hx.hd;rw[h3]at e1;injection e1 with e1;injection e1 with e1 _;injection e1 with e1 _;injection e1 with e1 _ _ e2 e3 _
  subst e1 e3;have e4:=hx.row;rw[c2]at e4;injection e4 with e4;injection e4 with e4 _
  have:=List.append_cancel_left (itcs_inj e4);subst this;refine⟨setAt q2,?_,hx.ne⟩;rw[List.getElem?_set_ne (fun e=>hx.ne e.symm),k2.get (fun h=>h) hx.row];simp
theorem hpop_s {fd:FuncId}(hI:IPopOk O 197 354)(hL:ILenOk O 149)(hS:SwapOk O 352)(hD:DownOk O 195 fd)(hQ:QOk P H q l k)(hne:l≠ [])(hb:l.length<=1000000):Wp (cHpPopS cal O N fd (.iface 195 (.ptr q 0)) H) fun r=>Frame P H r.2/\∃x,popL l=(popL l).dropLast++[x]/\r.1=.iface 197 (.agg x.c)/\QOk P r.2 q (popL l).dropLast k/\∀b ex rest,QX H q b ex rest l k->QX r.2 q b ex (x::rest) (popL l).dropLast k:=by
 have hpos:0<l.length:=List.length_pos_iff.2 hne;unfold cHpPopS;rw[invLen (f:=149) rfl hL hQ,ob_some];have e1:lbin .sub (.int .i64 (l.length:Nat)) (.int .i64 1)=some (.int .i64 ((l.length - 1:Nat):Int)):=by rw[lbin_sub,wrap_i64 (by omega) (by omega)];congr 2;omega
 simp only;rw[e1,ob_some];refine Wp.call (invSwap (f:=352) (i:=0) rfl hS hQ hpos (show l.length - 1<l.length by omega)) ?_;rintro⟨v,H1⟩ ⟨_,g2,g3,_,g5⟩;simp only at g2 g3 g5 ⊢;refine Wp.call (hD P H1 q _ k 0 (l.length - 1) g2 (by rw[iswp_length];omega) (by rw[iswp_length];omega) (by rw[iswp_length];exact hb)) ?_;rintro⟨v,H2⟩ ⟨_,m2,m3,m5⟩;simp only at m2 m3 m5 ⊢;rw[iswp_length]at m2 m5;rw[linv0 (f:=354) rfl];obtain⟨x,hx⟩:=popL_split hne;have m4:QOk P H2 q ((popL l).dropLast++[x]) k:=by rw[←hx];exact m2
 refine Wp.call (hI P H2 q _ k x m4 (by rw[List.length_dropLast,popL_length];omega)) ?_;rintro⟨v,H3⟩ ⟨n1,n2,n3,n5⟩;simp only at n1 n2 n3 n5 ⊢;subst n1;exact Wp.ret ⟨(g3.tr m3).tr n2,x,hx,rfl,n3,fun b ex rest hq=>n5 b ex rest (by rw[←hx];exact m5 b ex rest (g5 b ex rest hq))⟩
theorem qpop_s {fl fh:FuncId}(hL:QLenOk O fl)(hH:HPopOk O 195 197 fh)(hQ:QOk P H q l k)(hb:l.length<=1000000):Wp (QqPopS cal O N fl fh (.ptr q 0) H) (QPopP P H q l k):=by
 unfold QqPopS;rw[hL P H q l k hQ,ob_some];simp only;rw[lbin_eql,ob_some];by_cases hne:l=[]
 ·subst hne;rw[decide_eq_true (by simp),cnd_true];exact Wp.ret ⟨Frame.refl _ _,.inl ⟨rfl,rfl,hQ⟩⟩
 ·have hpos:0<l.length:=List.length_pos_iff.2 hne;rw[decide_eq_false (by omega),cnd_false,lchk_ptr,ob_some,loff_ptr,ob_some,ob_some];refine Wp.call (hH P H q l k hQ hne hb) ?_;rintro⟨v,H1⟩ ⟨g1,x,g2,g3,g4,g5⟩;simp only at g1 g3 g4 g5 ⊢;subst g3;have e2:lasrt 197 (.agg [(.int .i64 0),(.int .i64 0),(.int .i64 0)]) false (.iface 197 (.agg x.c))=some (.agg x.c):=rfl;rw[e2,ob_some,lzbox_eq,ob_some];simp only[cells_agg];rw[stn (n:=3) newRow x.c_one rfl rfl,ob_some,setRow];simp only;have k2:Frame NoF H1 (H1++[IObj.row x.c false]):=Frame.push _ _ _;have r2:(H1++[IObj.row x.c false])[H1.length]? =some (.row x.c false):=newRow;have e3:lload1 (H1++[IObj.row x.c false]) (.ptr H1.length 0)=some (.int .i64 x.key):=ld1 r2;have e4:lload1 (H1++[IObj.row x.c false]) (.ptr H1.length 1)=some (.int .i64 x.n):=ld1 r2;simp only[loff_ptr,ob_some,Nat.zero_add,e3,e4];exact Wp.ret ⟨g1.tr k2.no,.inr ⟨x,g2,rfl,g4.frame k2 fun _ _ h=>h,fun b ex rest hq=>(g5 b ex rest hq).frame k2⟩⟩
end
end Go.Shade.S
