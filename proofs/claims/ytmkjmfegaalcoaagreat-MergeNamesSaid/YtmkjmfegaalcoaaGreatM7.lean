/- The law MergeNames, part 7. -/
import Derived.Test.YtmkjmfegaalcoaaGreatM2
import Derived.Test.YtmkjmfegaalcoaaGreatM3
import Derived.KernelRfl
import Derived.Test.YtmkjmfegaalcoaaGreatM5
import Derived.Test.YtmkjmfegaalcoaaGreatM4
import Derived.Test.YtmkjmfegaalcoaaGreatM6
set_option linter.all false
namespace Go.Shade
def sCloS (cal:CB)(O:Oracle)(N:Nat)(v0:IV)(H:Heap):OH :=
 ob (leqv false (leq .slice v0 .nilSlice)) fun t1 =>cnd t1
 (some (.nilSlice,H))
 (ob (lbldS H 2 0 [(.str []),(.int .i64 0)] []) fun r2 =>ob (lapp r2.2 2 24 r2.1 v0) fun r3 =>some (r3.1,r3.2))
def DdAllS (cal:CB)(O:Oracle)(N:Nat)(f0:FuncId)(v0:IV)(H:Heap):OH :=
 ob (lchk v0) fun t1 =>ob (loff t1 0) fun t2 =>ob (lload1 H t2) fun t3 =>ob (O f0 [t3] H) fun r4 =>some (r4.1,r4.2)
def BbAllS (cal:CB)(O:Oracle)(N:Nat)(f0 f1:FuncId)(v0 v1:IV)(H:Heap):OH :=
 ob (O f0 [v0,v1] H) fun r1 =>ob (iextract r1.1 0) fun t2 =>ob (iextract r1.1 1) fun t3 =>ob (lbin .neq t3 (.int .i64 0)) fun t4 =>cnd t4
 (some ((.tuple [.nilSlice,t3]),r1.2))
 (ob (lchk t2) fun t5 =>ob (loff t5 6) fun t6 =>ob (lload1 r1.2 t6) fun t7 =>ob (O f1 [t7] r1.2) fun r8 =>some ((.tuple [r8.1,(.int .i64 0)]),r8.2))
def sGroS (cal:CB)(O:Oracle)(N:Nat)(v0 v1:IV)(H:Heap):OH :=
 jn (jn (fun(j6:IV) (H23:Heap) =>some (j6,H23)) fun J5 =>ob (lcapV H v0) fun r24 =>ob (llen r24.2 .slice v0) fun t25 =>ob (lbin .sub r24.1 t25) fun t26 =>ob (lbin .sub v1 t26) fun t27 =>ob (lbin .gtr t27 (.int .i64 0)) fun t28 =>cnd t28
 (ob (lcapV r24.2 v0) fun r29 =>ob (lslice r29.2 (.slice 2) v0 none (some r29.1) none) fun t30 =>ob (lappzV r29.2 2 24 [(.str []),(.int .i64 0)] t30 t27) fun r31 =>ob (llen r31.2 .slice v0) fun t32 =>ob (lslice r31.2 (.slice 2) r31.1 none (some t32) none) fun t33 =>J5 t33 r31.2)
 (J5 v0 r24.2)) fun J1 =>ob (lbin .lss v1 (.int .i64 0)) fun t34 =>cnd t34
  (none)
 (J1)
def X0K1 :LC:=.seq (.reg [ qO 12 (.bin .lss (.t 11) (.t 10))]) (.seq (.cond (.t 12) .skip (.exit 0)) (.seq (.block 1 (.seq (.reg [ qO 13 (.ix 1 (.t 9) (.t 11)),qO 14 (.ld1 (.t 13)),qM 5 14]) (.seq (.reg [ qM 15 3,qM 16 5,qO 17 (.len .slice (.t 16)),qO 18 (.bin .add (.t 15) (.t 17)),qM 3 18]) (.seq (.reg [ qM 19 3,qO 20 (.bin .lss (.t 19) (k6 0))]) (.cond (.t 20) (.reg [ qO 21 (.mkI 9 (.k (.str [108,101,110,32,111,117,116,32,111,102,32,114,97,110,103,101]))),⟨none,.bad,none⟩]) .skip))))) (.reg [ qO 22 (.bin .add (.t 11) (k6 1)),qM 11 22])))
def sCcvC0 (f0:FuncId):LC:=.loop X0K1
def sCcvC1 (f0:FuncId):LC:=.block 0 (sCcvC0 f0)
def X0K13 :LC:=.reg [ qM 9 0,qO 10 (.len .slice (.t 9)),qO 11 (.mv (k6 0))]
def sCcvC2 (f0:FuncId):LC:=.seq X0K13 (sCcvC1 f0)
def X0K2 :LC:=.seq (.reg [ qO 28 (.bin .lss (.t 27) (.t 26))]) (.seq (.cond (.t 28) .skip (.exit 2)) (.seq (.block 3 (.seq (.reg [ qO 29 (.ix 1 (.t 25) (.t 27)),qO 30 (.ld1 (.t 29)),qM 8 30]) (.reg [ qM 31 6,qM 32 8,qO 33 (.app 2 24 (.t 31) (.t 32)),qM 6 33]))) (.reg [ qO 34 (.bin .add (.t 27) (k6 1)),qM 27 34])))
def sCcvC3 (f0:FuncId):LC:=.loop X0K2
def sCcvC4 (f0:FuncId):LC:=.block 2 (sCcvC3 f0)
def X0K12 :LC:=.reg [ qM 25 0,qO 26 (.len .slice (.t 25)),qO 27 (.mv (k6 0))]
def sCcvC5 (f0:FuncId):LC:=.seq X0K12 (sCcvC4 f0)
def sCcvC6 (f0:FuncId):LC:=.seq (sCcvC5 f0) (.seq (.reg [ qM 35 6,qM 2 35]) .ret)
def X0K9 (f0:FuncId):LC:=.reg [ qM 23 3,qO 24 (.callF f0 [(.k .nilSlice),(.t 23)]),qM 6 24]
def sCcvC7 (f0:FuncId):LC:=.seq (X0K9 f0) (sCcvC6 f0)
def sCcvC8 (f0:FuncId):LC:=.seq (sCcvC2 f0) (sCcvC7 f0)
def sCcvC9 (f0:FuncId):LC:=.seq (.reg [ qO 3 (.mv (k6 0))]) (sCcvC8 f0)
def sCcvC10 (f0:FuncId):LC:=.seq (.reg [ qO 2 (.mv (.k .nilSlice))]) (sCcvC9 f0)
def sCcvC3S (cal:CB)(O:Oracle)(N:Nat)(f0:FuncId)(gE2:IV->Heap->OH):Nat->IV->IV->IV->IV->Heap->OH
 | 0,_,_,_,_,_=>none
 | n+1,v6,v25,v26,v27,H =>ob (lbin .lss v27 v26) fun t1 =>cnd t1
  (ob (lix 1 v25 v27) fun t2 =>ob (lload1 H t2) fun t3 =>ob (lapp H 2 24 v6 t3) fun r4 =>ob (lbin .add v27 (.int .i64 1)) fun t5 =>
   sCcvC3S cal O N f0 gE2 n r4.1 v25 v26 t5 r4.2)
  (gE2 v6 H)
theorem sCcvC3Eq (cal:CB)(O:Oracle)(N:Nat)(f0:FuncId){k:KT (IV×Heap)}(gE2:IV->Heap->OH)(hgE2:∀E H,k (.exit 2) E H=gE2 (lk E 6) H):∀(n:Nat) (E:Sg) (H:Heap),itK (lxK cal O N X0K2) n E H k=sCcvC3S cal O N f0 gE2 n (lk E 6) (lk E 25) (lk E 26) (lk E 27) H:=by
 have hk:k=(kE 2 (fun E H=>gE2 (lk E 6) H) k):=(kE_mk hgE2 rfl);intro n
 induction n with
 | zero=>intro E H;rfl
 | succ n ih =>
  intro E H;rw[itK_succ,seqK_mk (g:=fun E H=>sCcvC3S cal O N f0 gE2 n (lk E 6) (lk E 25) (lk E 26) (lk E 27) H) ih,hk];kernel_rfl
def sCcvC4S (cal:CB)(O:Oracle)(N:Nat)(f0:FuncId)(gN:IV->Heap->OH)(v6 v25 v26 v27:IV)(H:Heap):OH :=
  sCcvC3S cal O N f0 (fun v6 H=>gN v6 H) N v6 v25 v26 v27 H
theorem sCcvC4Eq (cal:CB)(O:Oracle)(N:Nat)(f0:FuncId){k:KT (IV×Heap)}(gN:IV->Heap->OH)(hgN:∀E H,k .normal E H=gN (lk E 6) H):∀(E:Sg) (H:Heap),lxK cal O N (sCcvC4 f0) E H k=sCcvC4S cal O N f0 gN (lk E 6) (lk E 25) (lk E 26) (lk E 27) H:=by
 have hk:k=(kN (fun E H=>gN (lk E 6) H) k):=(kN_mk hgN rfl);intro E H;rw[hk];show lxK cal O N (sCcvC3 f0) E H (blockK 2 (kN (fun E H=>gN (lk E 6) H) k))=_;exact(sCcvC3Eq cal O N f0 (k:=(blockK 2 (kN (fun E H=>gN (lk E 6) H) k))) gN (fun _ _=>by kernel_rfl) N E H).trans (by kernel_rfl)
def sCcvC5S (cal:CB)(O:Oracle)(N:Nat)(f0:FuncId)(gN:IV->Heap->OH)(v0 v6:IV)(H:Heap):OH :=
 ob (llen H .slice v0) fun t1 =>
  sCcvC4S cal O N f0 (fun v6 H=>gN v6 H) v6 v0 t1 (.int .i64 0) H
theorem sCcvC5Eq (cal:CB)(O:Oracle)(N:Nat)(f0:FuncId){k:KT (IV×Heap)}(gN:IV->Heap->OH)(hgN:∀E H,k .normal E H=gN (lk E 6) H):∀(E:Sg) (H:Heap),lxK cal O N (sCcvC5 f0) E H k=sCcvC5S cal O N f0 gN (lk E 0) (lk E 6) H:=by
 have hk:k=(kN (fun E H=>gN (lk E 6) H) k):=(kN_mk hgN rfl);intro E H;rw[hk];show lxK cal O N X0K12 E H (seqK (lxK cal O N (sCcvC4 f0)) (kN (fun E H=>gN (lk E 6) H) k))=_;rw[seqK_mk (g:=fun E H=>sCcvC4S cal O N f0 gN (lk E 6) (lk E 25) (lk E 26) (lk E 27) H) (sCcvC4Eq cal O N f0 (k:=(kN (fun E H=>gN (lk E 6) H) k)) gN (fun _ _=>by kernel_rfl))];kernel_rfl
def sCcvC6S (cal:CB)(O:Oracle)(N:Nat)(f0:FuncId)(v0 v6:IV)(H:Heap):OH :=
  sCcvC5S cal O N f0 (fun v6 H=>some (v6,H)) v0 v6 H
theorem sCcvC6Eq (cal:CB)(O:Oracle)(N:Nat)(f0:FuncId){k:KT (IV×Heap)}(hR:∀E H,k .ret E H=resK [(.tmp 2)] [] E H):∀(E:Sg) (H:Heap),lxK cal O N (sCcvC6 f0) E H k=sCcvC6S cal O N f0 (lk E 0) (lk E 6) H:=by
 have hk:k=(kR (resK [(.tmp 2)] []) k):=(kR_mk hR rfl);intro E H;rw[hk];show lxK cal O N (sCcvC5 f0) E H (seqK (lxK cal O N (.seq (.reg [ qM 35 6,qM 2 35]) .ret)) (kR (resK [(.tmp 2)] []) k))=_;exact(sCcvC5Eq cal O N f0 (k:=(seqK (lxK cal O N (.seq (.reg [ qM 35 6,qM 2 35]) .ret)) (kR (resK [(.tmp 2)] []) k))) (fun v6 H=>some (v6,H)) (fun _ _=>by kernel_rfl) E H).trans (by kernel_rfl)
def sCcvC7S (cal:CB)(O:Oracle)(N:Nat)(f0:FuncId)(v0 v3:IV)(H:Heap):OH :=
 ob (O f0 [.nilSlice,v3] H) fun r1 =>
  sCcvC6S cal O N f0 v0 r1.1 r1.2
theorem sCcvC7Eq (cal:CB)(O:Oracle)(N:Nat)(f0:FuncId){k:KT (IV×Heap)}(hR:∀E H,k .ret E H=resK [(.tmp 2)] [] E H):∀(E:Sg) (H:Heap),lxK cal O N (sCcvC7 f0) E H k=sCcvC7S cal O N f0 (lk E 0) (lk E 3) H:=by
 have hk:k=(kR (resK [(.tmp 2)] []) k):=(kR_mk hR rfl);intro E H;rw[hk];show lxK cal O N (X0K9 f0) E H (seqK (lxK cal O N (sCcvC6 f0)) (kR (resK [(.tmp 2)] []) k))=_;rw[seqK_mk (g:=fun E H=>sCcvC6S cal O N f0 (lk E 0) (lk E 6) H) (sCcvC6Eq cal O N f0 (k:=(kR (resK [(.tmp 2)] []) k)) (fun _ _=>by kernel_rfl))];kernel_rfl
def sCcvC0S (cal:CB)(O:Oracle)(N:Nat)(f0:FuncId)(gE0:IV->IV->Heap->OH):Nat->IV->IV->IV->IV->IV->Heap->OH
 | 0,_,_,_,_,_,_=>none
 | n+1,v0,v3,v9,v10,v11,H =>ob (lbin .lss v11 v10) fun t1 =>cnd t1
  (jn (fun(j3:IV) =>ob (lbin .add v11 (.int .i64 1)) fun t14 =>
   sCcvC0S cal O N f0 gE0 n v0 j3 v9 v10 t14 H) fun J2 =>ob (lix 1 v9 v11) fun t15 =>ob (lload1 H t15) fun t16 =>ob (llen H .slice t16) fun t17 =>ob (lbin .add v3 t17) fun t18 =>ob (lbin .lss t18 (.int .i64 0)) fun t19 =>cnd t19
   (none)
  (J2 t18))
  (gE0 v0 v3 H)
theorem sCcvC0Eq (cal:CB)(O:Oracle)(N:Nat)(f0:FuncId){k:KT (IV×Heap)}(gE0:IV->IV->Heap->OH)(hgE0:∀E H,k (.exit 0) E H=gE0 (lk E 0) (lk E 3) H):∀(n:Nat) (E:Sg) (H:Heap),itK (lxK cal O N X0K1) n E H k=sCcvC0S cal O N f0 gE0 n (lk E 0) (lk E 3) (lk E 9) (lk E 10) (lk E 11) H:=by
 have hk:k=(kE 0 (fun E H=>gE0 (lk E 0) (lk E 3) H) k):=(kE_mk hgE0 rfl);intro n
 induction n with
 | zero=>intro E H;rfl
 | succ n ih =>
  intro E H;rw[itK_succ,seqK_mk (g:=fun E H=>sCcvC0S cal O N f0 gE0 n (lk E 0) (lk E 3) (lk E 9) (lk E 10) (lk E 11) H) ih,hk];kernel_rfl
def sCcvC1S (cal:CB)(O:Oracle)(N:Nat)(f0:FuncId)(gN:IV->IV->Heap->OH)(v0 v3 v9 v10 v11:IV)(H:Heap):OH :=
  sCcvC0S cal O N f0 (fun v0 v3 H=>gN v0 v3 H) N v0 v3 v9 v10 v11 H
theorem sCcvC1Eq (cal:CB)(O:Oracle)(N:Nat)(f0:FuncId){k:KT (IV×Heap)}(gN:IV->IV->Heap->OH)(hgN:∀E H,k .normal E H=gN (lk E 0) (lk E 3) H):∀(E:Sg) (H:Heap),lxK cal O N (sCcvC1 f0) E H k=sCcvC1S cal O N f0 gN (lk E 0) (lk E 3) (lk E 9) (lk E 10) (lk E 11) H:=by
 have hk:k=(kN (fun E H=>gN (lk E 0) (lk E 3) H) k):=(kN_mk hgN rfl);intro E H;rw[hk];show lxK cal O N (sCcvC0 f0) E H (blockK 0 (kN (fun E H=>gN (lk E 0) (lk E 3) H) k))=_;exact(sCcvC0Eq cal O N f0 (k:=(blockK 0 (kN (fun E H=>gN (lk E 0) (lk E 3) H) k))) gN (fun _ _=>by kernel_rfl) N E H).trans (by kernel_rfl)
def sCcvC2S (cal:CB)(O:Oracle)(N:Nat)(f0:FuncId)(gN:IV->IV->Heap->OH)(v0 v3:IV)(H:Heap):OH :=
 ob (llen H .slice v0) fun t1 =>
  sCcvC1S cal O N f0 (fun v0 v3 H=>gN v0 v3 H) v0 v3 v0 t1 (.int .i64 0) H
theorem sCcvC2Eq (cal:CB)(O:Oracle)(N:Nat)(f0:FuncId){k:KT (IV×Heap)}(gN:IV->IV->Heap->OH)(hgN:∀E H,k .normal E H=gN (lk E 0) (lk E 3) H):∀(E:Sg) (H:Heap),lxK cal O N (sCcvC2 f0) E H k=sCcvC2S cal O N f0 gN (lk E 0) (lk E 3) H:=by
 have hk:k=(kN (fun E H=>gN (lk E 0) (lk E 3) H) k):=(kN_mk hgN rfl);intro E H;rw[hk];show lxK cal O N X0K13 E H (seqK (lxK cal O N (sCcvC1 f0)) (kN (fun E H=>gN (lk E 0) (lk E 3) H) k))=_;rw[seqK_mk (g:=fun E H=>sCcvC1S cal O N f0 gN (lk E 0) (lk E 3) (lk E 9) (lk E 10) (lk E 11) H) (sCcvC1Eq cal O N f0 (k:=(kN (fun E H=>gN (lk E 0) (lk E 3) H) k)) gN (fun _ _=>by kernel_rfl))];kernel_rfl
def sCcvC8S (cal:CB)(O:Oracle)(N:Nat)(f0:FuncId)(v0 v3:IV)(H:Heap):OH :=
  sCcvC2S cal O N f0 (fun v0 v3 H=>sCcvC7S cal O N f0 v0 v3 H) v0 v3 H
theorem sCcvC8Eq (cal:CB)(O:Oracle)(N:Nat)(f0:FuncId){k:KT (IV×Heap)}(hR:∀E H,k .ret E H=resK [(.tmp 2)] [] E H):∀(E:Sg) (H:Heap),lxK cal O N (sCcvC8 f0) E H k=sCcvC8S cal O N f0 (lk E 0) (lk E 3) H:=by
 have hk:k=(kR (resK [(.tmp 2)] []) k):=(kR_mk hR rfl);intro E H;rw[hk];show lxK cal O N (sCcvC2 f0) E H (seqK (lxK cal O N (sCcvC7 f0)) (kR (resK [(.tmp 2)] []) k))=_;rw[seqK_mk (g:=fun E H=>sCcvC7S cal O N f0 (lk E 0) (lk E 3) H) (sCcvC7Eq cal O N f0 (k:=(kR (resK [(.tmp 2)] []) k)) (fun _ _=>by kernel_rfl))];exact(sCcvC2Eq cal O N f0 (k:=(kN (fun E H=>sCcvC7S cal O N f0 (lk E 0) (lk E 3) H) (kR (resK [(.tmp 2)] []) k))) (fun v0 v3 H=>sCcvC7S cal O N f0 v0 v3 H) (fun _ _=>by kernel_rfl) E H).trans (by kernel_rfl)
def sCcvC9S (cal:CB)(O:Oracle)(N:Nat)(f0:FuncId)(v0:IV)(H:Heap):OH :=
  sCcvC8S cal O N f0 v0 (.int .i64 0) H
theorem sCcvC9Eq (cal:CB)(O:Oracle)(N:Nat)(f0:FuncId){k:KT (IV×Heap)}(hR:∀E H,k .ret E H=resK [(.tmp 2)] [] E H):∀(E:Sg) (H:Heap),lxK cal O N (sCcvC9 f0) E H k=sCcvC9S cal O N f0 (lk E 0) H:=by
 have hk:k=(kR (resK [(.tmp 2)] []) k):=(kR_mk hR rfl);intro E H;rw[hk];show lxK cal O N (.reg [ qO 3 (.mv (k6 0))]) E H (seqK (lxK cal O N (sCcvC8 f0)) (kR (resK [(.tmp 2)] []) k))=_;rw[seqK_mk (g:=fun E H=>sCcvC8S cal O N f0 (lk E 0) (lk E 3) H) (sCcvC8Eq cal O N f0 (k:=(kR (resK [(.tmp 2)] []) k)) (fun _ _=>by kernel_rfl))];kernel_rfl
def sCcvC10S (cal:CB)(O:Oracle)(N:Nat)(f0:FuncId)(v0:IV)(H:Heap):OH :=
  sCcvC9S cal O N f0 v0 H
theorem sCcvC10Eq (cal:CB)(O:Oracle)(N:Nat)(f0:FuncId){k:KT (IV×Heap)}(hR:∀E H,k .ret E H=resK [(.tmp 2)] [] E H):∀(E:Sg) (H:Heap),lxK cal O N (sCcvC10 f0) E H k=sCcvC10S cal O N f0 (lk E 0) H:=by
 have hk:k=(kR (resK [(.tmp 2)] []) k):=(kR_mk hR rfl);intro E H;rw[hk];show lxK cal O N (.reg [ qO 2 (.mv (.k .nilSlice))]) E H (seqK (lxK cal O N (sCcvC9 f0)) (kR (resK [(.tmp 2)] []) k))=_;rw[seqK_mk (g:=fun E H=>sCcvC9S cal O N f0 (lk E 0) H) (sCcvC9Eq cal O N f0 (k:=(kR (resK [(.tmp 2)] []) k)) (fun _ _=>by kernel_rfl))];kernel_rfl
def sCcv (f0:FuncId):LFun:=⟨(sCcvC10 f0),[(.tmp 2)],36⟩
def sCcvS (cal:CB)(O:Oracle)(N:Nat)(f0:FuncId)(v0:IV)(H:Heap):OH :=
  sCcvC10S cal O N f0 v0 H
theorem sCcvEq (cal:CB)(O:Oracle)(N:Nat)(f0:FuncId)(v0:IV)(H:Heap):lrunK cal O N (sCcv f0) [v0] H=sCcvS cal O N f0 v0 H:=by
 show lxK cal O N (sCcvC10 f0) (initFrom 0 [v0]) H (endK [(.tmp 2)])=_;exact sCcvC10Eq cal O N f0 (k:=(endK [(.tmp 2)])) (fun _ _=>by kernel_rfl) (initFrom 0 [v0]) H
def X0K0 (f0:FuncId):LC:=.seq (.reg [ qO 52 (.bin .lss (.t 51) (.t 50))]) (.seq (.cond (.t 52) .skip (.exit 0)) (.seq (.block 1 (.seq (.reg [ qO 53 (.ix 2 (.t 49) (.t 51)),qO 54 (.ldn 2 (.t 53)),qO 13 (.zbox (.agg [(.str []),(.int .i64 0)])),⟨none,(.st 2 (.t 13) (.t 54)),none⟩]) (.seq (.reg [ qM 56 0,qO 57 (.ldn 2 (.t 3)),qO 58 (.off (.t 13) 0),qO 59 (.ld1 (.t 58)),qO 60 (.callF f0 [(.t 56),(.t 57),(.t 59)]),qM 55 60,qO 61 (.ext (.t 55) 0),qO 62 (.ext (.t 55) 1),qO 14 (.zbox (.agg [(.int .i64 0),(.int .i64 0)])),⟨none,(.st 2 (.t 14) (.t 61)),none⟩,qM 15 62]) (.reg [ qM 63 7,qO 64 (.off (.t 13) 0),qO 65 (.ld1 (.t 64)),qM 66 15,qO 67 (.bin .eql (.t 66) (k6 0)),⟨none,(.upd .str (.t 63) (.t 65) (.t 67)),none⟩])))) (.reg [ qO 68 (.bin .add (.t 51) (k6 1)),qM 51 68])))
def MvAllXC0 (f0 f1 f2 f3 f4 f5:FuncId):LC:=.loop (X0K0 f3)
def MvAllXC1 (f0 f1 f2 f3 f4 f5:FuncId):LC:=.block 0 (MvAllXC0 f0 f1 f2 f3 f4 f5)
def X0K6 (f0:FuncId):LC:=.reg [ qM 46 8,qM 47 10,qO 48 (.bldS 1 2 [.nilSlice] [(0,(.t 46)),(1,(.t 47))]),qO 49 (.callF f0 [(.t 48)]),qO 50 (.len .slice (.t 49)),qO 51 (.mv (k6 0))]
def MvAllXC2 (f0 f1 f2 f3 f4 f5:FuncId):LC:=.seq (X0K6 f2) (MvAllXC1 f0 f1 f2 f3 f4 f5)
def MvAllXC3 (f0 f1 f2 f3 f4 f5:FuncId):LC:=.seq (MvAllXC2 f0 f1 f2 f3 f4 f5) (.reg [ qO 16 (.mv (.k .nilSlice))])
def X0K3 (f0:FuncId):LC:=.drw [ qM 37 0,qO 38 (.chk (.t 37)),qO 39 (.off (.t 38) 1),qO 40 (.ld1 (.t 39)),qO 41 (.off (.t 3) 1),qO 42 (.ld1 (.t 41)),qO 43 (.callF f0 [(.t 40),(.t 42)]),qM 36 43,qO 44 (.ext (.t 36) 0),qO 45 (.ext (.t 36) 1),qM 10 44,qM 11 45] []
def MvAllXC4 (f0 f1 f2 f3 f4 f5:FuncId):LC:=.seq (X0K3 f1) (MvAllXC3 f0 f1 f2 f3 f4 f5)
def X0K4 (f0:FuncId):LC:=.drw [ qM 27 0,qO 28 (.chk (.t 27)),qO 29 (.off (.t 28) 0),qO 30 (.ld1 (.t 29)),qO 31 (.off (.t 3) 0),qO 32 (.ld1 (.t 31)),qO 33 (.callF f0 [(.t 30),(.t 32)]),qM 26 33,qO 34 (.ext (.t 26) 0),qO 35 (.ext (.t 26) 1),qM 8 34,qM 9 35] []
def MvAllXC5 (f0 f1 f2 f3 f4 f5:FuncId):LC:=.seq (X0K4 f1) (MvAllXC4 f0 f1 f2 f3 f4 f5)
def MvAllXC6 (f0 f1 f2 f3 f4 f5:FuncId):LC:=.seq (.reg [ qO 25 .mkM,qM 7 25]) (MvAllXC5 f0 f1 f2 f3 f4 f5)
def X0K5 (f0:FuncId):LC:=.seq (.reg [ qM 19 0,qO 20 (.ldn 2 (.t 3)),qO 21 (.callF f0 [(.t 19),(.t 20)]),qM 6 21]) (.seq (.reg [ qM 22 6,qO 23 (.bin .neq (.t 22) (k6 0))]) (.cond (.t 23) (.seq (.reg [ qM 24 6,qO 4 (.mv (.k .nilSlice)),qM 5 24]) .ret) .skip))
def MvAllXC7 (f0 f1 f2 f3 f4 f5:FuncId):LC:=.seq (X0K5 f0) (MvAllXC6 f0 f1 f2 f3 f4 f5)
def X0K14 :LC:=.reg [ qO 3 (.box (.t 1)),qO 4 (.mv (.k .nilSlice)),qO 5 (.mv (k6 0))]
def MvAllXC8 (f0 f1 f2 f3 f4 f5:FuncId):LC:=.seq X0K14 (MvAllXC7 f0 f1 f2 f3 f4 f5)
def X0K8 :LC:=.reg [ qO 73 (.ent (.t 70)),qO 74 (.ext (.t 73) 0),qO 75 (.ext (.t 73) 1),qM 17 74,qM 18 75]
def X0K7 :LC:=.seq (.reg [ qM 76 18]) (.cond (.t 76) (.reg [ qM 77 16,qM 78 17,qO 79 (.bldS 1 1 [(.str [])] [(0,(.t 78))]),qO 80 (.app 1 16 (.t 77) (.t 79)),qM 16 80]) .skip)
def MvAllXC9 (f0 f1 f2 f3 f4 f5:FuncId):LC:=.seq X0K8 X0K7
def X0K10 (f0 f1:FuncId):LC:=.reg [ qM 81 16,qO 82 (.callF f0 [(.t 81),(.f f1)])]
def X0K11 :LC:=.seq (.reg [ qM 83 16,qM 4 83,qO 5 (.mv (k6 0))]) .ret
def MvAllXC10 (f0 f1 f2 f3 f4 f5:FuncId):LC:=.seq (X0K10 f4 f5) X0K11
def MvAllXC10S (cal:CB)(O:Oracle)(N:Nat)(f0 f1 f2 f3 f4 f5:FuncId)(v7 v16 v70:IV)(H:Heap):OH :=
 ob (O f4 [v16,(.func (.func f5) [] [])] H) fun r1 =>some ((.tuple [v16,(.int .i64 0),v7,v16,v70]),r1.2)
theorem MvAllXC10Eq (cal:CB)(O:Oracle)(N:Nat)(f0 f1 f2 f3 f4 f5:FuncId){k:KT (IV×Heap)}(hR:∀E H,k .ret E H=resK [(.tmp 4),(.tmp 5),(.tmp 7),(.tmp 16),(.tmp 70)] [] E H):∀(E:Sg) (H:Heap),lxK cal O N (MvAllXC10 f0 f1 f2 f3 f4 f5) E H k=MvAllXC10S cal O N f0 f1 f2 f3 f4 f5 (lk E 7) (lk E 16) (lk E 70) H:=by
 have hk:k=(kR (resK [(.tmp 4),(.tmp 5),(.tmp 7),(.tmp 16),(.tmp 70)] []) k):=(kR_mk hR rfl);intro E H;rw[hk];show lxK cal O N (X0K10 f4 f5) E H (seqK (lxK cal O N X0K11) (kR (resK [(.tmp 4),(.tmp 5),(.tmp 7),(.tmp 16),(.tmp 70)] []) k))=_;kernel_rfl
def MvAllXC9S (cal:CB)(O:Oracle)(N:Nat)(f0 f1 f2 f3 f4 f5:FuncId)(gN:IV->IV->IV->Heap->OH)(v7 v16 v70:IV)(H:Heap):OH :=
 ob (ientry H v70) fun t1 =>ob (iextract t1 0) fun t2 =>ob (iextract t1 1) fun t3 =>cnd t3
 (ob (lbldS H 1 1 [(.str [])] [(0,t2)]) fun r4 =>ob (lapp r4.2 1 16 v16 r4.1) fun r5 =>
 gN v7 r5.1 v70 r5.2)
 (gN v7 v16 v70 H)
theorem MvAllXC9Eq (cal:CB)(O:Oracle)(N:Nat)(f0 f1 f2 f3 f4 f5:FuncId){k:KT (IV×Heap)}(gN:IV->IV->IV->Heap->OH)(hgN:∀E H,k .normal E H=gN (lk E 7) (lk E 16) (lk E 70) H):∀(E:Sg) (H:Heap),lxK cal O N (MvAllXC9 f0 f1 f2 f3 f4 f5) E H k=MvAllXC9S cal O N f0 f1 f2 f3 f4 f5 gN (lk E 7) (lk E 16) (lk E 70) H:=by
 have hk:k=(kN (fun E H=>gN (lk E 7) (lk E 16) (lk E 70) H) k):=(kN_mk hgN rfl);intro E H;rw[hk];show lxK cal O N X0K8 E H (seqK (lxK cal O N X0K7) (kN (fun E H=>gN (lk E 7) (lk E 16) (lk E 70) H) k))=_;kernel_rfl
def MvAllXC0S (cal:CB)(O:Oracle)(N:Nat)(f0 f1 f2 f3 f4 f5:FuncId)(gE0:IV->IV->Heap->OH):Nat->IV->IV->IV->IV->IV->IV->IV->Heap->OH
 | 0,_,_,_,_,_,_,_,_=>none
 | n+1,v0,v3,v7,v49,v50,v51,v70,H =>ob (lbin .lss v51 v50) fun t1 =>cnd t1
  (ob (lix 2 v49 v51) fun t2 =>ob (lloadn H 2 t2) fun t3 =>ob (lzbox H (.agg [(.str []),(.int .i64 0)])) fun r4 =>ob (lstV r4.2 2 r4.1 t3) fun r5 =>ob (lloadn r5.2 2 v3) fun t6 =>ob (loff r4.1 0) fun t7 =>ob (lload1 r5.2 t7) fun t8 =>ob (O f3 [v0,t6,t8] r5.2) fun r9 =>ob (iextract r9.1 0) fun t10 =>ob (iextract r9.1 1) fun t11 =>ob (lzbox r9.2 (.agg [(.int .i64 0),(.int .i64 0)])) fun r12 =>ob (lstV r12.2 2 r12.1 t10) fun r13 =>ob (loff r4.1 0) fun t14 =>ob (lload1 r13.2 t14) fun t15 =>ob (lbin .eql t11 (.int .i64 0)) fun t16 =>ob (lupdV r13.2 .str v7 t15 t16) fun r17 =>ob (lbin .add v51 (.int .i64 1)) fun t18 =>
   MvAllXC0S cal O N f0 f1 f2 f3 f4 f5 gE0 n v0 v3 v7 v49 v50 t18 v70 r17.2)
  (gE0 v7 v70 H)
theorem MvAllXC0Eq (cal:CB)(O:Oracle)(N:Nat)(f0 f1 f2 f3 f4 f5:FuncId){k:KT (IV×Heap)}(gE0:IV->IV->Heap->OH)(hgE0:∀E H,k (.exit 0) E H=gE0 (lk E 7) (lk E 70) H):∀(n:Nat) (E:Sg) (H:Heap),itK (lxK cal O N (X0K0 f3)) n E H k=MvAllXC0S cal O N f0 f1 f2 f3 f4 f5 gE0 n (lk E 0) (lk E 3) (lk E 7) (lk E 49) (lk E 50) (lk E 51) (lk E 70) H:=by
 have hk:k=(kE 0 (fun E H=>gE0 (lk E 7) (lk E 70) H) k):=(kE_mk hgE0 rfl);intro n
 induction n with
 | zero=>intro E H;rfl
 | succ n ih =>
  intro E H;rw[itK_succ,seqK_mk (g:=fun E H=>MvAllXC0S cal O N f0 f1 f2 f3 f4 f5 gE0 n (lk E 0) (lk E 3) (lk E 7) (lk E 49) (lk E 50) (lk E 51) (lk E 70) H) ih,hk];kernel_rfl
def MvAllXC1S (cal:CB)(O:Oracle)(N:Nat)(f0 f1 f2 f3 f4 f5:FuncId)(gN:IV->IV->Heap->OH)(v0 v3 v7 v49 v50 v51 v70:IV)(H:Heap):OH :=
  MvAllXC0S cal O N f0 f1 f2 f3 f4 f5 (fun v7 v70 H=>gN v7 v70 H) N v0 v3 v7 v49 v50 v51 v70 H
theorem MvAllXC1Eq (cal:CB)(O:Oracle)(N:Nat)(f0 f1 f2 f3 f4 f5:FuncId){k:KT (IV×Heap)}(gN:IV->IV->Heap->OH)(hgN:∀E H,k .normal E H=gN (lk E 7) (lk E 70) H):∀(E:Sg) (H:Heap),lxK cal O N (MvAllXC1 f0 f1 f2 f3 f4 f5) E H k=MvAllXC1S cal O N f0 f1 f2 f3 f4 f5 gN (lk E 0) (lk E 3) (lk E 7) (lk E 49) (lk E 50) (lk E 51) (lk E 70) H:=by
 have hk:k=(kN (fun E H=>gN (lk E 7) (lk E 70) H) k):=(kN_mk hgN rfl);intro E H;rw[hk];show lxK cal O N (MvAllXC0 f0 f1 f2 f3 f4 f5) E H (blockK 0 (kN (fun E H=>gN (lk E 7) (lk E 70) H) k))=_;exact(MvAllXC0Eq cal O N f0 f1 f2 f3 f4 f5 (k:=(blockK 0 (kN (fun E H=>gN (lk E 7) (lk E 70) H) k))) gN (fun _ _=>by kernel_rfl) N E H).trans (by kernel_rfl)
def MvAllXC2S (cal:CB)(O:Oracle)(N:Nat)(f0 f1 f2 f3 f4 f5:FuncId)(gN:IV->IV->Heap->OH)(v0 v3 v7 v8 v10 v70:IV)(H:Heap):OH :=
 ob (lbldS H 1 2 [.nilSlice] [(0,v8),(1,v10)]) fun r1 =>ob (O f2 [r1.1] r1.2) fun r2 =>ob (llen r2.2 .slice r2.1) fun t3 =>
  MvAllXC1S cal O N f0 f1 f2 f3 f4 f5 (fun v7 v70 H=>gN v7 v70 H) v0 v3 v7 r2.1 t3 (.int .i64 0) v70 r2.2
theorem MvAllXC2Eq (cal:CB)(O:Oracle)(N:Nat)(f0 f1 f2 f3 f4 f5:FuncId){k:KT (IV×Heap)}(gN:IV->IV->Heap->OH)(hgN:∀E H,k .normal E H=gN (lk E 7) (lk E 70) H):∀(E:Sg) (H:Heap),lxK cal O N (MvAllXC2 f0 f1 f2 f3 f4 f5) E H k=MvAllXC2S cal O N f0 f1 f2 f3 f4 f5 gN (lk E 0) (lk E 3) (lk E 7) (lk E 8) (lk E 10) (lk E 70) H:=by
 have hk:k=(kN (fun E H=>gN (lk E 7) (lk E 70) H) k):=(kN_mk hgN rfl);intro E H;rw[hk];show lxK cal O N (X0K6 f2) E H (seqK (lxK cal O N (MvAllXC1 f0 f1 f2 f3 f4 f5)) (kN (fun E H=>gN (lk E 7) (lk E 70) H) k))=_;rw[seqK_mk (g:=fun E H=>MvAllXC1S cal O N f0 f1 f2 f3 f4 f5 gN (lk E 0) (lk E 3) (lk E 7) (lk E 49) (lk E 50) (lk E 51) (lk E 70) H) (MvAllXC1Eq cal O N f0 f1 f2 f3 f4 f5 (k:=(kN (fun E H=>gN (lk E 7) (lk E 70) H) k)) gN (fun _ _=>by kernel_rfl))];kernel_rfl
def MvAllXC3S (cal:CB)(O:Oracle)(N:Nat)(f0 f1 f2 f3 f4 f5:FuncId)(gN:IV->IV->IV->Heap->OH)(v0 v3 v7 v8 v10 v70:IV)(H:Heap):OH :=
  MvAllXC2S cal O N f0 f1 f2 f3 f4 f5 (fun v7 v70 H=>gN v7 .nilSlice v70 H) v0 v3 v7 v8 v10 v70 H
theorem MvAllXC3Eq (cal:CB)(O:Oracle)(N:Nat)(f0 f1 f2 f3 f4 f5:FuncId){k:KT (IV×Heap)}(gN:IV->IV->IV->Heap->OH)(hgN:∀E H,k .normal E H=gN (lk E 7) (lk E 16) (lk E 70) H):∀(E:Sg) (H:Heap),lxK cal O N (MvAllXC3 f0 f1 f2 f3 f4 f5) E H k=MvAllXC3S cal O N f0 f1 f2 f3 f4 f5 gN (lk E 0) (lk E 3) (lk E 7) (lk E 8) (lk E 10) (lk E 70) H:=by
 have hk:k=(kN (fun E H=>gN (lk E 7) (lk E 16) (lk E 70) H) k):=(kN_mk hgN rfl);intro E H;rw[hk];show lxK cal O N (MvAllXC2 f0 f1 f2 f3 f4 f5) E H (seqK (lxK cal O N (.reg [ qO 16 (.mv (.k .nilSlice))])) (kN (fun E H=>gN (lk E 7) (lk E 16) (lk E 70) H) k))=_;exact(MvAllXC2Eq cal O N f0 f1 f2 f3 f4 f5 (k:=(seqK (lxK cal O N (.reg [ qO 16 (.mv (.k .nilSlice))])) (kN (fun E H=>gN (lk E 7) (lk E 16) (lk E 70) H) k))) (fun v7 v70 H=>gN v7 .nilSlice v70 H) (fun _ _=>by kernel_rfl) E H).trans (by kernel_rfl)
def MvAllXC4S (cal:CB)(O:Oracle)(N:Nat)(f0 f1 f2 f3 f4 f5:FuncId)(gN:IV->IV->IV->Heap->OH)(v0 v3 v7 v8 v16 v70:IV)(H:Heap):OH :=
 ob (lchk v0) fun t1 =>ob (loff t1 1) fun t2 =>ob (lload1 H t2) fun t3 =>ob (loff v3 1) fun t4 =>ob (lload1 H t4) fun t5 =>ob (O f1 [t3,t5] H) fun r6 =>ob (iextract r6.1 0) fun t7 =>ob (iextract r6.1 1) fun t8 =>
  MvAllXC3S cal O N f0 f1 f2 f3 f4 f5 (fun v7 v16 v70 H=>gN v7 v16 v70 H) v0 v3 v7 v8 t7 v70 r6.2
theorem MvAllXC4Eq (cal:CB)(O:Oracle)(N:Nat)(f0 f1 f2 f3 f4 f5:FuncId){k:KT (IV×Heap)}(gN:IV->IV->IV->Heap->OH)(hgN:∀E H,k .normal E H=gN (lk E 7) (lk E 16) (lk E 70) H):∀(E:Sg) (H:Heap),lxK cal O N (MvAllXC4 f0 f1 f2 f3 f4 f5) E H k=MvAllXC4S cal O N f0 f1 f2 f3 f4 f5 gN (lk E 0) (lk E 3) (lk E 7) (lk E 8) (lk E 16) (lk E 70) H:=by
 have hk:k=(kN (fun E H=>gN (lk E 7) (lk E 16) (lk E 70) H) k):=(kN_mk hgN rfl);intro E H;rw[hk];show lxK cal O N (X0K3 f1) E H (seqK (lxK cal O N (MvAllXC3 f0 f1 f2 f3 f4 f5)) (kN (fun E H=>gN (lk E 7) (lk E 16) (lk E 70) H) k))=_;rw[seqK_mk (g:=fun E H=>MvAllXC3S cal O N f0 f1 f2 f3 f4 f5 gN (lk E 0) (lk E 3) (lk E 7) (lk E 8) (lk E 10) (lk E 70) H) (MvAllXC3Eq cal O N f0 f1 f2 f3 f4 f5 (k:=(kN (fun E H=>gN (lk E 7) (lk E 16) (lk E 70) H) k)) gN (fun _ _=>by kernel_rfl))];kernel_rfl
def MvAllXC5S (cal:CB)(O:Oracle)(N:Nat)(f0 f1 f2 f3 f4 f5:FuncId)(gN:IV->IV->IV->Heap->OH)(v0 v3 v7 v16 v70:IV)(H:Heap):OH :=
 ob (lchk v0) fun t1 =>ob (loff t1 0) fun t2 =>ob (lload1 H t2) fun t3 =>ob (loff v3 0) fun t4 =>ob (lload1 H t4) fun t5 =>ob (O f1 [t3,t5] H) fun r6 =>ob (iextract r6.1 0) fun t7 =>ob (iextract r6.1 1) fun t8 =>
  MvAllXC4S cal O N f0 f1 f2 f3 f4 f5 (fun v7 v16 v70 H=>gN v7 v16 v70 H) v0 v3 v7 t7 v16 v70 r6.2
theorem MvAllXC5Eq (cal:CB)(O:Oracle)(N:Nat)(f0 f1 f2 f3 f4 f5:FuncId){k:KT (IV×Heap)}(gN:IV->IV->IV->Heap->OH)(hgN:∀E H,k .normal E H=gN (lk E 7) (lk E 16) (lk E 70) H):∀(E:Sg) (H:Heap),lxK cal O N (MvAllXC5 f0 f1 f2 f3 f4 f5) E H k=MvAllXC5S cal O N f0 f1 f2 f3 f4 f5 gN (lk E 0) (lk E 3) (lk E 7) (lk E 16) (lk E 70) H:=by
 have hk:k=(kN (fun E H=>gN (lk E 7) (lk E 16) (lk E 70) H) k):=(kN_mk hgN rfl);intro E H;rw[hk];show lxK cal O N (X0K4 f1) E H (seqK (lxK cal O N (MvAllXC4 f0 f1 f2 f3 f4 f5)) (kN (fun E H=>gN (lk E 7) (lk E 16) (lk E 70) H) k))=_;rw[seqK_mk (g:=fun E H=>MvAllXC4S cal O N f0 f1 f2 f3 f4 f5 gN (lk E 0) (lk E 3) (lk E 7) (lk E 8) (lk E 16) (lk E 70) H) (MvAllXC4Eq cal O N f0 f1 f2 f3 f4 f5 (k:=(kN (fun E H=>gN (lk E 7) (lk E 16) (lk E 70) H) k)) gN (fun _ _=>by kernel_rfl))];kernel_rfl
def MvAllXC6S (cal:CB)(O:Oracle)(N:Nat)(f0 f1 f2 f3 f4 f5:FuncId)(gN:IV->IV->IV->Heap->OH)(v0 v3 v7 v16 v70:IV)(H:Heap):OH :=
 ob (lmkM H) fun r1 =>
  MvAllXC5S cal O N f0 f1 f2 f3 f4 f5 (fun v7 v16 v70 H=>gN v7 v16 v70 H) v0 v3 r1.1 v16 v70 r1.2
theorem MvAllXC6Eq (cal:CB)(O:Oracle)(N:Nat)(f0 f1 f2 f3 f4 f5:FuncId){k:KT (IV×Heap)}(gN:IV->IV->IV->Heap->OH)(hgN:∀E H,k .normal E H=gN (lk E 7) (lk E 16) (lk E 70) H):∀(E:Sg) (H:Heap),lxK cal O N (MvAllXC6 f0 f1 f2 f3 f4 f5) E H k=MvAllXC6S cal O N f0 f1 f2 f3 f4 f5 gN (lk E 0) (lk E 3) (lk E 7) (lk E 16) (lk E 70) H:=by
 have hk:k=(kN (fun E H=>gN (lk E 7) (lk E 16) (lk E 70) H) k):=(kN_mk hgN rfl);intro E H;rw[hk];show lxK cal O N (.reg [ qO 25 .mkM,qM 7 25]) E H (seqK (lxK cal O N (MvAllXC5 f0 f1 f2 f3 f4 f5)) (kN (fun E H=>gN (lk E 7) (lk E 16) (lk E 70) H) k))=_;rw[seqK_mk (g:=fun E H=>MvAllXC5S cal O N f0 f1 f2 f3 f4 f5 gN (lk E 0) (lk E 3) (lk E 7) (lk E 16) (lk E 70) H) (MvAllXC5Eq cal O N f0 f1 f2 f3 f4 f5 (k:=(kN (fun E H=>gN (lk E 7) (lk E 16) (lk E 70) H) k)) gN (fun _ _=>by kernel_rfl))];kernel_rfl
def MvAllXC7S (cal:CB)(O:Oracle)(N:Nat)(f0 f1 f2 f3 f4 f5:FuncId)(gN:IV->IV->IV->Heap->OH)(v0 v3 v7 v16 v70:IV)(H:Heap):OH :=
 ob (lloadn H 2 v3) fun t1 =>ob (O f0 [v0,t1] H) fun r2 =>ob (lbin .neq r2.1 (.int .i64 0)) fun t3 =>cnd t3
 (some ((.tuple [.nilSlice,r2.1,v7,v16,v70]),r2.2))
  (MvAllXC6S cal O N f0 f1 f2 f3 f4 f5 (fun v7 v16 v70 H=>gN v7 v16 v70 H) v0 v3 v7 v16 v70 r2.2)
theorem MvAllXC7Eq (cal:CB)(O:Oracle)(N:Nat)(f0 f1 f2 f3 f4 f5:FuncId){k:KT (IV×Heap)}(gN:IV->IV->IV->Heap->OH)(hgN:∀E H,k .normal E H=gN (lk E 7) (lk E 16) (lk E 70) H)(hR:∀E H,k .ret E H=resK [(.tmp 4),(.tmp 5),(.tmp 7),(.tmp 16),(.tmp 70)] [] E H):∀(E:Sg) (H:Heap),lxK cal O N (MvAllXC7 f0 f1 f2 f3 f4 f5) E H k=MvAllXC7S cal O N f0 f1 f2 f3 f4 f5 gN (lk E 0) (lk E 3) (lk E 7) (lk E 16) (lk E 70) H:=by
 have hk:k=(kN (fun E H=>gN (lk E 7) (lk E 16) (lk E 70) H) (kR (resK [(.tmp 4),(.tmp 5),(.tmp 7),(.tmp 16),(.tmp 70)] []) k)):=(kN_mk hgN (kR_mk hR rfl));intro E H;rw[hk];show lxK cal O N (X0K5 f0) E H (seqK (lxK cal O N (MvAllXC6 f0 f1 f2 f3 f4 f5)) (kN (fun E H=>gN (lk E 7) (lk E 16) (lk E 70) H) (kR (resK [(.tmp 4),(.tmp 5),(.tmp 7),(.tmp 16),(.tmp 70)] []) k)))=_;rw[seqK_mk (g:=fun E H=>MvAllXC6S cal O N f0 f1 f2 f3 f4 f5 gN (lk E 0) (lk E 3) (lk E 7) (lk E 16) (lk E 70) H) (MvAllXC6Eq cal O N f0 f1 f2 f3 f4 f5 (k:=(kN (fun E H=>gN (lk E 7) (lk E 16) (lk E 70) H) (kR (resK [(.tmp 4),(.tmp 5),(.tmp 7),(.tmp 16),(.tmp 70)] []) k))) gN (fun _ _=>by kernel_rfl))];kernel_rfl
def MvAllXC8S (cal:CB)(O:Oracle)(N:Nat)(f0 f1 f2 f3 f4 f5:FuncId)(gN:IV->IV->IV->Heap->OH)(v0 v1 v7 v16 v70:IV)(H:Heap):OH :=
 ob (lbox H v1) fun r1 =>
  MvAllXC7S cal O N f0 f1 f2 f3 f4 f5 (fun v7 v16 v70 H=>gN v7 v16 v70 H) v0 r1.1 v7 v16 v70 r1.2
theorem MvAllXC8Eq (cal:CB)(O:Oracle)(N:Nat)(f0 f1 f2 f3 f4 f5:FuncId){k:KT (IV×Heap)}(gN:IV->IV->IV->Heap->OH)(hgN:∀E H,k .normal E H=gN (lk E 7) (lk E 16) (lk E 70) H)(hR:∀E H,k .ret E H=resK [(.tmp 4),(.tmp 5),(.tmp 7),(.tmp 16),(.tmp 70)] [] E H):∀(E:Sg) (H:Heap),lxK cal O N (MvAllXC8 f0 f1 f2 f3 f4 f5) E H k=MvAllXC8S cal O N f0 f1 f2 f3 f4 f5 gN (lk E 0) (lk E 1) (lk E 7) (lk E 16) (lk E 70) H:=by
 have hk:k=(kN (fun E H=>gN (lk E 7) (lk E 16) (lk E 70) H) (kR (resK [(.tmp 4),(.tmp 5),(.tmp 7),(.tmp 16),(.tmp 70)] []) k)):=(kN_mk hgN (kR_mk hR rfl));intro E H;rw[hk];show lxK cal O N X0K14 E H (seqK (lxK cal O N (MvAllXC7 f0 f1 f2 f3 f4 f5)) (kN (fun E H=>gN (lk E 7) (lk E 16) (lk E 70) H) (kR (resK [(.tmp 4),(.tmp 5),(.tmp 7),(.tmp 16),(.tmp 70)] []) k)))=_;rw[seqK_mk (g:=fun E H=>MvAllXC7S cal O N f0 f1 f2 f3 f4 f5 gN (lk E 0) (lk E 3) (lk E 7) (lk E 16) (lk E 70) H) (MvAllXC7Eq cal O N f0 f1 f2 f3 f4 f5 (k:=(kN (fun E H=>gN (lk E 7) (lk E 16) (lk E 70) H) (kR (resK [(.tmp 4),(.tmp 5),(.tmp 7),(.tmp 16),(.tmp 70)] []) k))) gN (fun _ _=>by kernel_rfl) (fun _ _=>by kernel_rfl))];kernel_rfl
end Go.Shade
namespace Go.Shade
variable {H : Heap} {P : Nat -> Prop} {l : Dr} {v : IV}
section
variable {cal : FuncId -> Bool} {O : Oracle} {N : Nat}
theorem prs_all (l:Dr):(fl (prs l)).all IV.one=true:=fl_one (prs_one l)
theorem prs_len (l:Dr):(fl (prs l)).length=l.length*2:=by rw[fl_length,prs_length];omega
theorem fl_all {cs:List Pr}:((fl (prs l++cs)).drop 0).take (l.length*2)=fl (prs l):=by
 rw[List.drop_zero,Nat.mul_comm,fl_take,List.take_append_of_le_length (by rw[prs_length];omega),List.take_of_length_le (by rw[prs_length];omega)]
theorem lsl_fl {r lb:Nat}{ex:Bool}{cs:List Pr} (h:H[r]? =some (.row (fl (prs l++cs)) false)):lsl H 2 (.slice r 0 l.length lb ex 2) l.length=some (fl (prs l)):=by
 simp only[lsl,Nat.le_refl,if_true];split
 ·rename_i e;rw[List.length_eq_zero_iff.1 e];rfl
 ·simp only[irow,h,Nat.zero_add];rw[if_pos (by rw[fl_length,List.length_append,prs_length];omega),fl_all]
theorem DSl.cells2 (h:DSl P H v l):xlen v=some l.length/\lxcells H 2 v l.length=some (fl (prs l)):=by
 rcases h with⟨rfl,rfl⟩ | ⟨r,rest,ex,rfl,h2,h3,h4,h5⟩
 ·exact⟨rfl,rfl⟩
 ·exact⟨rfl,lsl_fl (lb:=l.length+rest.length) (ex:=ex) h5⟩
theorem TS.cells2 (h:TS 2 P H v (fl (prs l))):xlen v=some l.length/\lxcells H 2 v l.length=some (fl (prs l)):=by
 rcases h with⟨rfl,h2⟩ | ⟨r,n,ex,rfl,h2,h3,h4⟩
 ·have:l=[]:=by have:=congrArg List.length h2;rw[prs_len]at this;exact List.length_eq_zero_iff.1 (by simp at this;omega)
  subst this;exact⟨rfl,rfl⟩
 ·rw[prs_len]at h4;have:n=l.length:=by omega
  subst this;exact⟨rfl,lsl_fl (lb:=l.length) (ex:=ex) (cs:=[]) (by rw[List.append_nil];exact h3)⟩
theorem Buf.ts {B s:Nat}{cs:List IV}(h:Buf B s H v cs):TS s (B<= ·) H v cs:=h
def CpyR (H:Heap)(l:Dr)(r:Out):Prop:=TS 2 (H.length<= ·) r.2 r.1 (fl (prs l))/\Frame NoF H r.2
def CloneOk (O:Oracle)(f:FuncId):Prop:=∀(P:Nat->Prop) (H:Heap) (v:IV) (l:Dr),DSl P H v l->l.length<=1000000->Wp (O f [v] H) (CpyR H l)
theorem clone_s (h:DSl P H v l)(hl:l.length<=1000000):Wp (sCloS cal O N v H) (CpyR H l):=by
 unfold sCloS;obtain⟨c1,c2⟩:=h.cells2;rcases h with⟨rfl,rfl⟩ | ⟨r,rest,ex,rfl,h2,h3,h4,h5⟩
 ·exact⟨_,rfl,.inl ⟨rfl,rfl⟩,Frame.refl _ _⟩
 ·have e0:leqv false (leq .slice (.slice r 0 l.length (l.length+rest.length) ex 2) .nilSlice)=some (.bool false):=rfl;have e1:lbldS H 2 0 [(.str []),(.int .i64 0)] []=some (.slice H.length 0 0 0 true 2,H++[.row [] false]):=rfl;rw[e0,ob_some,cnd_false,e1,ob_some];have k0:Frame NoF H (H++[IObj.row [] false]):=Frame.push _ _ _;obtain⟨v',H',g1,g2,g3⟩:=app_buf (B:=H.length) (H:=H++[IObj.row [] false]) (s:=2) (b:=24) (v:=.slice H.length 0 0 0 true 2) (cs:=[]) (x:=.slice r 0 l.length (l.length+rest.length) ex 2) (k:=l.length) (new:=fl (prs l)) (.inr ⟨_,_,_,rfl,Nat.le_refl _,newRow,rfl⟩) (by simp) (by omega) rfl (by
   have:=k0.get (fun h=>h) h5;exact lsl_fl (lb:=l.length+rest.length) (ex:=ex) this) (prs_len l) (prs_all l) (by rw[prs_len];simp;omega)
  simp only;rw[g1,ob_some];exact⟨_,rfl,g2,Nat.le_trans k0.1 g3.2,fun i hi hf=>(g3.1 i hi).trans (k0.2 i hi hf)⟩
def DAllOk (O:Oracle)(f:FuncId):Prop:=∀(P:Nat->Prop) (H:Heap) (d:Nat) (l:Dr),DirOk P H d l->l.length<=1000000->Wp (O f [.ptr d 0] H) (CpyR H l)
theorem dall_s {f:FuncId}(hf:CloneOk O f){d:Nat}(h:DirOk P H d l)(hl:l.length<=1000000):Wp (DdAllS cal O N f (.ptr d 0) H) (CpyR H l):=by
 unfold DdAllS;obtain⟨sv,h3,h4⟩:=h.row;rw[lchk_ptr,ob_some,loff_ptr,ob_some,Nat.zero_add,ld1 h3,List.getElem?_cons_zero,ob_some];refine Wp.call (hf _ H sv l h4 hl) ?_;rintro⟨v,H1⟩ g;exact Wp.ret g
def allD (st:Brs)(i:Int):Dr:=match dirOf st i with
 | .inr _=>[]
 | .inl x=>x.dir.getD []
def allE (st:Brs)(i:Int):Int:=match dirOf st i with
 | .inr e=>e
 | .inl _=>0
def BAllOk (O:Oracle)(f:FuncId):Prop:=∀(own:Nat->Nat) (H:Heap) (b:Nat) (st:Brs) (i:Int),BrOk own H b st->KInv st->LenInv 1000000 st->Wp (O f [.ptr b 0,.int .i64 i] H) fun r=>∃v,r.1=.tuple [v,.int .i64 (allE st i)]/\CpyR H (allD st i) (v,r.2)
theorem ball_s {fd fa:FuncId}(hd:BDirOk O fd)(ha:DAllOk O fa){own:Nat->Nat}{b:Nat}{st:Brs}{i:Int}(h:BrOk own H b st)(hK:KInv st)(hL:LenInv 1000000 st):Wp (BbAllS cal O N fd fa (.ptr b 0) (.int .i64 i) H) fun r=>∃v,r.1=.tuple [v,.int .i64 (allE st i)]/\CpyR H (allD st i) (v,r.2):=by
 unfold BbAllS allE allD;rw[hd own H b st i h,ob_some]
 cases hx:dirOf st i with
 | inr e =>
  simp only[dirV,iextract_tuple,List.getElem?_cons_zero,List.getElem?_cons_succ,ob_some,lbin_neq];have he:e≠0:=by rcases dirOf_inr hx with h | h<;>omega
  rw[decide_eq_false he,Bool.not_false,cnd_true];exact Wp.ret ⟨_,rfl,.inl ⟨rfl,rfl⟩,Frame.refl _ _⟩
 | inl x =>
  obtain⟨hx1,hx2⟩:=dirOf_inl hx;obtain⟨l,n,rfl,hn,hl,hD,_,e6⟩:=dir_of h hK hx1 hx2;simp only[dirV,iextract_tuple,List.getElem?_cons_zero,List.getElem?_cons_succ,ob_some,lbin_neq];rw[decide_eq_true trivial,Bool.not_true,cnd_false];simp only[lchk_ptr,loff_ptr,ob_some,Nat.zero_add,e6];refine Wp.call (ha _ H x.q l hD (hL n x l hn hl)) ?_;rintro⟨v,H1⟩ g;rw[hl];exact Wp.ret ⟨v,rfl,g⟩
theorem zrep_fl :∀(n:Nat),zrep n [IV.str [],.int .i64 0]=fl (List.replicate n (.str [],.int .i64 0))
 | 0=>rfl
 | n+1=>by
  have:=zrep_fl n;simp only[zrep,List.replicate_succ,List.flatten_cons,fl]at this ⊢;rw[this];rfl
def GrowOk (O:Oracle)(f:FuncId):Prop:=∀(H:Heap) (n:Nat),n<=2000000->O f [.nilSlice,.int .i64 (n:Nat)] H=some (if n=0 then(.nilSlice,H)else(.slice H.length 0 0 n false 2,H++[.row (fl (List.replicate n (.str [],.int .i64 0))) false]))
theorem grow_s {n:Nat}(hn:n<=2000000):sGroS cal O N .nilSlice (.int .i64 (n:Nat)) H=some (if n=0 then(.nilSlice,H)else(.slice H.length 0 0 n false 2,H++[.row (fl (List.replicate n (.str [],.int .i64 0))) false])):=by
 unfold sGroS;have e0:lcapV H .nilSlice=some (.int .i64 0,H):=rfl;have e1:llen H .slice .nilSlice=some (.int .i64 0):=rfl;have w0:IntKind.wrap .i64 (0 - 0)=0:=rfl;have w1:IntKind.wrap .i64 ((n:Int) - 0)=n:=by rw[Int.sub_zero];exact wrap_i64 (by omega) (by omega)
 rw[jn_eq,lbin_lss,ob_some,decide_eq_false (by omega),cnd_false,jn_eq,e0,ob_some];simp only;rw[e1,ob_some,lbin_sub,ob_some,w0,lbin_sub,ob_some,w1,lbin_gtr,ob_some];by_cases h:n=0
 ·subst h;rw[decide_eq_false (by omega),cnd_false,if_pos rfl]
 ·rw[decide_eq_true (by omega),cnd_true,if_neg h,e0,ob_some];have e2:lslice H (.slice 2) .nilSlice none (some (.int .i64 0)) none=some .nilSlice:=rfl;simp only;rw[e2,ob_some];have e3:lappzV H 2 24 [.str [],.int .i64 0] .nilSlice (.int .i64 n)=some (.slice H.length 0 n n false 2,H++[.row (fl (List.replicate n (.str [],.int .i64 0))) false]):=by
   unfold lappzV lappz;simp only[Int.toNat_natCast];rw[if_pos (by omega),if_pos (by omega),zrep_fl]
  rw[e3,ob_some];simp only;have e4:llen (H++[IObj.row (fl (List.replicate n (IV.str [],IV.int .i64 0))) false]) .slice .nilSlice=some (.int .i64 0):=rfl;have e5:lslice (H++[IObj.row (fl (List.replicate n (IV.str [],IV.int .i64 0))) false]) (.slice 2) (.slice H.length 0 n n false 2) none (some (.int .i64 0)) none=some (.slice H.length 0 0 n false 2):=by
   simp[lslice,bnd]
  rw[e4,ob_some,e5,ob_some]
theorem room_app {Q:Nat->Prop}{q:Nat}{k:Dr}{rest:List Pr}{xv:IV} (hq:H[q]? =some (.row (fl (prs l++rest)) false)) (hr:k.length<=rest.length) (hx:TS 2 Q H xv (fl (prs k))) :
  Wp (lapp H 2 24 (.slice q 0 l.length (l.length+rest.length) false 2) xv) fun r=>r.1=.slice q 0 (l++k).length (l.length+rest.length) false 2/\r.2[q]? =some (.row (fl (prs (l++k)++rest.drop k.length)) false)/\Frame (· =q) H r.2:=by
 obtain⟨c1,c2⟩:=hx.cells2;unfold lapp lappend;rw[c1];simp only[Option.bind_some];by_cases h0:k.length=0
 ·rw[if_pos h0];have:=List.length_eq_zero_iff.1 h0;subst this;simp only;exact⟨_,rfl,by simp,by simpa using hq,Frame.refl _ _⟩
 ·rw[if_neg h0,c2];simp only[Option.bind_some];rw[if_pos ⟨prs_len k,prs_all k⟩];have hlen:0+l.length*2+(fl (prs k)).length<=(fl (prs l++rest)).length:=by rw[prs_len,fl_length,List.length_append,prs_length];omega
  rw[if_pos (by omega),hq];simp only;rw[if_pos hlen];refine⟨_,rfl,by simp,?_,Frame.set _ _ rfl⟩;rw[setAt hq,Nat.zero_add,Nat.mul_comm,fl_putl (by rw[List.length_append,prs_length,prs_length];omega),prs_append,prs_length]
  congr 4
  ·rw[List.take_append_of_le_length (by rw[prs_length];omega),List.take_of_length_le (by rw[prs_length];omega)]
  ·rw[List.drop_append,prs_length,List.drop_of_length_le (by rw[prs_length];omega),Nat.add_sub_cancel_left,List.nil_append]
end
end Go.Shade
namespace Go.Shade
section
variable {cal : FuncId -> Bool} {O : Oracle} {N : Nat}
def CcOk (O:Oracle)(f:FuncId):Prop:=∀(P Q:Nat->Prop) (H:Heap) (b:Nat) (x y:IV) (l k:Dr),H[b]? =some (.row [x,y] false)->TS 2 P H x (fl (prs l))->TS 2 Q H y (fl (prs k))->l.length<=1000000->k.length<=1000000->Wp (O f [.slice b 0 2 2 true 1] H) (CpyR H (l++k))
theorem app_none {Q:Nat->Prop}{H:Heap}{xv:IV}(hx:TS 2 Q H xv (fl (prs []))):lapp H 2 24 .nilSlice xv=some (.nilSlice,H):=by
 obtain⟨c1,c2⟩:=hx.cells2;unfold lapp lappend;rw[c1];rfl
theorem cc_s {fg:FuncId}(hg:GrowOk O fg)(hN:2<N){P Q:Nat->Prop}{H:Heap}{b:Nat}{x y:IV}{l k:Dr}(hb:H[b]? =some (.row [x,y] false))(hx:TS 2 P H x (fl (prs l)))(hy:TS 2 Q H y (fl (prs k)))(hl:l.length<=1000000)(hk:k.length<=1000000) :
  Wp (sCcvS cal O N fg (.slice b 0 2 2 true 1) H) (CpyR H (l++k)):=by
 obtain⟨n,rfl⟩:∃n,N=n+3:=⟨N - 3,by omega⟩;have ix0:lix 1 (.slice b 0 2 2 true 1) (.int .i64 0)=some (.ptr b 0):=rfl;have ix1:lix 1 (.slice b 0 2 2 true 1) (.int .i64 1)=some (.ptr b 1):=rfl;have ln:∀H,llen H .slice (.slice b 0 2 2 true 1)=some (.int .i64 2):=fun _=>rfl;have w1:IntKind.wrap .i64 (0+1)=1:=rfl;have w2:IntKind.wrap .i64 (1+1)=2:=rfl;have wl:IntKind.wrap .i64 (0+(l.length:Int))=l.length:=by rw[Int.zero_add];exact wrap_i64 (by omega) (by omega)
 have wk:IntKind.wrap .i64 ((l.length:Int)+(k.length:Int))=((l.length+k.length:Nat):Int):=by rw[wrap_i64 (by omega) (by omega)];omega
 have rd:∀{K:Heap},K[b]? =some (.row [x,y] false)->lload1 K (.ptr b 0)=some x/\lload1 K (.ptr b 1)=some y:=fun h=>⟨ld1 h,ld1 h⟩;have two:∀(gE:IV->Heap->Option (IV×Heap)) (v1:IV) (K:Heap) (R:Out->Prop),K[b]? =some (.row [x,y] false)->Wp (lapp K 2 24 v1 x) (fun r1=>r1.2[b]? =some (.row [x,y] false)/\Wp (lapp r1.2 2 24 r1.1 y) fun r2=>Wp (gE r2.1 r2.2) R)->Wp (sCcvC3S cal O (n+3) fg gE (n+3) v1 (.slice b 0 2 2 true 1) (.int .i64 2) (.int .i64 0) K) R:=by
  intro gE v1 K R hKb h;rw[sCcvC3S,lbin_lss,ob_some,decide_eq_true (by decide),cnd_true,ix0,ob_some,(rd hKb).1,ob_some];refine Wp.call h ?_;rintro⟨v2,K2⟩ ⟨h2,h3⟩;simp only at h2 h3 ⊢;rw[lbin_add,ob_some,w1,sCcvC3S,lbin_lss,ob_some,decide_eq_true (by decide),cnd_true,ix1,ob_some,(rd h2).2,ob_some];refine Wp.call h3 ?_;rintro⟨v3,K3⟩ h4;simp only at h4 ⊢;rw[lbin_add,ob_some,w2,sCcvC3S,lbin_lss,ob_some,decide_eq_false (by decide),cnd_false];exact h4
 unfold sCcvS sCcvC10S sCcvC9S sCcvC8S sCcvC2S;rw[ln,ob_some];unfold sCcvC1S;rw[sCcvC0S,lbin_lss,ob_some,decide_eq_true (by decide),cnd_true,jn_eq,ix0,ob_some,(rd hb).1,ob_some,hx.len2,ob_some,lbin_add,ob_some,wl,lbin_lss,ob_some,decide_eq_false (by omega),cnd_false];dsimp only;rw[lbin_add,ob_some,w1];rw[sCcvC0S,lbin_lss,ob_some,decide_eq_true (by decide),cnd_true,jn_eq,ix1,ob_some,(rd hb).2,ob_some,hy.len2,ob_some,lbin_add,ob_some,wk,lbin_lss,ob_some,decide_eq_false (by omega),cnd_false];dsimp only;rw[lbin_add,ob_some,w2];rw[sCcvC0S,lbin_lss,ob_some,decide_eq_false (by decide),cnd_false];unfold sCcvC7S;rw[hg H _ (by omega),ob_some];unfold sCcvC6S sCcvC5S;rw[ln,ob_some];unfold sCcvC4S;by_cases h0:l.length+k.length=0
 ·rw[if_pos h0];have e1:l=[]:=List.length_eq_zero_iff.1 (by omega);have e2:k=[]:=List.length_eq_zero_iff.1 (by omega);subst e1 e2;refine two _ _ _ _ hb ?_;rw[app_none hx];refine Wp.ret ⟨hb,?_⟩;rw[app_none hy];exact Wp.ret (Wp.ret ⟨.inl ⟨rfl,rfl⟩,Frame.refl _ _⟩)
 ·rw[if_neg h0];generalize hrep:List.replicate (l.length+k.length) (IV.str [],IV.int .i64 0)=rest;have hrl:rest.length=l.length+k.length:=by rw[←hrep];simp
  have k0:Frame NoF H (H++[IObj.row (fl rest) false]):=Frame.push _ _ _;have r0:(H++[IObj.row (fl rest) false])[H.length]? =some (.row (fl rest) false):=newRow;generalize H++[IObj.row (fl rest) false]=K at *;have hne:b≠H.length:=fun e=>by have:=(ges hb).1;omega
  have hbK:=k0.get (fun h=>h) hb;refine two _ _ _ _ hbK ?_;have a1:=room_app (l:=[]) (rest:=rest) r0 (by omega) (hx.frame k0 fun _ _ h=>h);simp only[List.length_nil,Nat.zero_add,List.nil_append,hrl]at a1;refine a1.mono ?_;rintro⟨v2,K2⟩ ⟨rfl,g2,g3⟩;simp only at g2 g3 ⊢;have kf:Frame NoF H K2:=⟨Nat.le_trans k0.1 g3.1,fun i hi hf=>(g3.2 i (Nat.lt_of_lt_of_le hi k0.1) (fun e=>by simp only at e;omega)).trans (k0.2 i hi hf)⟩;refine⟨g3.get (fun e=>hne e) hbK,?_⟩;have a2:=room_app (l:=l) (k:=k) (rest:=rest.drop l.length) g2 (by rw[List.length_drop];omega) (hy.frame kf fun _ _ h=>h);rw[show l.length+(rest.drop l.length).length=l.length+k.length by rw[List.length_drop];omega]at a2;refine a2.mono ?_;rintro⟨v3,K3⟩ ⟨rfl,g4,g5⟩;have he:(rest.drop l.length).drop k.length=[]:=by rw[List.drop_drop];exact List.drop_of_length_le (by omega)
  rw[he,List.append_nil]at g4;refine Wp.ret ⟨.inr ⟨H.length,(l++k).length,false,by rw[List.length_append],Nat.le_refl _,g4,prs_len _⟩,?_⟩;exact⟨Nat.le_trans kf.1 g5.1,fun i hi hf=>(g5.2 i (Nat.lt_of_lt_of_le hi kf.1) (fun e=>by simp only at e;omega)).trans (kf.2 i hi hf)⟩
end
end Go.Shade
namespace Go.Shade
variable {H : Heap} {M : Nat} {seen : List Nat}
def entS (g:Nam->Bool)(ks:List Nam):List Ent:=ks.zipIdx.map fun p=>(.str p.1,.bool (g p.1),p.2)
def addK (ks:List Nam)(x:Nam):List Nam:=if x∈ks then ks else ks++[x]
section
variable {g : Nam -> Bool} {ks : List Nam} {x k : Nam} {j : Nat}
theorem entS_app :entS g (ks++[x])=entS g ks++[(.str x,.bool (g x),ks.length)]:=by
 simp[entS,List.zipIdx_append]
theorem entS_get (h:ks[j]? =some k):(entS g ks)[j]? =some (.str k,.bool (g k),j):=by
 simp[entS,List.getElem?_map,List.getElem?_zipIdx,h]
theorem entS_mem {e:Ent}(h:e∈entS g ks):∃j k,ks[j]? =some k/\e=(.str k,.bool (g k),j):=by
 obtain⟨⟨k,j⟩,hp,rfl⟩:=List.mem_map.1 h;exact⟨j,k,List.mem_zipIdx_iff_getElem?.1 hp,rfl⟩
theorem entS_in (h:ks[j]? =some k):((.str k,.bool (g k),j):Ent)∈entS g ks:=List.mem_of_getElem? (entS_get h)
theorem ifind_ent (g:Nam->Bool)(x:Nam):∀(ks:List Nam) (o n:Nat),∃r,ifind (.str x) ((ks.zipIdx o).map fun p=>(IV.str p.1,IV.bool (g p.1),p.2)) n=some r/\(x ∉ ks->r=none)/\(x∈ks->∃j,ks[j]? =some x/\r=some (n+j,.bool (g x)))
 | [],o,n=>⟨none,rfl,fun _=>rfl,fun h=>by cases h⟩
 | k::ks,o,n=>by
  simp only[List.zipIdx_cons,List.map_cons,ifind,cellEq];by_cases h:x=k
  ·subst h;simp only[beq_self_eq_true];exact⟨_,rfl,fun h=>absurd (by simp) h,fun _=>⟨0,rfl,rfl⟩⟩
  ·have hb:(x==k)=false:=by simpa using h
   simp only[hb];obtain⟨r,h1,h2,h3⟩:=ifind_ent g x ks (o+1) (n+1);refine⟨r,h1,fun hn=>h2 (fun hm=>hn (by simp[hm])),fun hm=> ?_⟩;rcases List.mem_cons.1 hm with e | hm
   ·exact absurd e h
   ·obtain⟨j,g1,g2⟩:=h3 hm;exact⟨j+1,by simpa using g1,by rw[g2];congr 2;omega⟩
theorem upd_ent (h:H[M]? =some (.map (entS g ks) ks.length)):lupdV H .str (.map M) (.str x) (.bool (g x))=some (.tuple [],H.set M (.map (entS g (addK ks x)) (addK ks x).length)):=by
 unfold lupdV lupdate;simp only[h];rw[show isLS .str (.str x)=true from rfl,if_pos rfl];obtain⟨r,h1,h2,h3⟩:=ifind_ent g x ks 0 0;have h1:ifind (.str x) (entS g ks) 0=some r:=h1;rw[h1];simp only[Option.bind_some];unfold addK;by_cases hm:x∈ks
 ·obtain⟨j,g1,rfl⟩:=h3 hm;rw[if_pos hm];simp only[Nat.zero_add,entS_get (g:=g) g1,Option.map_some,Option.getD_some]
  congr 4
  apply List.ext_getElem?;intro i;rw[List.getElem?_set];split
  ·rename_i e;subst e;rw[entS_get g1];split
   ·rfl
   ·rename_i hl;exact absurd ((ges (entS_get (g:=g) g1)).1) hl
  ·rfl
 ·rw[h2 hm,if_neg hm,entS_app,List.length_append];rfl
theorem ent_at {I since c:Nat}(h1:H[M]? =some (.map (entS g ks) c))(hI:H[I]? =some (.iter (some M) since (seen++[j]) c))(hk:ks[j]? =some k):ientry H (.ptr I 0)=some (.tuple [.str k,.bool (g k)]):=by
 have hf:(entS g ks).find? (fun q=>Nat.beq q.2.2 j)=some (.str k,.bool (g k),j):=by
  cases hq:(entS g ks).find? (fun q=>Nat.beq q.2.2 j)with
  | none =>
   have:=List.find?_eq_none.1 hq _ (entS_in hk);simp at this
  | some q =>
   obtain⟨j',k',g1,rfl⟩:=entS_mem (List.mem_of_find?_eq_some hq);have hp:=List.find?_some hq;have hp:j'=j:=Nat.eq_of_beq_eq_true hp;subst hp;rw[hk]at g1;cases g1;rfl
 simp only[ientry,hI,h1,Nat.beq_refl,if_true,List.getLast?_concat,hf,Option.map_some]
theorem nxt_ent {I:Nat}(hI:H[I]? =some (.iter (some M) ks.length seen ks.length))(hM:H[M]? =some (.map (entS g ks) ks.length)) :
  ∃l,stNxt H (.ptr I 0)=some l/\∀r∈l,(r=(.tuple [.bool false],H)/\∀j,j<ks.length->j∈seen)∨∃j k,ks[j]? =some k/\j ∉ seen/\r=(.tuple [.bool true,.str k,.bool (g k)],H.set I (.iter (some M) ks.length (seen++[j]) ks.length)):=by
 have hb:∀e∈entS g ks,Nat.ble ks.length e.2.2=false:=by
  intro e he;obtain⟨j,k,hk,rfl⟩:=entS_mem he;have:=(ges hk).1
  cases hx:Nat.ble ks.length j with
  | false=>rfl
  | true=>have:=nble hx;omega
 have hno:(!seen.isEmpty&&(!(entS g ks).isEmpty&&(entS g ks).all fun e=>Nat.ble ks.length e.2.2))=false:=by
  cases he:entS g ks with
  | nil=>simp
  | cons e es=>simp[hb e (by rw[he];simp)]
 unfold stNxt;simp only[hI,hM];unfold nxtC;rw[hno];refine⟨_,rfl,fun r hr=> ?_⟩;obtain⟨o,ho,rfl⟩:=List.mem_map.1 hr;rcases List.mem_append.1 ho with ho | ho
 ·split at ho
  ·rename_i hemp;rw[List.mem_singleton]at ho;subst ho;refine .inl ⟨rfl,fun j hj=> ?_⟩;have hk:=List.getElem?_eq_getElem hj;rw[List.isEmpty_iff]at hemp;have:=List.filter_eq_nil_iff.1 hemp _ (entS_in (g:=g) hk);rw[hb _ (entS_in hk)]at this
   simpa using this
  ·cases ho
 ·obtain⟨e,he,rfl⟩:=List.mem_map.1 ho;have key:e∈entS g ks/\e.2.2 ∉ seen:=by
   rcases List.mem_append.1 he with he | he
   ·have:=List.mem_filter.1 he;simp only[Bool.and_eq_true,Bool.not_eq_true']at this;exact⟨this.1,by simpa using this.2.1⟩
   ·have:=List.mem_filter.1 he;simp only[Bool.and_eq_true,Bool.not_eq_true']at this;exact⟨this.1,by simpa using this.2.1⟩
  obtain⟨j,k,hk,rfl⟩:=entS_mem key.1;exact .inr ⟨j,k,hk,key.2,rfl⟩
def pickS (g:Nam->Bool)(ks:List Nam)(seen:List Nat):List Nam:=seen.filterMap fun j=>(ks[j]?).filter g
theorem pick_app (h:ks[j]? =some k):pickS g ks (seen++[j])=pickS g ks seen++(if g k=true then [k]else []):=by
 unfold pickS;rw[List.filterMap_append]
 congr 1
 simp only[List.filterMap_cons,h,Option.filter,List.filterMap_nil];by_cases hg:g k=true
 ·simp[hg]
 ·simp[hg]
theorem pick_range (g:Nam->Bool)(ks:List Nam):∀n,n<=ks.length->pickS g ks (List.range n)=(ks.take n).filter g
 | 0,_=>by simp[pickS]
 | n+1,h=>by
  have hk:=List.getElem?_eq_getElem (l:=ks) (i:=n) (by omega);rw[List.range_succ,pick_app hk,pick_range g ks n (by omega),List.take_add_one,hk,List.filter_append]
  congr 1
  simp only[Option.toList,List.filter_cons,List.filter_nil]
theorem pick_all (h1:seen.Nodup)(h2:∀j∈seen,j<ks.length)(h3:∀j,j<ks.length->j∈seen):(pickS g ks seen).Perm (ks.filter g):=by
 have hp:seen.Perm (List.range ks.length):=(List.perm_ext_iff_of_nodup h1 List.nodup_range).2 fun j=>by rw[List.mem_range];exact⟨h2 j,h3 j⟩
 have:=hp.filterMap fun j=>(ks[j]?).filter g;have e:=pick_range g ks ks.length (Nat.le_refl _);rw[List.take_length]at e;rw[←e];exact this
def unmet (n:Nat)(seen:List Nat):Nat:=((List.range n).filter fun i=> !seen.contains i).length
theorem unmet_lt {n j:Nat}(hj:j<n)(hs:j ∉ seen):unmet n (seen++[j])<unmet n seen:=by
 have h1:((List.range n).filter fun i=> !(seen++[j]).contains i)=((List.range n).filter fun i=> !seen.contains i).filter fun i=> !(i==j):=by
  rw[List.filter_filter]
  congr 1
  funext i
  by_cases h1:i=j<;>by_cases h2:i∈seen<;>simp_all
 unfold unmet;rw[h1,List.length_filter_lt_length_iff_exists];exact⟨j,List.mem_filter.2 ⟨List.mem_range.2 hj,by simpa using hs⟩,by simp⟩
theorem unmet_le (n:Nat):unmet n []<=n:=by
 unfold unmet;exact Nat.le_trans (List.length_filter_le _ _) (by simp)
end
end Go.Shade
namespace Go.Shade
variable {H : Heap} {b1 b2 v : Nat} {l u : Int} {st1 st2 : Brs}
def gotV (st1 st2:Brs)(U L:Int)(x:Nam):Bool:=decide ((getV st1 st2 U L x).2=0)
def namesOf (l:Dr):List Nam:=l.map (·.1)
def keysV (st1 st2:Brs)(U L:Int):List Nam:=(namesOf (allD st1 U++allD st2 L)).foldl addK []
def gThr :IV->IV->IV->Heap->Option (IV×Heap):=fun a b c H=>some (.tuple [a,b,c],H)
section
variable {cal : FuncId -> Bool} {O : Oracle} {N : Nat} {fd fa fc fg fs f1 : FuncId}
theorem all_loop (hg:VGetOk O fg){gE:IV->IV->Heap->Option (IV×Heap)}{R:Out->Prop}{a M B:Nat}{U L:Int}{vs v70:IV}{es:Dr}(hV:VwOk H v b1 b2 u l st1 st2)(haM:a≠M)(hHM:H.length<=M)(hMB:M<B)(hle:es.length<=2000000)
  (hE:∀K ks,ks=(namesOf es).foldl addK []->Frame NoF H K->K[M]? =some (.map (entS (gotV st1 st2 U L) ks) ks.length)->Wp (gE (.map M) v70 K) R) :
  ∀(m n i:Nat) (K:Heap) (ks:List Nam),i+m=es.length->m<n->Frame NoF H K->K[a]? =some (.row [.int .i64 U,.int .i64 L] false)->TS 2 (B<= ·) K vs (fl (prs es))->K[M]? =some (.map (entS (gotV st1 st2 U L) ks) ks.length)->(namesOf es).foldl addK []=(namesOf (es.drop i)).foldl addK ks ->
   Wp (MvAllXC0S cal O N fd fa fc fg fs f1 gE n (.ptr v 0) (.ptr a 0) (.map M) vs (.int .i64 (es.length:Nat)) (.int .i64 (i:Nat)) v70 K) R:=by
 intro m
 induction m with
 | zero =>
  intro n i K ks hi hn hF ha hT hM hk;obtain⟨n,rfl⟩:∃k,n=k+1:=⟨n - 1,by omega⟩;rw[MvAllXC0S,lbin_lss,ob_some,decide_eq_false (by omega),cnd_false];refine hE K ks ?_ hF hM;rw[hk,List.drop_of_length_le (by omega)];rfl
 | succ m ih =>
  intro n i K ks hi hn hF ha hT hM hk;obtain⟨n,rfl⟩:∃k,n=k+1:=⟨n - 1,by omega⟩;have hlt:i<es.length:=by omega
  have he:=List.getElem?_eq_getElem hlt;obtain⟨r,hr,x1,x2,x3,x4⟩:=hT.ix2 he;generalize hee:es[i]=e at *;rw[MvAllXC0S,lbin_lss,ob_some,decide_eq_true (by omega),cnd_true,x1,ob_some,x4,ob_some,lzbox_eq,ob_some];simp only[cells_agg];rw[stn (n:=2) newRow rfl rfl rfl,ob_some];simp only;have k1:Frame NoF K (K++[IObj.row [.str [],.int .i64 0] false]):=Frame.push _ _ _;have k2:Frame NoF K ((K++[IObj.row [.str [],.int .i64 0] false]).set K.length (.row [.str e.1,.int .i64 e.2] false)):=k1.setNew _ (Nat.le_refl _);have r1:((K++[IObj.row [.str [],.int .i64 0] false]).set K.length (.row [.str e.1,.int .i64 e.2] false))[K.length]? =some (.row [.str e.1,.int .i64 e.2] false):=setAt newRow;generalize (K++[IObj.row [.str [],.int .i64 0] false]).set K.length (.row [.str e.1,.int .i64 e.2] false)=K1 at *;have q0:lload1 K1 (.ptr K.length 0)=some (.str e.1):=ld1 r1;rw[ldn (n:=2) (k2.get (fun h=>h) ha) rfl,ob_some,loff_ptr,ob_some,Nat.zero_add,q0,ob_some];refine Wp.call (hg K1 v b1 b2 u l st1 st2 U L e.1 (hV.kp (hF.tr k2))) ?_;rintro⟨w,K2⟩ ⟨rfl,k3⟩;simp only at k3 ⊢;unfold getR nodV;simp only[iextract_tuple,List.getElem?_cons_zero,List.getElem?_cons_succ,ob_some];rw[lzbox_eq,ob_some];simp only[cells_agg];rw[stn (n:=2) newRow rfl rfl rfl,ob_some];simp only;have k4:Frame NoF K2 (K2++[IObj.row [.int .i64 0,.int .i64 0] false]):=Frame.push _ _ _;have k5:Frame NoF K2 ((K2++[IObj.row [.int .i64 0,.int .i64 0] false]).set K2.length (.row [.int .i64 (getV st1 st2 U L e.1).1.1,.int .i64 (getV st1 st2 U L e.1).1.2] false)):=k4.setNew _ (Nat.le_refl _);generalize (K2++[IObj.row [.int .i64 0,.int .i64 0] false]).set K2.length (.row [.int .i64 (getV st1 st2 U L e.1).1.1,.int .i64 (getV st1 st2 U L e.1).1.2] false)=K3 at *;have k35:=k3.tr k5;have kk:=k2.tr k35;have q1:lload1 K3 (.ptr K.length 0)=some (.str e.1):=ld1 (k35.get (fun h=>h) r1);have hMK:=kk.get (fun h=>h) hM;rw[q1,ob_some,lbin_eql,ob_some];have hup:=upd_ent (x:=e.1) hMK;have hgv:gotV st1 st2 U L e.1=decide ((getV st1 st2 U L e.1).2=0):=rfl;rw[hgv]at hup;rw[hup,ob_some,lbin_add,ob_some];have wi:IntKind.wrap .i64 ((i:Int)+1)=((i+1:Nat):Int):=by rw[wrap_i64 (by omega) (by omega)];omega
  rw[wi];simp only;have kM:Frame (· =M) K3 (K3.set M (.map (entS (gotV st1 st2 U L) (addK ks e.1)) (addK ks e.1).length)):=Frame.set _ _ rfl;have hM':(K3.set M (.map (entS (gotV st1 st2 U L) (addK ks e.1)) (addK ks e.1).length))[M]? =some (.map (entS (gotV st1 st2 U L) (addK ks e.1)) (addK ks e.1).length):=setAt hMK;refine ih n (i+1) _ (addK ks e.1) (by omega) (by omega) ((hF.tr kk).setNew _ hHM) (kM.get haM (kk.get (fun h=>h) ha)) ((hT.frame kk fun _ _ h=>h).frame kM fun j hj e=> ?_) hM' ?_
  ·have h1:j=M:=e;have h2:B<=j:=hj;omega
  ·rw[hk,List.drop_eq_getElem_cons hlt,hee];rfl
theorem one_cells {x:IV}(h:x.one=true):x.cells=[x]/\isTuple x=false:=by
 cases x<;>first | exact⟨rfl,rfl⟩ | cases h
theorem lbld2 {x y:IV}(hx:x.one=true)(hy:y.one=true):lbldS H 1 2 [.nilSlice] [(0,x),(1,y)]=some (.slice H.length 0 2 2 true 1,H++[.row [x,y] false]):=by
 obtain⟨c1,t1⟩:=one_cells hx;obtain⟨c2,t2⟩:=one_cells hy;simp[lbldS,ifill,zrep,c1,t1,c2,t2,putAt,hx,hy]
theorem VwOk.all1 (h:VwOk H v b1 b2 u l st1 st2){f:FuncId}(ha:BAllOk O f)(i:Int):Wp (O f [.ptr b1 0,.int .i64 i] H) fun r=>∃v,r.1=.tuple [v,.int .i64 (allE st1 i)]/\CpyR H (allD st1 i) (v,r.2):=by
 obtain⟨o,a⟩:=h.up;exact ha o H b1 st1 i a h.k1 h.l1
theorem VwOk.all2 (h:VwOk H v b1 b2 u l st1 st2){f:FuncId}(ha:BAllOk O f)(i:Int):Wp (O f [.ptr b2 0,.int .i64 i] H) fun r=>∃v,r.1=.tuple [v,.int .i64 (allE st2 i)]/\CpyR H (allD st2 i) (v,r.2):=by
 obtain⟨o,a⟩:=h.low;exact ha o H b2 st2 i a h.k2 h.l2
theorem allD_le {st:Brs}(h:LenInv 1000000 st)(i:Int):(allD st i).length<=1000000:=by
 unfold allD;split
 ·simp
 ·rename_i x hx;obtain⟨h1,h2⟩:=dirOf_inl hx;obtain⟨n,rfl,hn⟩:=nodI_at h1
  cases hd:x.dir with
  | none=>simp
  | some l=>exact h n x l hn hd
theorem all_a (hd:VDirOk O fd)(ha:BAllOk O fa)(hc:CcOk O fc)(hg:VGetOk O fg)(hN:2000000<N){U L:Int}(hV:VwOk H v b1 b2 u l st1 st2)(v7 v16 v70:IV) :
  Wp (MvAllXC8S cal O N fd fa fc fg fs f1 gThr (.ptr v 0) (nodV U L) v7 v16 v70 H) fun r =>
   (dirE st1 st2 U L≠0/\r.1=.tuple [.nilSlice,.int .i64 (dirE st1 st2 U L),v7,v16,v70]/\Frame NoF H r.2)∨
   (dirE st1 st2 U L=0/\∃M,r.1=.tuple [.map M,.nilSlice,v70]/\r.2[M]? =some (.map (entS (gotV st1 st2 U L) (keysV st1 st2 U L)) (keysV st1 st2 U L).length)/\Frame NoF H r.2):=by
 unfold MvAllXC8S;rw[boxN,ob_some];have k0:Frame NoF H (H++[IObj.row [.int .i64 U,.int .i64 L] false]):=Frame.push _ _ _;have ra0:(H++[IObj.row [.int .i64 U,.int .i64 L] false])[H.length]? =some (.row [.int .i64 U,.int .i64 L] false):=newRow;have l0:(H++[IObj.row [.int .i64 U,.int .i64 L] false]).length=H.length+1:=by simp
 simp only;generalize H++[IObj.row [.int .i64 U,.int .i64 L] false]=K at *;unfold MvAllXC7S;rw[ldn (n:=2) ra0 rfl,ob_some];refine Wp.call (hd K v b1 b2 u l st1 st2 U L (hV.kp k0)) ?_;rintro⟨w,K2⟩ ⟨rfl,k2⟩;simp only at k2 ⊢;have kk2:=k0.tr k2;rw[lbin_neq,ob_some];refine Wp.ndec (fun hn=>Wp.ret (.inl ⟨hn,rfl,kk2⟩)) (fun hn=> ?_);unfold MvAllXC6S;have hm:lmkM K2=some (.map K2.length,K2++[.map [] 0]):=rfl;rw[hm,ob_some];have k3:Frame NoF K2 (K2++[IObj.map [] 0]):=Frame.push _ _ _;have rM:(K2++[IObj.map [] 0])[K2.length]? =some (.map [] 0):=newRow;simp only;generalize K2++[IObj.map [] 0]=K3 at *;have kk3:=kk2.tr k3;have ra3:=(k2.tr k3).get (fun h=>h) ra0;have hV3:=hV.kp kk3;unfold MvAllXC5S;rw[lchk_ptr,ob_some,loff_ptr,ob_some,Nat.zero_add,hV3.p0,ob_some,loff_ptr,ob_some,Nat.zero_add,ld1 ra3,List.getElem?_cons_zero,ob_some];refine Wp.call (hV3.all1 ha U) ?_;rintro⟨w,K4⟩ ⟨x,rfl,hx,k4⟩;simp only at hx k4 ⊢;rw[iextract_tuple,iextract_tuple];simp only[List.getElem?_cons_zero,List.getElem?_cons_succ,ob_some];have kk4:=kk3.tr k4;have hV4:=hV.kp kk4;unfold MvAllXC4S;rw[lchk_ptr,ob_some,loff_ptr,ob_some,Nat.zero_add,hV4.p1,ob_some,loff_ptr,ob_some,Nat.zero_add,ld1 (k4.get (fun h=>h) ra3),List.getElem?_cons_succ,List.getElem?_cons_zero,ob_some];refine Wp.call (hV4.all2 ha L) ?_;rintro⟨w,K5⟩ ⟨y,rfl,hy,k5⟩;simp only at hy k5 ⊢;rw[iextract_tuple,iextract_tuple];simp only[List.getElem?_cons_zero,List.getElem?_cons_succ,ob_some];unfold MvAllXC3S MvAllXC2S;rw[lbld2 hx.one hy.one,ob_some];have k6:Frame NoF K5 (K5++[IObj.row [x,y] false]):=Frame.push _ _ _;have rb:(K5++[IObj.row [x,y] false])[K5.length]? =some (.row [x,y] false):=newRow;simp only;generalize K5++[IObj.row [x,y] false]=K6 at *;have l1:=allD_le hV.l1 U;have l2:=allD_le hV.l2 L;refine Wp.call (hc _ _ K6 K5.length x y _ _ rb (hx.frame (k5.tr k6) fun _ _ h=>h) (hy.frame k6 fun _ _ h=>h) l1 l2) ?_;rintro⟨vs,K7⟩ ⟨hT,k7⟩;simp only at hT k7 ⊢;rw[hT.len2,ob_some];unfold MvAllXC1S;have kB:=k4.tr (k5.tr (k6.tr k7));have kH:=kk3.tr kB;have e1:K2.length<K3.length:=(ges rM).1;have e2:K3.length<=K6.length:=(k4.tr (k5.tr k6)).1;have e3:K.length<=K2.length:=k2.1;refine all_loop hg (a:=H.length) (M:=K2.length) (B:=K6.length) hV (by omega) (by omega) (by omega) (by rw[List.length_append];omega) (fun K' ks hks hF hM=> ?_) _ N 0 K7 [] (Nat.zero_add _) (by rw[List.length_append];omega) kH (kB.get (fun h=>h) ra3) hT (kB.get (fun h=>h) rM) rfl;have hks:ks=keysV st1 st2 U L:=hks;subst hks;exact Wp.ret (.inr ⟨hn,K2.length,rfl,hM,hF⟩)
end
end Go.Shade
namespace Go.Shade
variable {H : Heap}
section
variable (fd fa fc fg fs f1 : FuncId)
def allL2 :LC:=.seq (.reg [⟨some 71,.nxt (.t 70),none⟩,⟨some 72,.ext (.t 71) 0,none⟩]) (.seq (.cond (.t 72) .skip (.exit 2)) (.block 3 (MvAllXC9 fd fa fc fg fs f1)))
def allLo :LFun:=⟨lappN 6 (MvAllXC8 fd fa fc fg fs f1) (.seq (.seq (.reg [⟨some 69,.mv (.t 7),none⟩,⟨some 70,.rng (.t 69),none⟩]) (.block 2 (.loop (allL2 fd fa fc fg fs f1)))) (MvAllXC10 fd fa fc fg fs f1)),[.tmp 4,.tmp 5],84⟩
end
def allRs :List LRes:=[(.tmp 4),(.tmp 5),(.tmp 7),(.tmp 16),(.tmp 70)]
def allK :KT (IV×Heap):=fun x E H=>match x with
 | .normal=>gThr (lk E 7) (lk E 16) (lk E 70) H
 | .ret=>resK allRs [] E H
 | .exit _=>none
theorem allK_ret {E:Sg}{r:Out}(h:resK allRs [] E H=some r):r=(.tuple [lk E 4,lk E 5,lk E 7,lk E 16,lk E 70],H):=by cases h;rfl
theorem allK_nor {E:Sg}{r:Out}(h:allK .normal E H=some r):r=(.tuple [lk E 7,lk E 16,lk E 70],H):=by cases h;rfl
def allV (st1 st2:Brs)(U L:Int):List Nam:=srtN ((keysV st1 st2 U L).filter (gotV st1 st2 U L))
def AllR (H:Heap)(st1 st2:Brs)(U L:Int)(r:IV)(K:Heap):Prop :=
 Frame NoF H K/\((dirE st1 st2 U L≠0/\r=.tuple [.nilSlice,.int .i64 (dirE st1 st2 U L)])∨(dirE st1 st2 U L=0/\allV st1 st2 U L=[]/\r=.tuple [.nilSlice,.int .i64 0])∨
  (dirE st1 st2 U L=0/\allV st1 st2 U L≠ []/\∃q ex,r=.tuple [.slice q 0 (allV st1 st2 U L).length (allV st1 st2 U L).length ex 1,.int .i64 0]/\H.length<=q/\K[q]? =some (.row (strs (allV st1 st2 U L)) false)))
def SortOk (O:Oracle)(f g:FuncId):Prop:=(∀H:Heap,O f [.nilSlice,.func (.func g) [] []] H=some (.tuple [],H)) /\
 ∀(H:Heap) (b:Nat) (ex:Bool) (l:List Nam),H[b]? =some (.row (strs l) false)->0<l.length->l.length<4000000->O f [.slice b 0 l.length l.length ex 1,.func (.func g) [] []] H=some (.tuple [],H.set b (.row (strs (srtN l)) false))
def NBuf (B:Nat)(H:Heap)(v:IV)(acc:List Nam):Prop:=Buf B 1 H v (strs acc)/\(acc=[]->v=.nilSlice)
section
variable {cal : FuncId -> Bool} {O : Oracle} {N : Nat} {fd fa fc fg fs f1 : FuncId}
theorem all_b {g:Nam->Bool}{ks:List Nam}{I M since j:Nat}{seen:List Nat}{k:Nam}{acc:List Nam}{v7 v16:IV}(hM:H[M]? =some (.map (entS g ks) ks.length))(hI:H[I]? =some (.iter (some M) since (seen++[j]) ks.length))(hk:ks[j]? =some k)(hB:NBuf (I+1) H v16 acc)(ha:acc.length<=4000000) :
  Wp (MvAllXC9S cal O N fd fa fc fg fs f1 gThr v7 v16 (.ptr I 0) H) fun r=>∃v',r.1=.tuple [v7,v',.ptr I 0]/\NBuf (I+1) r.2 v' (acc++if g k=true then [k]else [])/\Keep (I+1) H r.2:=by
 unfold MvAllXC9S;rw[ent_at hM hI hk,ob_some,iextract_tuple,iextract_tuple];simp only[List.getElem?_cons_zero,List.getElem?_cons_succ,ob_some];have lI:=(ges hI).1
 cases hg:g k with
 | false =>
  rw[cnd_false];exact⟨_,rfl,v16,rfl,by simpa using hB,Keep.refl _ _⟩
 | true =>
  rw[cnd_true];have e1:lbldS H 1 1 [.str []] [(0,.str k)]=some (.slice H.length 0 1 1 true 1,H++[.row [.str k] false]):=rfl;rw[e1,ob_some];have k1:Keep (I+1) H (H++[IObj.row [.str k] false]):=Keep.push _ _ (by omega);have hB1:Buf (I+1) 1 (H++[IObj.row [.str k] false]) v16 (strs acc):=by
   rcases hB.1 with h | ⟨r,n,ex,h1,h2,h3,h4⟩
   ·exact .inl h
   ·exact .inr ⟨r,n,ex,h1,h2,by rw[List.getElem?_append_left (ges h3).1];exact h3,h4⟩
  obtain⟨v',H',g1,g2,g3⟩:=app_own (B:=I+1) (C:=0) (s:=1) (b:=16) (new:=[.str k]) hB1 (by rw[List.length_append];omega) (by omega) (.inr ⟨H.length,1,true,rfl,Nat.zero_le _,newRow,rfl⟩) rfl (by simp[strs];omega);simp only;rw[g1,ob_some];exact⟨_,rfl,v',rfl,⟨by simpa[strs]using g2,fun e=>by simp at e⟩,k1.trans g3⟩
theorem rng_loop {g:Nam->Bool}{ks:List Nam}{K:Heap}{I M:Nat}{kk:IX->Sg->Heap->Prop}(hM:K[M]? =some (.map (entS g ks) ks.length))(hMI:M<I)(hks:ks.length<=4000000)(hQ:∀E H acc,acc.Perm (ks.filter g)->Keep I K H->NBuf (I+1) H (lk E 16) acc->kk (.exit 2) E H) :
  ∀(n:Nat) (E:Sg) (H:Heap) (seen:List Nat),unmet ks.length seen<n->seen.Nodup->(∀j∈seen,j<ks.length)->unmet ks.length seen+seen.length<=ks.length->Keep I K H->H[I]? =some (.iter (some M) ks.length seen ks.length)->NBuf (I+1) H (lk E 16) (pickS g ks seen)->lk E 70=.ptr I 0 ->
   itW (lxW cal O N (allL2 fd fa fc fg fs f1)) n E H kk:=by
 intro n
 induction n with
 | zero=>intro E H seen hm;omega
 | succ n ih =>
  intro E H seen hn hnd hlt hcnt hK hI hB h70;have hMH:=hK.get hMI hM;obtain⟨l,hl,hout⟩:=nxt_ent hI hMH;simp only[itW];unfold allL2;simp only[lxW,lopsW];refine⟨l,by unfold lopW;simp only[lwanted,la,if_true,h70];exact hl,fun r hr=> ?_⟩;rcases hout r hr with⟨rfl,hall⟩ | ⟨j,k,hk,hjs,rfl⟩
  ·refine⟨[(.bool false,H)],rfl,fun r hr=> ?_⟩;rw[List.mem_singleton]at hr;subst hr;exact hQ _ _ _ (pick_all hnd hlt hall) hK hB
  ·refine⟨[(.bool true,H.set I (.iter (some M) ks.length (seen++[j]) ks.length))],rfl,fun r hr=> ?_⟩;rw[List.mem_singleton]at hr;subst hr;simp only;have k1:Keep I H (H.set I (.iter (some M) ks.length (seen++[j]) ks.length)):=Keep.set _ _ (Nat.le_refl _);have hI1:=setAt (o':=IObj.iter (some M) ks.length (seen++[j]) ks.length) hI;have hB1:NBuf (I+1) (H.set I (.iter (some M) ks.length (seen++[j]) ks.length)) (lk E 16) (pickS g ks seen):=by
    refine⟨?_,hB.2⟩;rcases hB.1 with h | ⟨r,n,ex,h1,h2,h3,h4⟩
    ·exact .inl h
    ·exact .inr ⟨r,n,ex,h1,h2,by rw[List.getElem?_set_ne (by omega)];exact h3,h4⟩
   have kk1:=hK.trans k1;generalize H.set I (.iter (some M) ks.length (seen++[j]) ks.length)=H1 at *;have hM1:=kk1.get hMI hM;have hj:j<ks.length:=(ges hk).1;have hlen:(pickS g ks seen).length<=4000000:=by
    have:=List.length_filterMap_le (fun j=>(ks[j]?).filter g) seen;unfold pickS;omega
   show lxW cal O N (MvAllXC9 fd fa fc fg fs f1) _ H1 _;refine lxK_W (k:=allK) (Q:=fun r=>∃v',r.1=.tuple [lk E 7,v',.ptr I 0]/\NBuf (I+1) r.2 v' (pickS g ks seen++if g k=true then [k]else [])/\Keep (I+1) H1 r.2) ?_ ?_
   ·rw[MvAllXC9Eq cal O N fd fa fc fg fs f1 (k:=allK) gThr (fun _ _=>rfl)];have a7:∀v w,lk ((72,v)::(71,w)::E) 7=lk E 7:=fun _ _=>rfl;have a16:∀v w,lk ((72,v)::(71,w)::E) 16=lk E 16:=fun _ _=>rfl;have a70:∀v w,lk ((72,v)::(71,w)::E) 70=lk E 70:=fun _ _=>rfl;simp only[pput,a7,a16,a70,h70];exact all_b hM1 hI1 hk hB1 hlen
   ·rintro x σ' H' r hx ⟨v',hr1,hr2,hr3⟩
    cases x with
    | exit id=>cases hx
    | ret =>
     rw[allK_ret hx]at hr1;simp at hr1
    | normal =>
     rw[allK_nor hx]at hr1 hr2 hr3;simp only[IV.tuple.injEq,List.cons.injEq,and_true]at hr1;obtain⟨b7,rfl,b70⟩:=hr1;simp only at hr2 hr3 ⊢;have hun:=unmet_lt hj hjs;refine ih σ' H' (seen++[j]) (by omega) ?_ ?_ (by rw[List.length_append,List.length_singleton];omega) (kk1.trans (hr3.mono (by omega))) (hr3.get (by omega) hI1) (by rw[pick_app hk];exact hr2) b70
     ·rw[List.nodup_append];refine⟨hnd,by simp,fun a ha b hb=> ?_⟩;rw[List.mem_singleton]at hb;subst hb;exact fun e=>hjs (e▸ha)
     ·intro i hi;rcases List.mem_append.1 hi with hi | hi
      ·exact hlt i hi
      ·rw[List.mem_singleton]at hi;omega
end
end Go.Shade
namespace Go.Shade
open Go.RowKit
section
variable {cal : FuncId -> Bool} {O : Oracle} {N : Nat} {fd fa fc fg fs f1 : FuncId}
theorem all_w (hd:VDirOk O fd)(ha:BAllOk O fa)(hc:CcOk O fc)(hg:VGetOk O fg)(hs:SortOk O fs f1)(hN:4000000<N){H:Heap}{v b1 b2:Nat}{u l:Int}{st1 st2:Brs}{U L:Int}(hV:VwOk H v b1 b2 u l st1 st2)(hks:(keysV st1 st2 U L).length<=2000000) :
  lrunW cal O N (allLo fd fa fc fg fs f1) [.ptr v 0,nodV U L] H (AllR H st1 st2 U L):=by
 unfold lrunW allLo;refine lappN_W ?_;show lxW cal O N (MvAllXC8 fd fa fc fg fs f1) _ H _;refine lxK_W (k:=allK) (Q:=fun r =>
   (dirE st1 st2 U L≠0/\r.1=.tuple [.nilSlice,.int .i64 (dirE st1 st2 U L),.tuple [],.tuple [],.tuple []]/\Frame NoF H r.2)∨
   (dirE st1 st2 U L=0/\∃M,r.1=.tuple [.map M,.nilSlice,.tuple []]/\r.2[M]? =some (.map (entS (gotV st1 st2 U L) (keysV st1 st2 U L)) (keysV st1 st2 U L).length)/\Frame NoF H r.2)) ?_ ?_
 ·rw[MvAllXC8Eq cal O N fd fa fc fg fs f1 (k:=allK) gThr (fun _ _=>rfl) (fun _ _=>rfl)];exact all_a hd ha hc hg (by omega) hV _ _ _
 ·rintro x E K r hx hr
  cases x with
  | exit id=>cases hx
  | ret =>
   rw[allK_ret hx]at hr;rcases hr with⟨h1,hr,hF⟩ | ⟨_,M,hr,_⟩
   ·simp only[IV.tuple.injEq,List.cons.injEq]at hr;refine⟨[.nilSlice,.int .i64 (dirE st1 st2 U L)],?_,hF,.inl ⟨h1,rfl⟩⟩;rw[←hr.1,←hr.2.1];rfl
   ·simp at hr
  | normal =>
   rw[allK_nor hx]at hr;rcases hr with⟨_,hr,_⟩ | ⟨h1,M,hr,hM,hF⟩
   ·simp at hr
   ·simp only[IV.tuple.injEq,List.cons.injEq,and_true]at hr;obtain⟨b7,b16,b70⟩:=hr;simp only at hM hF;generalize hkk:keysV st1 st2 U L=ks at *;generalize hgg:gotV st1 st2 U L=g at *;simp only[lxW,lopsW];refine⟨[(lk E 7,K)],rfl,fun r hr=> ?_⟩;rw[List.mem_singleton]at hr;subst hr;have hrng:stRng K (.map M)=some (.ptr K.length 0,K++[.iter (some M) ks.length [] ks.length]):=by simp only[stRng,hM]
    refine⟨[(.ptr K.length 0,K++[.iter (some M) ks.length [] ks.length])],?_,fun r hr=> ?_⟩
    ·show((stRng K (lk E 7)).bind fun r=>some [r])=_;rw[b7,hrng];rfl
    rw[List.mem_singleton]at hr;subst hr;simp only[pput];have lM:M<K.length:=(ges hM).1;have k1:Frame NoF K (K++[IObj.iter (some M) ks.length [] ks.length]):=Frame.push _ _ _;have rI:(K++[IObj.iter (some M) ks.length [] ks.length])[K.length]? =some (.iter (some M) ks.length [] ks.length):=newRow;have hM1:=k1.get (fun h=>h) hM;generalize K++[IObj.iter (some M) ks.length [] ks.length]=K1 at *;have hun:=unmet_le ks.length;refine rng_loop (K:=K1) hM1 lM (by omega) (fun σ' H' acc hacc hKp hB=> ?_) N _ _ [] (by omega) List.nodup_nil (fun _ h=>by cases h) (by simpa using hun) (Keep.refl _ _) rI ⟨.inl ⟨b16,rfl⟩,fun _=>b16⟩ rfl;show lxW cal O N (MvAllXC10 fd fa fc fg fs f1) σ' H' _;have hFH:Frame NoF H H':=⟨Nat.le_trans hF.1 (Nat.le_trans k1.1 hKp.2),fun i hi hf=>by
     have hiK:=Nat.lt_of_lt_of_le hi hF.1;exact(hKp.1 i hiK).trans ((k1.2 i hiK hf).trans (hF.2 i hi hf))⟩
    have hall:srtN acc=allV st1 st2 U L:=by unfold allV;rw[hkk,hgg];exact srtN_one hacc
    have hlen:acc.length<4000000:=by
     have:=hacc.length_eq;have:=List.length_filter_le g ks;omega
    have hsl:(srtN acc).length=acc.length:=(srtN_perm acc).length_eq;refine lxK_W (k:=fun x E H=>match x with | .ret=>resK allRs [] E H | _=>none) (Q:=fun r=>∃v a b c,r.1=.tuple [v,.int .i64 0,a,b,c]/\AllR H st1 st2 U L (.tuple [v,.int .i64 0]) r.2) ?_ ?_
    ·rw[MvAllXC10Eq cal O N fd fa fc fg fs f1 (k:=fun x E H=>match x with | .ret=>resK allRs [] E H | _=>none) (fun _ _=>rfl)];unfold MvAllXC10S;rcases hB.1 with⟨e,e2⟩ | ⟨q,n,ex,e,g1,g2,g3⟩
     ·rw[e,hs.1 H',ob_some];have:acc=[]:=by simpa[strs]using e2
      subst this;exact⟨_,rfl,_,_,_,_,rfl,hFH,.inr (.inl ⟨h1,by rw[←hall];exact List.length_eq_zero_iff.1 hsl,rfl⟩)⟩
     ·rw[strs_length,Nat.mul_one]at g3;subst g3;rw[e];by_cases h0:acc=[]
      ·have:=hB.2 h0;rw[e]at this;cases this
      ·have hpos:0<acc.length:=List.length_pos_iff.2 h0;have hqH:H.length<=q:=Nat.le_trans hF.1 (by omega);rw[hs.2 H' q ex acc g2 hpos hlen,ob_some];refine⟨_,rfl,_,_,_,_,rfl,hFH.setNew _ hqH,.inr (.inr ⟨h1,?_,q,ex,?_,hqH,?_⟩)⟩
       ·rw[←hall];exact fun e=>by rw[e]at hsl;simp at hsl;omega
       ·rw[←hall,hsl]
       ·rw[←hall];exact setAt g2
    ·rintro x σ2 H2 r hx ⟨w,a,b,c,hr,hR⟩
     cases x with
     | exit id=>cases hx
     | normal=>cases hx
     | ret =>
      have:r=(.tuple [lk σ2 4,lk σ2 5,lk σ2 7,lk σ2 16,lk σ2 70],H2):=allK_ret hx;rw[this]at hr hR;simp only[IV.tuple.injEq,List.cons.injEq]at hr;refine⟨[w,.int .i64 0],?_,hR⟩;rw[←hr.1,←hr.2.1];rfl
end
end Go.Shade
namespace Go.Shade
open Go.RowKit
theorem VR_exf {m:Mp}{r o n lb sz:Nat}{ex:Bool}{u:Value}(h:VR m (.slice r o n lb ex sz) u):VR m (.slice r o n lb false sz) u:=by
 simp only[VR]at *;obtain⟨l,o',c,sp,h1,h2,h3,h4,h5,h6,h7⟩:=h;exact⟨l,o',c,sp,h1,h2,h3,h4,(fun h=>by cases h),h6,h7⟩
theorem SimW.oneRow {P:Program}{g:FuncId}{args:List IV}{H:Heap}{cs vs:List IV}{n lb sz:Nat}{Q:IV->Heap->Prop}(h:SimW P g args H Q)
  (hQ:∀r K,Q r K->Frame NoF H K/\∃q ex,r=.tuple (.slice q 0 n lb ex sz::vs)/\H.length<=q/\K[q]? =some (.row cs false)) (hcs:inBs H.length cs=true) (hvs:inBs H.length vs=true):SimCall P g args H (.tuple (.slice H.length 0 n lb false sz::vs)) (H++[.row cs false]):=by
 intro B0 w0 w m us hR hA;refine(h B0 w0 w m us hR hA).mono ?_;rintro e w' ⟨r,K,m',u,hq,he,hext,hR',hu⟩;obtain⟨hF,q,ex,rfl,hle,hrow⟩:=hQ r K hq;have hu2:VR m' (.tuple (.slice q 0 n lb false sz::vs)) u:=by
  obtain⟨a,h1,h2⟩:=by simpa only[VR]using hu
  obtain⟨x,xs,h3,h4,h5⟩:=by simpa only[VRs]using h2
  simp only[VR];refine⟨a,h1,?_⟩;simp only[VRs];refine⟨x,xs,h3,?_,h5⟩;have:VR m' (.slice q 0 n lb ex sz) x:=by simp only[VR];exact h4
  simpa only[VR]using VR_exf this
 have htake:K.take H.length=H:=by
  apply List.ext_getElem?;intro i;rw[List.getElem?_take];split
  ·rename_i hi;exact hF.2 i hi (fun h=>h)
  ·rename_i hi;rw[List.getElem?_eq_none (by omega)]
 have hc:canon H.length (.tuple (.slice q 0 n lb false sz::vs),K)=some (.tuple (.slice H.length 0 n lb false sz::vs),H++[.row cs false]):=by
  have hle':Nat.ble H.length q=true:=Nat.ble_eq▸hle;unfold canon;simp only[htake];have hall:H.all (inBO H.length)=true:=by
   rw[List.all_eq_true];intro o ho;obtain⟨i,hi⟩:=List.mem_iff_getElem?.1 ho;exact(hR.good i o hi).inBO hR.dom
  rw[hall,(Nat.ble_eq▸hF.1:Nat.ble H.length K.length=true)];have hb:inB H.length (.tuple (.slice q 0 n lb false sz::vs))=false:=by
   simp only[inB,inBs,Bool.and_eq_false_iff];left;exact decide_eq_false (by omega)
  simp only[Bool.and_self,if_true,hb,hrow,hcs,hvs,hle']
 obtain⟨m'',k1,k2,k3⟩:=canon_post hR hext hR' hu2 hc;exact⟨m'',u,he,k1,k2,k3⟩
theorem addK_len (ks:List Nam)(x:Nam):(addK ks x).length<=ks.length+1:=by
 unfold addK;split
 ·omega
 ·simp
theorem fold_len :∀(l ks:List Nam),(l.foldl addK ks).length<=ks.length+l.length
 | [],ks=>Nat.le_refl _
 | x::l,ks=>by
  have:=fold_len l (addK ks x);have:=addK_len ks x;simp only[List.foldl_cons,List.length_cons];omega
theorem keys_le {st1 st2:Brs}(h1:LenInv 1000000 st1)(h2:LenInv 1000000 st2)(U L:Int):(keysV st1 st2 U L).length<=2000000:=by
 have a:=allD_le h1 U;have b:=allD_le h2 L;have:=fold_len (namesOf (allD st1 U++allD st2 L)) [];unfold keysV;simp only[namesOf,List.length_map,List.length_append,List.length_nil]at this ⊢;omega
def allX (st1 st2:Brs)(U L:Int):List Nam×Int:=(if dirE st1 st2 U L=0 then allV st1 st2 U L else [],dirE st1 st2 U L)
def AllP (H:Heap)(v:Nat)(U L:Int)(x:List Nam×Int):Prop:=∃b1 b2 u l st1 st2,VwOk H v b1 b2 u l st1 st2/\x=allX st1 st2 U L
def allOut (H:Heap)(x:List Nam×Int):IV×Heap:=if x.1=[]then(.tuple [.nilSlice,.int .i64 x.2],H)else(.tuple [.slice H.length 0 x.1.length x.1.length false 1,.int .i64 x.2],H++[.row (strs x.1) false])
noncomputable def allT (args:List IV)(H:Heap):Option (IV×Heap):=match args with
 | [.ptr v 0,.agg [.int .i64 U,.int .i64 L]]=>@dite _ (∃x,AllP H v U L x) (Classical.propDecidable _) (fun h=>some (allOut H (Classical.choose h))) (fun _=>none)
 | _=>none
theorem strs_inB (n:Nat):∀l:List Nam,inBs n (strs l)=true
 | []=>rfl
 | s::l=>by
  have:=strs_inB n l;simp only[strs,List.map_cons,inBs,inB,Bool.true_and]at this ⊢;exact this
section
variable {P : Program} {O : Oracle} {fd fa fc fg fs f1 f : FuncId}
theorem sound_allT (hφ:Sound P O)(hm:P.follows .mixedOrders=true)(hlo:LoF P f (allLo fd fa fc fg fs f1))(hd:VDirOk O fd)(ha:BAllOk O fa)(hc:CcOk O fc)(hg:VGetOk O fg)(hs:SortOk O fs f1)(args:List IV)(H:Heap)(r:IV)(H':Heap)(e:allT args H=some (r,H')):SimCall P f args H r H':=by
 unfold allT at e;split at e
 ·rename_i v U L;split at e
  ·rename_i h;obtain⟨b1,b2,u,l,st1,st2,hV,hx⟩:=Classical.choose_spec h;rw[hx]at e;obtain⟨⟨fn,q1,q2⟩,_⟩:=hlo;have hW:=sim_W hφ (fun _ h=>h) hm q1 q2 (nble rfl) (all_w (cal:=callable P) (O:=O) (N:=4000001) hd ha hc hg hs (by omega) hV (keys_le hV.l1 hV.l2 U L));unfold allOut allX at e;simp only at e;by_cases h0:(if dirE st1 st2 U L=0 then allV st1 st2 U L else [])=[]
   ·rw[if_pos h0]at e
    cases e
    refine hW.oneOf (Nat.le_refl _) (fun r H1 hq=> ?_) rfl;obtain⟨hF,hq⟩:=hq;refine⟨?_,fun i o hi=>.inl ⟨(ges hi).1,hi,hF.get (fun h=>h) hi⟩⟩;rcases hq with⟨_,hq⟩ | ⟨h1,_,hq⟩ | ⟨h1,h2,_⟩
    ·exact hq
    ·rw[hq,h1]
    ·rw[if_pos h1]at h0;exact absurd h0 h2
   ·rw[if_neg h0]at e;have h1:dirE st1 st2 U L=0:=by
     by_cases h1:dirE st1 st2 U L=0
     ·exact h1
     ·rw[if_neg h1]at h0;exact absurd rfl h0
    rw[if_pos h1]at e h0;rw[h1]at e
    cases e
    refine hW.oneRow (fun r K hq=> ?_) (strs_inB _ _) rfl;obtain⟨hF,hq⟩:=hq;refine⟨hF,?_⟩;rcases hq with⟨h2,_⟩ | ⟨_,h2,_⟩ | ⟨_,_,q,ex,hq,h3,h4⟩
    ·exact absurd h1 h2
    ·exact absurd h2 h0
    ·exact⟨q,ex,hq,h3,h4⟩
  ·cases e
 ·cases e
theorem Wp.two {α:Type}{x:Option α}{Q R:α->Prop}(h:Wp x Q)(k:Wp x R):∃a,Q a/\R a:=by
 obtain⟨a,h1,h2⟩:=h;obtain⟨b,k1,k2⟩:=k;rw[h1]at k1;cases k1
 exact⟨a,h2,k2⟩
theorem TS.same {P Q:Nat->Prop}{H:Heap}{v:IV}{cs ds:List IV}(h:TS 2 P H v cs)(k:TS 2 Q H v ds):cs=ds:=by
 rcases h with⟨rfl,rfl⟩ | ⟨r,n,ex,rfl,h2,h3,h4⟩<;>rcases k with⟨e,rfl⟩ | ⟨r',n',ex',e,k2,k3,k4⟩
 ·rfl
 ·cases e
 ·cases e
 ·cases e;rw[h3]at k3;cases k3;rfl
theorem fl_inj :∀{a b:Dr},fl (prs a)=fl (prs b)->a=b
 | [],[],_=>rfl
 | [],y::b,h=>by simp[prs,fl]at h
 | x::a,[],h=>by simp[prs,fl]at h
 | (s,i)::a,(t,j)::b,h=>by
  simp only[prs,List.map_cons,fl,List.cons.injEq,IV.str.injEq,IV.int.injEq,true_and]at h;obtain⟨rfl,rfl,h⟩:=h;rw[fl_inj h]
theorem allP_one (hd:VDirOk O fd)(ha:BAllOk O fa)(hg:VGetOk O fg){H:Heap}{v:Nat}{U L:Int}{x y:List Nam×Int}(h:AllP H v U L x)(k:AllP H v U L y):x=y:=by
 obtain⟨b1,b2,u,l,st1,st2,hV,rfl⟩:=h;obtain⟨c1,c2,u',l',st3,st4,kV,rfl⟩:=k;have hr:=hV.row;rw[kV.row]at hr;simp only[Option.some.injEq,IObj.row.injEq,List.cons.injEq,IV.ptr.injEq,IV.int.injEq,and_true,true_and]at hr;obtain⟨rfl,rfl,rfl,rfl⟩:=hr;have e1:dirE st1 st2 U L=dirE st3 st4 U L:=by
  obtain⟨a,⟨a1,_⟩,⟨a2,_⟩⟩:=(hd H v _ _ _ _ st1 st2 U L hV).two (hd H v _ _ _ _ st3 st4 U L kV);rw[a1]at a2;exact IV.int.inj a2 |>.2
 have e2:gotV st1 st2 U L=gotV st3 st4 U L:=by
  funext s
  obtain⟨a,⟨a1,_⟩,⟨a2,_⟩⟩:=(hg H v _ _ _ _ st1 st2 U L s hV).two (hg H v _ _ _ _ st3 st4 U L s kV);rw[a1]at a2;simp only[getR,IV.tuple.injEq,List.cons.injEq,IV.int.injEq,true_and,and_true]at a2;unfold gotV;rw[a2.2]
 have e3:allD st1 U=allD st3 U:=by
  obtain⟨a,⟨x,a1,a2,_⟩,⟨y,a3,a4,_⟩⟩:=(hV.all1 ha U).two (kV.all1 ha U);rw[a1]at a3;simp only[IV.tuple.injEq,List.cons.injEq]at a3;obtain⟨rfl,_⟩:=a3;exact fl_inj (a2.same a4)
 have e4:allD st2 L=allD st4 L:=by
  obtain⟨a,⟨x,a1,a2,_⟩,⟨y,a3,a4,_⟩⟩:=(hV.all2 ha L).two (kV.all2 ha L);rw[a1]at a3;simp only[IV.tuple.injEq,List.cons.injEq]at a3;obtain⟨rfl,_⟩:=a3;exact fl_inj (a2.same a4)
 unfold allX allV keysV;rw[e1,e2,e3,e4]
def VAllOk (O:Oracle)(f:FuncId):Prop:=∀(H:Heap) (v b1 b2:Nat) (u l:Int) (st1 st2:Brs) (U L:Int),VwOk H v b1 b2 u l st1 st2->O f [.ptr v 0,nodV U L] H=some (allOut H (allX st1 st2 U L))
theorem vall_ok (hd:VDirOk O fd)(ha:BAllOk O fa)(hg:VGetOk O fg){ψ:Oracle}(hf:∀args H,ψ f args H=allT args H):VAllOk ψ f:=by
 intro H v b1 b2 u l st1 st2 U L hV;rw[hf];have hx:∃x,AllP H v U L x:=⟨_,_,_,_,_,_,_,hV,rfl⟩;have:allT [.ptr v 0,nodV U L] H=some (allOut H (Classical.choose hx)):=by
  unfold allT nodV;simp only;rw[dif_pos hx]
 rw[this,allP_one hd ha hg (Classical.choose_spec hx) ⟨_,_,_,_,_,_,hV,rfl⟩]
end
end Go.Shade
namespace Go.Shade
theorem sort_ok {ψ:Oracle}{f fc:FuncId}(hf:∀args H,ψ f args H=sortT fc args H):SortOk ψ f fc:=by
 refine⟨fun H=> ?_,fun H b ex l hb h0 hl=> ?_⟩
 ·rw[hf];unfold sortT;exact if_pos rfl
 ·rw[hf];unfold sortT;have e1:unS (((strs l).drop 0).take l.length)=some l:=by
   rw[List.drop_zero,List.take_of_length_le (by rw[strs_length];exact Nat.le_refl _)];exact unS_map l
  simp only[hb,e1];rw[if_pos (by simp;omega)];have hsl:(srtN l).length=l.length:=(srtN_perm l).length_eq;have e2:putAt (strs l) 0 ((srtN l).map .str)=strs (srtN l):=by
   apply List.ext_getElem?;intro j;rw[putAt_get (by rw[List.length_map,strs_length,hsl];omega),List.length_map,hsl];by_cases hj:j<l.length
   ·rw[if_pos ⟨Nat.zero_le _,by omega⟩];rfl
   ·rw[if_neg (by omega),List.getElem?_eq_none (by rw[strs_length];omega),List.getElem?_eq_none (by rw[strs_length,hsl];omega)]
  rw[e2]
def NSl (P:Nat->Prop)(H:Heap)(v:IV)(l:List Nam):Prop:=TS 1 P H v (strs l)
section
variable {cal : FuncId -> Bool} {O : Oracle} {N : Nat}
variable {P Q : Nat -> Prop} {H : Heap} {v x y : IV} {l k : List Nam}
theorem NSl.len (h:NSl P H v l):llen H .slice v=some (.int .i64 (l.length:Nat)):=TS.len h (by omega) (by rw[strs_length];omega)
theorem NSl.at (h:NSl P H v l){i:Nat}(hi:i<l.length):∃r,P r/\lix 1 v (.int .i64 (i:Nat))=some (.ptr r i)/\lload1 H (.ptr r i)=some (.str l[i]):=by
 obtain⟨r,h1,h2,_,h4⟩:=TS.ix1 h (j:=i) (by rw[strs_length];exact hi);exact⟨r,h1,h2,by rw[h4];simp[strs]⟩
end
end Go.Shade
namespace Go.Proofs.YtmkjmfegaalcoaaGreat
open Go.Shade
theorem lo148 :LoF Tryz.prog 148 (lf Tryz.f148):=⟨⟨_,Tryz.func148,by kernel_rfl⟩,by kernel_rfl⟩
theorem e148 (cal:FuncId->Bool)(O:Oracle)(N:Nat)(v0:IV)(H:Heap):lrunK cal O N (lf Tryz.f148) [v0] H=Go.Shade.sCloS cal O N v0 H:=by kernel_rfl
theorem lo126 :LoF Tryz.prog 126 (lf Tryz.f126):=⟨⟨_,Tryz.func126,by kernel_rfl⟩,by kernel_rfl⟩
theorem e126 (cal:FuncId->Bool)(O:Oracle)(N:Nat)(v0:IV)(H:Heap):lrunK cal O N (lf Tryz.f126) [v0] H=Go.Shade.DdAllS cal O N 148 v0 H:=by kernel_rfl
theorem lo76 :LoF Tryz.prog 76 (lf Tryz.f76):=⟨⟨_,Tryz.func76,by kernel_rfl⟩,by kernel_rfl⟩
theorem e76 (cal:FuncId->Bool)(O:Oracle)(N:Nat)(v0 v1:IV)(H:Heap):lrunK cal O N (lf Tryz.f76) [v0,v1] H=Go.Shade.BbAllS cal O N 92 126 v0 v1 H:=by kernel_rfl
theorem lo127 :LoF Tryz.prog 127 (lf Tryz.f127):=⟨⟨_,Tryz.func127,by kernel_rfl⟩,by kernel_rfl⟩
theorem e127 (cal:FuncId->Bool)(O:Oracle)(N:Nat)(v0 v1:IV)(H:Heap):lrunK cal O N (lf Tryz.f127) [v0,v1] H=Go.Shade.sGroS cal O N v0 v1 H:=by kernel_rfl
theorem lo77 :LoF Tryz.prog 77 (Go.Shade.sCcv 127):=⟨⟨Tryz.f77,Tryz.func77,by kernel_rfl⟩,by kernel_rfl⟩
theorem lo32 :LoF Tryz.prog 32 (allLo 71 76 77 28 78 79):=⟨⟨Tryz.f32,Tryz.func32,by kernel_rfl⟩,by kernel_rfl⟩
section
variable {T : Table}
theorem okClone (hT:TbOk T):CloneOk (den Tryz.prog T) 148:=by unfold CloneOk;intros;exact denWp (hT.non 148 rfl) lo148 0 (nble (by kernel_rfl)) (by rw[e148];exact clone_s ‹_› ‹_›)
theorem okDAll (hT:TbOk T):DAllOk (den Tryz.prog T) 126:=by unfold DAllOk;intros;exact denWp (hT.non 126 rfl) lo126 0 (nble (by kernel_rfl)) (by rw[e126];exact dall_s (okClone hT) ‹_› ‹_›)
theorem okBAll (hT:TbOk T):BAllOk (den Tryz.prog T) 76:=by unfold BAllOk;intros;exact denWp (hT.non 76 rfl) lo76 0 (nble (by kernel_rfl)) (by rw[e76];exact ball_s (okBDir hT) (okDAll hT) ‹_› ‹_› ‹_›)
theorem okGrow (hT:TbOk T):GrowOk (den Tryz.prog T) 127:=by unfold GrowOk;intros;exact denLo (hT.non 127 rfl) lo127 0 (nble (by kernel_rfl)) (by rw[e127];exact grow_s ‹_›)
theorem okCc (hT:TbOk T):CcOk (den Tryz.prog T) 77:=by unfold CcOk;intros;exact denWp (hT.non 77 rfl) lo77 3 (nble rfl) (by rw[Go.Shade.sCcvEq];exact cc_s (okGrow hT) (by omega) ‹_› ‹_› ‹_› ‹_› ‹_›)
end
abbrev ts :Table:=ext tt 78 (sortT 79)
theorem sss :SoundT Tryz.prog ts:=soundExt ss sSrt
theorem tbs :TbOk ts:=⟨fun f h=>by
 show(if f=78 then some (sortT 79)else tt f)=none;rw[if_neg (inT_ne h rfl)];exact tb.non f h,rfl,rfl⟩
theorem okSort :SortOk (den Tryz.prog ts) 78 79:=sort_ok fun args H=>den_table (g:=sortT 79) rfl args H
noncomputable abbrev ta :Table:=ext ts 32 allT
theorem ssa :SoundT Tryz.prog ta:=soundExt sss (sound_allT (sound_den sss hm) hm lo32 (okVDir tbs) (okBAll tbs) (okCc tbs) (okVGet tbs) okSort)
theorem tba :TbOk ta:=⟨fun f h=>by
 show(if f=32 then some allT else ts f)=none;rw[if_neg (inT_ne h rfl)];exact tbs.non f h,rfl,rfl⟩
noncomputable abbrev da :Oracle:=den Tryz.prog ta
theorem okVAll :VAllOk da 32:=vall_ok (okVDir tbs) (okBAll tbs) (okVGet tbs) fun args H=>den_table (g:=allT) rfl args H
theorem okAwa (H:Heap):da 23 [] H=some (.bool true,H):=den_table (g:=awF) rfl [] H
end Go.Proofs.YtmkjmfegaalcoaaGreat
namespace Go.Shade
def MvStatS (cal:CB)(O:Oracle)(N:Nat)(f0 f1 f2 f3:FuncId)(v0 v1:IV)(H:Heap):OH :=
 ob (lbox H v1) fun r1 =>ob (lzbox r1.2 (.agg [(.int .i64 0),(.int .i64 0),(.int .i64 0)])) fun r2 =>ob (lloadn r2.2 2 r1.1) fun t3 =>ob (O f0 [v0,t3] r2.2) fun r4 =>ob (lbin .eql r4.1 (.int .i64 0)) fun t5 =>cnd t5
 (ob (lbld [(.int .i64 0),(.int .i64 0),(.int .i64 0)] []) fun t6 =>ob (lstV r4.2 3 r2.1 t6) fun r7 =>ob (lloadn r7.2 3 r2.1) fun t8 =>some ((.tuple [t8,(.int .i64 2)]),r7.2))
 (ob (lloadn r4.2 2 r1.1) fun t9 =>ob (O f1 [v0,t9] r4.2) fun r10 =>ob (iextract r10.1 0) fun t11 =>ob (iextract r10.1 1) fun t12 =>ob (O f2 [t11,t12] r10.2) fun r13 =>ob (iextract r13.1 0) fun t14 =>ob (iextract r13.1 1) fun t15 =>ob (lzbox r13.2 (.agg [(.int .i64 0),(.int .i64 0),(.int .i64 0)])) fun r16 =>ob (lstV r16.2 3 r16.1 t14) fun r17 =>jn (fun(H32:Heap) =>ob (lloadn H32 3 r16.1) fun t33 =>ob (lstV H32 3 r2.1 t33) fun r34 =>ob (lloadn r34.2 3 r2.1) fun t35 =>some ((.tuple [t35,t15]),r34.2)) fun J18 =>ob (lbin .eql r4.1 (.int .i64 2)) fun t36 =>cnd t36
 (ob (lloadn r17.2 2 r1.1) fun t37 =>ob (O f3 [v0,t37] r17.2) fun r38 =>ob (iextract r38.1 0) fun t39 =>ob (iextract r38.1 1) fun t40 =>ob (llen r38.2 .slice t39) fun t41 =>ob (loff r16.1 1) fun t42 =>ob (lstV r38.2 1 t42 t41) fun r43 =>J18 r43.2)
 (J18 r17.2))
def BbStatS (cal:CB)(O:Oracle)(N:Nat)(f0 f1 f2:FuncId)(v0 v1:IV)(H:Heap):OH :=
 ob (lzbox H (.agg [(.int .i64 0),(.int .i64 0),(.int .i64 0)])) fun r1 =>ob (O f0 [v0,v1] r1.2) fun r2 =>ob (leqv false (leq .ptr r2.1 .nilPtr)) fun t3 =>cnd t3
 (ob (lbld [(.int .i64 0),(.int .i64 0),(.int .i64 0)] []) fun t4 =>ob (lstV r2.2 3 r1.1 t4) fun r5 =>ob (lloadn r5.2 3 r1.1) fun t6 =>some ((.tuple [t6,(.int .i64 2)]),r5.2))
 (ob (lchk r2.1) fun t7 =>ob (loff t7 0) fun t8 =>ob (lload1 r2.2 t8) fun t9 =>ob (lchk r2.1) fun t10 =>ob (loff t10 7) fun t11 =>ob (lload1 r2.2 t11) fun t12 =>ob (llen r2.2 .str t12) fun t13 =>ob (lchk r2.1) fun t14 =>ob (loff t14 1) fun t15 =>ob (lload1 r2.2 t15) fun t16 =>ob (lbld [(.int .i64 0),(.int .i64 0),(.int .i64 0)] [(0,1,t9),(1,1,t13),(2,1,t16)]) fun t17 =>ob (lzbox r2.2 (.agg [(.int .i64 0),(.int .i64 0),(.int .i64 0)])) fun r18 =>ob (lstV r18.2 3 r18.1 t17) fun r19 =>
  ckd ((!(true)||((!(false))&&ivo (lload1 r2.2 t8) t9&&ivo (lload1 r18.2 t8) t9))&&((!(true)||((!(false))&&ivo (lload1 r2.2 t11) t12&&ivo (lload1 r18.2 t11) t12))&&((!(true)||((!(false))&&ivo (llen r2.2 .str t12) t13&&ivo (llen r18.2 .str t12) t13))&&((!(true)||((!(false))&&ivo (lload1 r2.2 t15) t16&&ivo (lload1 r18.2 t15) t16))&&true)))) <|
 ob (lchk r2.1) fun t20 =>ob (loff t20 0) fun t21 =>ob (lload1 r19.2 t21) fun t22 =>jn (fun(H40:Heap) =>ob (lloadn H40 3 r18.1) fun t41 =>ob (lstV H40 3 r1.1 t41) fun r42 =>ob (lloadn r42.2 3 r1.1) fun t43 =>some ((.tuple [t43,(.int .i64 0)]),r42.2)) fun J23 =>ob (lbin .eql t22 (.int .i64 1)) fun t44 =>cnd t44
 (ob (lchk r2.1) fun t45 =>ob (loff t45 5) fun t46 =>ob (lload1 r19.2 t46) fun t47 =>ob (O f1 [t47] r19.2) fun r48 =>ob (loff r18.1 1) fun t49 =>ob (lstV r48.2 1 t49 r48.1) fun r50 =>J23 r50.2)
 (ob (lbin .eql t22 (.int .i64 2)) fun t51 =>cnd t51
 (ob (lchk r2.1) fun t52 =>ob (loff t52 6) fun t53 =>ob (lload1 r19.2 t53) fun t54 =>ob (O f2 [t54] r19.2) fun r55 =>ob (loff r18.1 1) fun t56 =>ob (lstV r55.2 1 t56 r55.1) fun r57 =>J23 r57.2)
 (J23 r19.2)))
def VeneerBlockBodySizeS (cal:CB)(O:Oracle)(N:Nat)(v0:IV)(H:Heap):OH :=
 ob (lchk v0) fun t1 =>ob (loff t1 0) fun t2 =>ob (lload1 H t2) fun t3 =>some (t3,H)
end Go.Shade
namespace Go.Shade
def statV (x:Int×Int×Int×Int):IV:=.tuple [.agg [.int .i64 x.1,.int .i64 x.2.1,.int .i64 x.2.2.1],.int .i64 x.2.2.2]
section
variable {cal : FuncId -> Bool} {O : Oracle} {N : Nat} {fa fs fd fk fi fb fl fq : FuncId}
def BSizeOk (O:Oracle)(f:FuncId):Prop:=∀(H:Heap) (p:Nat) (c:IV) (cs:List IV),H[p]? =some (.row (c::cs) false)->O f [.ptr p 0] H=some (c,H)
theorem bsize_s {H:Heap}{p:Nat}{c:IV}{cs:List IV}(h:H[p]? =some (.row (c::cs) false)):VeneerBlockBodySizeS cal O N (.ptr p 0) H=some (c,H):=by
 unfold VeneerBlockBodySizeS;rw[lchk_ptr,ob_some,loff_ptr,ob_some,Nat.zero_add,ld1 h,List.getElem?_cons_zero,ob_some]
def StatP (O:Oracle)(f:FuncId)(vs:List IV)(H:Heap)(x:Int×Int×Int×Int):Prop:=∀K,Frame NoF H K->Wp (O f vs K) fun r=>r.1=statV x/\Frame NoF K r.2
def BStatOk (O:Oracle)(f:FuncId):Prop:=∀(own:Nat->Nat) (H:Heap) (b:Nat) (st:Brs) (i:Int),BrOk own H b st->KInv st->∃x,(kindOf st i≠0->x.2.2.2=0)/\StatP O f [.ptr b 0,.int .i64 i] H x
theorem bstat_s (ha:AtOk O fa)(hs:BSizeOk O fs)(hd:DLenOk O fd){own:Nat->Nat}{H:Heap}{b:Nat}{st:Brs}{i:Int}(h:BrOk own H b st)(hK:KInv st) :
  ∃x,(kindOf st i≠0->x.2.2.2=0)/\∀K,Frame NoF H K->Wp (BbStatS cal O N fa fs fd (.ptr b 0) (.int .i64 i) K) fun r=>r.1=statV x/\Frame NoF K r.2:=by
 cases hx:nodI st i with
 | none =>
  refine⟨(0,0,0,2),fun hk=>absurd (by unfold kindOf;rw[hx]) hk,fun K kK=> ?_⟩;unfold BbStatS;rw[lzbox_eq,ob_some];simp only[cells_agg];have k1:Frame NoF K (K++[IObj.row [.int .i64 0,.int .i64 0,.int .i64 0] false]):=Frame.push _ _ _;have ra:(K++[IObj.row [.int .i64 0,.int .i64 0,.int .i64 0] false])[K.length]? =some (.row [.int .i64 0,.int .i64 0,.int .i64 0] false):=newRow;generalize K++[IObj.row [.int .i64 0,.int .i64 0,.int .i64 0] false]=K1 at *;rw[ha own K1 b st i (h.kp (kK.tr k1)),hx,ob_some];have e0:lbld [(.int .i64 0),(.int .i64 0),(.int .i64 0)] []=some (.agg [.int .i64 0,.int .i64 0,.int .i64 0]):=rfl;simp only[eqv_nn,ob_some,cnd_true,e0];rw[stn (n:=3) ra rfl rfl rfl,ob_some];simp only;rw[ldn (n:=3) (setAt ra) rfl,ob_some];exact Wp.ret ⟨rfl,k1.setNew _ (Nat.le_refl _)⟩
 | some x =>
  obtain⟨n,rfl,hn⟩:=nodI_at hx;have hsz:∃sz:Int,∀K,Frame NoF H K->∀(J:Heap->Option Out) (c:Nat) (Q:Out->Prop),K[c]? =some (.row [.int .i64 x.kind,.int .i64 x.target.length,.int .i64 x.links] false)->(∀K',K'=K∨K'=K.set c (.row [.int .i64 x.kind,.int .i64 sz,.int .i64 x.links] false)->K'[c]? =some (.row [.int .i64 x.kind,.int .i64 sz,.int .i64 x.links] false)->Wp (J K') Q)->Wp (
    ob (lbin .eql (.int .i64 x.kind) (.int .i64 1)) fun t44 =>
    cnd t44
    (ob (lload1 K (.ptr x.p 5)) fun t47 =>
    ob (O fs [t47] K) fun r48 =>
    ob (lstV r48.2 1 (.ptr c 1) r48.1) fun r50 =>
    J r50.2)
    (ob (lbin .eql (.int .i64 x.kind) (.int .i64 2)) fun t51 =>
    cnd t51
    (ob (lload1 K (.ptr x.p 6)) fun t54 =>
    ob (O fd [t54] K) fun r55 =>
    ob (lstV r55.2 1 (.ptr c 1) r55.1) fun r57 =>
    J r57.2)
    (J K))) Q:=by
   obtain⟨n1,n2,hN⟩:=h.nod n x hn;by_cases h1:x.kind=1
   ·have hb:=(hK.body n x hn).1 h1;obtain⟨_,_,sz,m,es,c,hrow,_⟩:=hN.bod hb;refine⟨sz,fun K kK J c Q hc hJ=> ?_⟩;have hrK:=kK.get (fun h=>h) hrow;have hpK:=kK.get (fun h=>h) hN.row;have e5:lload1 K (.ptr x.p 5)=some (.ptr x.q 0):=by
     rw[ld1 hpK];show some (if x.body=true then IV.ptr x.q 0 else .nilPtr)=_;rw[if_pos hb]
    rw[lbin_eql,ob_some,decide_eq_true h1,cnd_true,e5,ob_some,hs K x.q _ _ hrK,ob_some];simp only;rw[Go.Shade.st1 hc (by simp only[one_int]) (by simp),ob_some];exact hJ _ (.inr rfl) (setAt hc)
   ·by_cases h2:x.kind=2
    ·obtain⟨l,n',e1,hn',hl,hD,hrow,e6⟩:=dir_of h hK hx h2;refine⟨(l.length:Nat),fun K kK J c Q hc hJ=> ?_⟩;have hpK:=kK.get (fun h=>h) hN.row;have e6:lload1 K (.ptr x.p 6)=some (.ptr x.q 0):=by
      rw[ld1 hpK];show some (if x.dir.isSome=true then IV.ptr x.q 0 else .nilPtr)=_;rw[if_pos (by rw[hl];rfl)]
     rw[lbin_eql,ob_some,decide_eq_false h1,cnd_false,lbin_eql,ob_some,decide_eq_true h2,cnd_true,e6,ob_some,hd _ K x.q l (hD.kp kK),ob_some];simp only;rw[Go.Shade.st1 hc (by simp only[one_int]) (by simp),ob_some];exact hJ _ (.inr rfl) (setAt hc)
    ·refine⟨(x.target.length:Nat),fun K kK J c Q hc hJ=> ?_⟩;rw[lbin_eql,ob_some,decide_eq_false h1,cnd_false,lbin_eql,ob_some,decide_eq_false h2,cnd_false];exact hJ K (.inl rfl) hc
  obtain⟨sz,hsz⟩:=hsz;refine⟨(x.kind,sz,x.links,0),fun _=>rfl,fun K kK=> ?_⟩;unfold BbStatS;rw[lzbox_eq,ob_some];simp only[cells_agg];have k1:Frame NoF K (K++[IObj.row [.int .i64 0,.int .i64 0,.int .i64 0] false]):=Frame.push _ _ _;have ra:(K++[IObj.row [.int .i64 0,.int .i64 0,.int .i64 0] false])[K.length]? =some (.row [.int .i64 0,.int .i64 0,.int .i64 0] false):=newRow;have l1:(K++[IObj.row [.int .i64 0,.int .i64 0,.int .i64 0] false]).length=K.length+1:=by simp
  generalize K++[IObj.row [.int .i64 0,.int .i64 0,.int .i64 0] false]=K1 at *;have h1:=h.kp (kK.tr k1);rw[ha own K1 b st n h1,hx,ob_some];have hrow:=nod_row h1 hx;have p0:lload1 K1 (.ptr x.p 0)=some (.int .i64 x.kind):=ld1 hrow;have p7:lload1 K1 (.ptr x.p 7)=some (.str x.target):=ld1 hrow;have p1:lload1 K1 (.ptr x.p 1)=some (.int .i64 x.links):=ld1 hrow;have e3:lbld [(.int .i64 0),(.int .i64 0),(.int .i64 0)] [(0,1,.int .i64 x.kind),(1,1,.int .i64 x.target.length),(2,1,.int .i64 x.links)]=some (.agg [.int .i64 x.kind,.int .i64 x.target.length,.int .i64 x.links]):=rfl;have k2:Frame NoF K1 (K1++[IObj.row [.int .i64 0,.int .i64 0,.int .i64 0] false]):=Frame.push _ _ _;have q0:lload1 (K1++[IObj.row [.int .i64 0,.int .i64 0,.int .i64 0] false]) (.ptr x.p 0)=some (.int .i64 x.kind):=ld1 (k2.get (fun h=>h) hrow);have q7:lload1 (K1++[IObj.row [.int .i64 0,.int .i64 0,.int .i64 0] false]) (.ptr x.p 7)=some (.str x.target):=ld1 (k2.get (fun h=>h) hrow);have q1:lload1 (K1++[IObj.row [.int .i64 0,.int .i64 0,.int .i64 0] false]) (.ptr x.p 1)=some (.int .i64 x.links):=ld1 (k2.get (fun h=>h) hrow);simp only[eqv_nil,ob_some,cnd_false,lchk_ptr,loff_ptr,Nat.zero_add,p0,p7,p1,llen_str,e3,lzbox_eq,cells_agg];rw[stn (n:=3) newRow rfl rfl rfl,ob_some];simp only[q0,q7,q1,ivo_refl,Bool.not_true,Bool.not_false,Bool.false_or,Bool.and_self,ckd_true];have k3:Frame NoF K1 ((K1++[IObj.row [.int .i64 0,.int .i64 0,.int .i64 0] false]).set K1.length (.row [.int .i64 x.kind,.int .i64 x.target.length,.int .i64 x.links] false)):=k2.setNew _ (Nat.le_refl _);have rc:((K1++[IObj.row [.int .i64 0,.int .i64 0,.int .i64 0] false]).set K1.length (.row [.int .i64 x.kind,.int .i64 x.target.length,.int .i64 x.links] false))[K1.length]? =some (.row [.int .i64 x.kind,.int .i64 x.target.length,.int .i64 x.links] false):=setAt newRow;generalize (K1++[IObj.row [.int .i64 0,.int .i64 0,.int .i64 0] false]).set K1.length (.row [.int .i64 x.kind,.int .i64 x.target.length,.int .i64 x.links] false)=K2 at *;have p0:lload1 K2 (.ptr x.p 0)=some (.int .i64 x.kind):=ld1 (k3.get (fun h=>h) hrow);rw[p0,ob_some,jn_eq];refine hsz K2 (kK.tr (k1.tr k3)) (fun H40=>ob (lloadn H40 3 (.ptr K1.length 0)) fun t41=>ob (lstV H40 3 (.ptr K.length 0) t41) fun r42=>ob (lloadn r42.2 3 (.ptr K.length 0)) fun t43=>some (.tuple [t43,.int .i64 0],r42.2)) K1.length _ rc fun K' hK' rc'=> ?_;have k4:Frame NoF K1 K':=by
   rcases hK' with rfl | rfl
   ·exact k3
   ·exact k3.setNew _ (Nat.le_refl _)
  rw[ldn (n:=3) rc' rfl,ob_some,stn (n:=3) (k4.get (fun h=>h) ra) rfl rfl rfl,ob_some];simp only;rw[ldn (n:=3) (setAt (k4.get (fun h=>h) ra)) rfl,ob_some];exact Wp.ret ⟨rfl,(k1.tr k4).setNew _ (Nat.le_refl _)⟩
end
end Go.Shade
namespace Go.Shade
end Go.Shade
namespace Go.Shade
section
variable {cal : FuncId -> Bool} {O : Oracle} {N : Nat}
end
end Go.Shade
namespace Go.Shade
end Go.Shade
namespace Go.Shade
structure BrsO (o1 o2:Nat->Nat)(H:Heap)(b1 b2:Nat)(st1 st2:Brs):Prop where
 up:BrOk o1 H b1 st1
 low:BrOk o2 H b2 st2
 dj:Dj o1 o2
 i1:BInv 400 st1
 i2:BInv 400 st2
theorem BrsO.view {o1 o2:Nat->Nat}{H:Heap}{b1 b2 v:Nat}{st1 st2:Brs}{u l:Int}(h:BrsO o1 o2 H b1 b2 st1 st2)(hv:H[v]? =some (.row [.ptr b1 0,.ptr b2 0,.int .i64 u,.int .i64 l] false)):VwOk H v b1 b2 u l st1 st2 :=
 ⟨hv,⟨_,h.up⟩,⟨_,h.low⟩,h.i1.ki,h.i2.ki,(h.i1.mono (by omega)).len,(h.i2.mono (by omega)).len⟩
theorem Aft.free {own own':Nat->Nat}{H:Heap}{b:Nat}{st':Brs}{r:Out}(hA:Aft own H b r own' st'){j:Nat}(h:own j=0)(hj:j<H.length):own' j=0:=by
 cases e:own' j with
 | zero=>rfl
 | succ n =>
  rcases hA.up j (by omega)with e | e
  ·exact absurd h e
  ·omega
theorem allOut_ok (K:Heap)(x:List Nam×Int):∃w K',allOut K x=(.tuple [w,.int .i64 x.2],K')/\Frame NoF K K'/\NSl (K.length<= ·) K' w x.1:=by
 unfold allOut;by_cases h:x.1=[]
 ·rw[if_pos h,h];exact⟨_,_,rfl,Frame.refl _ _,.inl ⟨rfl,rfl⟩⟩
 ·rw[if_neg h];exact⟨_,_,rfl,Frame.push _ _ _,.inr ⟨K.length,x.1.length,false,rfl,Nat.le_refl _,newRow,by rw[strs_length,Nat.mul_one]⟩⟩
theorem allX_le {c1 c2:Nat}{st1 st2:Brs}(h1:BInv c1 st1)(h2:BInv c2 st2)(hc:c1<=1000000/\c2<=1000000)(U L:Int):(allX st1 st2 U L).1.length<=4000000:=by
 have hk:=keys_le (st1:=st1) (st2:=st2) (h1.mono hc.1).len (h2.mono hc.2).len U L;unfold allX;split
 ·unfold allV;have a:=(srtN_perm ((keysV st1 st2 U L).filter (gotV st1 st2 U L))).length_eq;have b:=List.length_filter_le (gotV st1 st2 U L) (keysV st1 st2 U L);simp only;omega
 ·simp
section
variable {cal : FuncId -> Bool} {O : Oracle} {N : Nat}
end
end Go.Shade
namespace Go.Shade
section
variable {cal : FuncId -> Bool} {O : Oracle} {N : Nat} {fk fi fs fal : FuncId}
def VStatOk (O:Oracle)(f:FuncId):Prop:=∀(H:Heap) (v b1 b2:Nat) (u l:Int) (st1 st2:Brs) (U L:Int),VwOk H v b1 b2 u l st1 st2->∃x,(dirE st1 st2 U L=0->x.2.2.2=0/\x.2.1=(((allX st1 st2 U L).1.length:Nat):Int))/\StatP O f [.ptr v 0,nodV U L] H x
theorem dirE_kind {st1 st2:Brs}{U L:Int}(h:dirE st1 st2 U L=0):kindV st1 st2 U L=2:=by
 unfold dirE at h;split at h
 ·cases h
 ·split at h
  ·assumption
  ·cases h
theorem vstat_s (hk:VKindOk O fk)(hi:VSideOk O fi)(hs:BStatOk O fs)(hal:VAllOk O fal){H:Heap}{v b1 b2:Nat}{u l:Int}{st1 st2:Brs}{U L:Int}(hV:VwOk H v b1 b2 u l st1 st2) :
  ∃x,(dirE st1 st2 U L=0->x.2.2.2=0/\x.2.1=(((allX st1 st2 U L).1.length:Nat):Int))/\∀K,Frame NoF H K->Wp (MvStatS cal O N fk fi fs fal (.ptr v 0) (nodV U L) K) fun r=>r.1=statV x/\Frame NoF K r.2:=by
 have hside:∃(b:Nat) (i:Int) (y:Int×Int×Int×Int),(∀K,Frame NoF H K->Wp (O fi [.ptr v 0,nodV U L] K) fun r=>r.1=.tuple [.ptr b 0,.int .i64 i]/\Frame NoF K r.2)/\(kindV st1 st2 U L≠0->y.2.2.2=0)/\StatP O fs [.ptr b 0,.int .i64 i] H y:=by
  by_cases hU:U=0
  ·obtain⟨o,a⟩:=hV.low;obtain⟨y,h1,h2⟩:=hs o H b2 st2 L a hV.k2;refine⟨b2,L,y,fun K kK=>(hi K v b1 b2 u l st1 st2 U L (hV.kp kK)).mono fun r hr=>by rw[if_pos hU]at hr;exact hr,fun hk=>h1 fun h0=>hk ?_,h2⟩;unfold kindV;rw[if_pos hU,h0];rfl
  ·obtain⟨o,a⟩:=hV.up;obtain⟨y,h1,h2⟩:=hs o H b1 st1 U a hV.k1;refine⟨b1,U,y,fun K kK=>(hi K v b1 b2 u l st1 st2 U L (hV.kp kK)).mono fun r hr=>by rw[if_neg hU]at hr;exact hr,fun hk=>h1 fun h0=>hk ?_,h2⟩;unfold kindV;rw[if_neg hU,h0];rfl
 obtain⟨b,i,y,hsd,hy0,hst⟩:=hside;refine⟨if kindV st1 st2 U L=0 then(0,0,0,2)else if kindV st1 st2 U L=2 then(y.1,(((allX st1 st2 U L).1.length:Nat):Int),y.2.2.1,y.2.2.2)else y,fun hd=> ?_,fun K kK=> ?_⟩
 ·have h2:=dirE_kind hd;rw[if_neg (by omega),if_pos h2];exact⟨hy0 (by omega),rfl⟩
 unfold MvStatS;rw[boxN,ob_some];have k0:Frame NoF K (K++[IObj.row [.int .i64 U,.int .i64 L] false]):=Frame.push _ _ _;have ra:(K++[IObj.row [.int .i64 U,.int .i64 L] false])[K.length]? =some (.row [.int .i64 U,.int .i64 L] false):=newRow;have l0:(K++[IObj.row [.int .i64 U,.int .i64 L] false]).length=K.length+1:=by simp
 simp only;generalize K++[IObj.row [.int .i64 U,.int .i64 L] false]=K0 at *;rw[lzbox_eq,ob_some];simp only[cells_agg];have k1:Frame NoF K0 (K0++[IObj.row [.int .i64 0,.int .i64 0,.int .i64 0] false]):=Frame.push _ _ _;have rc:(K0++[IObj.row [.int .i64 0,.int .i64 0,.int .i64 0] false])[K0.length]? =some (.row [.int .i64 0,.int .i64 0,.int .i64 0] false):=newRow;have ra1:=k1.get (fun h=>h) ra;generalize K0++[IObj.row [.int .i64 0,.int .i64 0,.int .i64 0] false]=K1 at *;rw[ldn (n:=2) ra1 rfl,ob_some];refine Wp.call (hk K1 v b1 b2 u l st1 st2 U L (hV.kp (kK.tr (k0.tr k1)))) ?_;rintro⟨w,K2⟩ ⟨rfl,k2⟩;simp only at k2 ⊢;have kf:=k0.tr (k1.tr k2);have ra2:=k2.get (fun h=>h) ra1;have rc2:=k2.get (fun h=>h) rc;have hcl:K.length<=K0.length:=k0.1;have e0:lbld [(.int .i64 0),(.int .i64 0),(.int .i64 0)] []=some (.agg [.int .i64 0,.int .i64 0,.int .i64 0]):=rfl;rw[lbin_eql,ob_some];by_cases h0:kindV st1 st2 U L=0
 ·rw[decide_eq_true h0,cnd_true,if_pos h0,e0,ob_some,stn (n:=3) rc2 rfl rfl rfl,ob_some];simp only;rw[ldn (n:=3) (setAt rc2) rfl,ob_some];exact Wp.ret ⟨rfl,kf.setNew _ hcl⟩
 rw[decide_eq_false h0,cnd_false,if_neg h0,ldn (n:=2) ra2 rfl,ob_some];refine Wp.call (hsd K2 (kK.tr kf)) ?_;rintro⟨w,K3⟩ ⟨rfl,k3⟩;simp only at k3 ⊢;simp only[iextract_tuple,List.getElem?_cons_zero,List.getElem?_cons_succ,ob_some];have kf3:=kf.tr k3;refine Wp.call (hst K3 (kK.tr kf3)) ?_;rintro⟨w,K4⟩ ⟨rfl,k4⟩;unfold statV;simp only at k4 ⊢;simp only[iextract_tuple,List.getElem?_cons_zero,List.getElem?_cons_succ,ob_some];have kf4:=kf3.tr k4;have ra4:=(k3.tr k4).get (fun h=>h) ra2;have rc4:=(k3.tr k4).get (fun h=>h) rc2;rw[lzbox_eq,ob_some];simp only[cells_agg];rw[stn (n:=3) newRow rfl rfl rfl,ob_some];have k5:Frame NoF K4 (K4++[IObj.row [.int .i64 0,.int .i64 0,.int .i64 0] false]):=Frame.push _ _ _;have k6:Frame NoF K4 ((K4++[IObj.row [.int .i64 0,.int .i64 0,.int .i64 0] false]).set K4.length (.row [.int .i64 y.1,.int .i64 y.2.1,.int .i64 y.2.2.1] false)):=k5.setNew _ (Nat.le_refl _);have rs:((K4++[IObj.row [.int .i64 0,.int .i64 0,.int .i64 0] false]).set K4.length (.row [.int .i64 y.1,.int .i64 y.2.1,.int .i64 y.2.2.1] false))[K4.length]? =some (.row [.int .i64 y.1,.int .i64 y.2.1,.int .i64 y.2.2.1] false):=setAt newRow;simp only;generalize (K4++[IObj.row [.int .i64 0,.int .i64 0,.int .i64 0] false]).set K4.length (.row [.int .i64 y.1,.int .i64 y.2.1,.int .i64 y.2.2.1] false)=K5 at *;have kf5:=kf4.tr k6;have hs4:K.length<=K4.length:=kf4.1;have fin:∀K' (z:Int),Frame NoF K K'->K'[K0.length]? =some (.row [.int .i64 0,.int .i64 0,.int .i64 0] false)->K'[K4.length]? =some (.row [.int .i64 y.1,.int .i64 z,.int .i64 y.2.2.1] false)->Wp (
   ob (lloadn K' 3 (.ptr K4.length 0)) fun t33 =>
   ob (lstV K' 3 (.ptr K0.length 0) t33) fun r34 =>
   ob (lloadn r34.2 3 (.ptr K0.length 0)) fun t35 =>
   some ((IV.tuple [t35,.int .i64 y.2.2.2]),r34.2)) fun r=>r.1=.tuple [.agg [.int .i64 y.1,.int .i64 z,.int .i64 y.2.2.1],.int .i64 y.2.2.2]/\Frame NoF K r.2:=by
  intro K' z kk r1 r2;rw[ldn (n:=3) r2 rfl,ob_some,stn (n:=3) r1 rfl rfl rfl,ob_some];simp only;rw[ldn (n:=3) (setAt r1) rfl,ob_some];exact Wp.ret ⟨rfl,kk.setNew _ hcl⟩
 have rc5:=k6.get (fun h=>h) rc4;rw[jn_eq,lbin_eql,ob_some];by_cases h2:kindV st1 st2 U L=2
 ·rw[decide_eq_true h2,cnd_true,if_pos h2,ldn (n:=2) (k6.get (fun h=>h) ra4) rfl,ob_some];have hV5:=hV.kp (kK.tr kf5);rw[show IV.agg [.int .i64 U,.int .i64 L]=nodV U L from rfl,hal K5 v b1 b2 u l st1 st2 U L hV5,ob_some];obtain⟨wa,K6,e6,k7,n7⟩:=allOut_ok K5 (allX st1 st2 U L);rw[e6];simp only[iextract_tuple,List.getElem?_cons_zero,List.getElem?_cons_succ,ob_some];rw[n7.len,ob_some,loff_ptr,ob_some,Nat.zero_add,Go.Shade.st1 (k7.get (fun h=>h) rs) (by simp only[one_int]) (by simp),ob_some];have hne:K4.length≠K0.length:=by
   have:=(ges rc4).1;omega
  refine fin _ _ ((kf5.tr k7).setNew _ hs4) ?_ (setAt (k7.get (fun h=>h) rs));rw[List.getElem?_set_ne hne];exact k7.get (fun h=>h) rc5
 ·rw[decide_eq_false h2,cnd_false,if_neg h2];exact fin K5 _ kf5 rc5 rs
end
end Go.Shade
namespace Go.Shade
end Go.Shade
namespace Go.Shade
theorem mem_names {l:Dr}{x:Nam}:x∈namesOf l↔∃v,lookD x l=some v:=by
 constructor
 ·intro h;obtain⟨e,he,rfl⟩:=List.mem_map.1 h;exact lookD_of_mem he
 ·rintro⟨v,h⟩;exact List.mem_map.2 ⟨_,lookD_mem h,rfl⟩
theorem addK_mem {ks:List Nam}{x y:Nam}:y∈addK ks x↔y∈ks∨y=x:=by
 unfold addK;split
 ·rename_i h;exact⟨.inl,fun h'=>h'.elim (fun h=>h) (fun e=>e▸h)⟩
 ·simp
theorem fold_mem {y:Nam}:∀{l ks:List Nam},y∈l.foldl addK ks↔y∈ks∨y∈l
 | [],ks=>by simp
 | x::l,ks=>by
  rw[List.foldl_cons,fold_mem,addK_mem,List.mem_cons,or_assoc]
theorem fold_nodup :∀{l ks:List Nam},ks.Nodup->(l.foldl addK ks).Nodup
 | [],ks,h=>h
 | x::l,ks,h=>by
  rw[List.foldl_cons];refine fold_nodup ?_;unfold addK;split
  ·exact h
  ·rename_i hx;rw[List.nodup_append];refine⟨h,by simp,fun a ha b hb=> ?_⟩;rw[List.mem_singleton]at hb;subst hb;exact fun e=>hx (e▸ha)
section
variable {st1 st2 : Brs} {U L : Int} {x s : Nam}
theorem keys_mem :x∈keysV st1 st2 U L↔x∈namesOf (allD st1 U)∨x∈namesOf (allD st2 L):=by
 unfold keysV;rw[fold_mem];simp[namesOf]
theorem allV_mem :x∈allV st1 st2 U L↔x∈keysV st1 st2 U L/\gotV st1 st2 U L x=true:=by
 unfold allV;rw[(srtN_perm _).mem_iff,List.mem_filter]
theorem allV_nodup :(allV st1 st2 U L).Nodup:=by
 unfold allV;exact(srtN_perm _).nodup_iff.2 ((fold_nodup List.nodup_nil).filter _)
theorem get_names {st:Brs}{i:Int}(h:(getOf st i s).2=0):s∈namesOf (allD st i):=by
 unfold getOf at h;unfold allD;split at h
 ·rename_i e he
  exfalso
  rcases dirOf_inr he with rfl | rfl<;>cases h
 ·rename_i x hx;split at h
  ·rename_i v hv;unfold entOf at hv;split at hv
   ·rename_i l hl
    first
     | (rw[hx];simp only[hl,Option.getD_some];exact mem_names.2 ⟨v,hv⟩)
     | (simp only[hl,Option.getD_some];exact mem_names.2 ⟨v,hv⟩)
   ·cases hv
  ·cases h
theorem low_names (h:(lowV st2 (belV st1 st2 U L s)).2=0):s∈namesOf (allD st2 L):=by
 rcases low_shape st2 (belV st1 st2 U L s)with⟨e,_⟩ | ⟨e,h0,h4⟩
 ·rw[e]at h;cases h
 ·have hb:belV st1 st2 U L s≠0:=fun h=>by rw[h,kind_zero]at h0;exact h0 rfl
  exact get_names (bel_get hb).2
theorem got_keys (h:gotV st1 st2 U L s=true):s∈keysV st1 st2 U L:=by
 unfold gotV at h;rw[decide_eq_true_eq]at h;rw[keys_mem];unfold getV at h;split at h
 ·split at h
  ·exact .inr (low_names h)
  ·split at h
   ·rename_i hg;exact .inl (get_names hg)
   ·exact .inr (low_names h)
 ·rename_i hd;exact absurd h hd
theorem allX_mem :x∈(allX st1 st2 U L).1↔gotV st1 st2 U L x=true:=by
 unfold allX;by_cases hd:dirE st1 st2 U L=0
 ·simp only[if_pos hd];rw[allV_mem];exact⟨fun h=>h.2,fun h=>⟨got_keys h,h⟩⟩
 ·simp only[if_neg hd];refine⟨fun h=>(by cases h),fun h=> ?_⟩;unfold gotV getV at h;rw[if_neg hd,decide_eq_true_eq]at h;exact absurd h hd
theorem allX_nodup :(allX st1 st2 U L).1.Nodup:=by
 unfold allX;simp only;split
 ·exact allV_nodup
 ·exact List.nodup_nil
theorem allX_sorted :(allX st1 st2 U L).1.Pairwise fun a b=>¬cmpB b a<0:=by
 unfold allX;simp only;split
 ·exact srtN_sorted _
 ·exact List.Pairwise.nil
end
end Go.Shade
namespace Go.Shade
section
variable {cal : FuncId -> Bool} {O : Oracle} {N : Nat} {fa fb fm fi fg fal fs : FuncId}
end
end Go.Shade
namespace Go.Proofs.YtmkjmfegaalcoaaGreat
open Go.Shade
theorem lo130 :LoF Tryz.prog 130 (lf Tryz.f130):=⟨⟨_,Tryz.func130,by kernel_rfl⟩,by kernel_rfl⟩
theorem e130 (cal:FuncId->Bool)(O:Oracle)(N:Nat)(v0:IV)(H:Heap):lrunK cal O N (lf Tryz.f130) [v0] H=Go.Shade.VeneerBlockBodySizeS cal O N v0 H:=by kernel_rfl
theorem lo82 :LoF Tryz.prog 82 (lf Tryz.f82):=⟨⟨_,Tryz.func82,by kernel_rfl⟩,by kernel_rfl⟩
theorem e82 (cal:FuncId->Bool)(O:Oracle)(N:Nat)(v0 v1:IV)(H:Heap):lrunK cal O N (lf Tryz.f82) [v0,v1] H=Go.Shade.BbStatS cal O N 94 130 121 v0 v1 H:=by kernel_rfl
theorem lo34 :LoF Tryz.prog 34 (lf Tryz.f34):=⟨⟨_,Tryz.func34,by kernel_rfl⟩,by kernel_rfl⟩
theorem e34 (cal:FuncId->Bool)(O:Oracle)(N:Nat)(v0 v1:IV)(H:Heap):lrunK cal O N (lf Tryz.f34) [v0,v1] H=Go.Shade.MvStatS cal O N 30 75 82 32 v0 v1 H:=by kernel_rfl
section
variable {T : Table}
theorem okBSize (hT:TbOk T):BSizeOk (den Tryz.prog T) 130:=by unfold BSizeOk;intros;exact denLo (hT.non 130 rfl) lo130 0 (nble (by kernel_rfl)) (by rw[e130];exact bsize_s ‹_›)
theorem okBStat (hT:TbOk T):BStatOk (den Tryz.prog T) 82:=fun own H b st i h hK=>by
 obtain⟨x,h1,h2⟩:=bstat_s (cal:=callable Tryz.prog) (O:=den Tryz.prog T) (N:=0) (i:=i) (okAt hT) (okBSize hT) (okDLen hT) h hK;exact⟨x,h1,fun K kK=>denWp (hT.non 82 rfl) lo82 0 (nble (by kernel_rfl)) (by rw[e82];exact h2 K kK)⟩
end
theorem okVStat :VStatOk da 34:=fun H v b1 b2 u l st1 st2 U L hV=>by
 obtain⟨x,h1,h2⟩:=vstat_s (cal:=callable Tryz.prog) (O:=da) (N:=0) (U:=U) (L:=L) (okVKind tba) (okVSide tba) (okBStat tba) okVAll hV;exact⟨x,h1,fun K kK=>denWp (tba.non 34 rfl) lo34 0 (nble (by kernel_rfl)) (by rw[e34];exact h2 K kK)⟩
end Go.Proofs.YtmkjmfegaalcoaaGreat
namespace Go.Shade
def pathLessS (cal:CB)(O:Oracle)(N:Nat)(v0 v1:IV)(H:Heap):OH :=
 ob (lbin .lss v0 v1) fun t1 =>some (t1,H)
def X10K0 (f0 f1 f2 f3 f4:FuncId):LC:=.seq (.seq (.reg [ qO 20 (.callF f0 []),qO 21 (.un .not (.t 20))]) (.cond (.t 21) (.seq (.reg [ qO 6 (.mv (.k (.bool false)))]) .ret) .skip)) (.seq (.reg [ qM 23 0,qO 24 (.callF f1 [(.t 23)]),qM 22 24,qO 25 (.ext (.t 22) 0),qO 26 (.ext (.t 22) 1),qM 7 25,qM 8 26]) (.seq (.seq (.reg [ qM 27 8,qO 28 (.un .not (.t 27))]) (.cond (.t 28) (.seq (.reg [ qO 6 (.mv (.k (.bool true)))]) .ret) .skip)) (.seq (.drw [ qM 29 7,qO 30 (.chk (.t 29)),qO 31 (.off (.t 30) 0),qO 32 (.ld1 (.t 31)),qM 33 7,qO 34 (.chk (.t 33)),qO 35 (.off (.t 34) 1),qO 36 (.ld1 (.t 35)),qO 37 (.callF f2 [(.t 32),(.t 36),(k6 1),(k6 1)]),qM 9 37] []) (.seq (.reg [ qM 39 9,qO 40 (.ldn 2 (.t 4)),qO 41 (.callF f3 [(.t 39),(.t 40)]),qM 38 41,qO 42 (.ext (.t 38) 0),qO 43 (.ext (.t 38) 1),qM 10 42,qM 11 43]) (.seq (.reg [ qM 45 9,qO 46 (.ldn 2 (.t 4)),qM 47 2,qO 48 (.callF f4 [(.t 45),(.t 46),(.t 47)]),qM 44 48,qO 49 (.ext (.t 44) 0),qO 50 (.ext (.t 44) 1),qO 12 (.zbox (.agg [(.int .i64 0),(.int .i64 0)])),⟨none,(.st 2 (.t 12) (.t 49)),none⟩,qM 13 50]) (.seq (.seq (.reg [ qM 51 11,qO 52 (.bin .neq (.t 51) (k6 0))]) (.cond (.t 52) (.seq (.reg [ qM 53 13,qM 54 11,qO 55 (.bin .eql (.t 53) (.t 54)),qM 56 55,⟨(some 57),(.mv (.t 10)),(some (56,true))⟩,⟨(some 58),(.len .slice (.t 57)),(some (56,true))⟩,⟨(some 59),(.bin .eql (.t 58) (k6 0)),(some (56,true))⟩,qO 60 (.pick (.t 56) (.t 59) (.k (.bool false))),qM 6 60]) .ret) .skip)) (.reg [ qO 14 (.mv (.k (.bool false)))])))))))
def nmC0 (f0 f1 f2 f3 f4 f5 f6:FuncId):LC:=.seq (.reg [ qO 4 (.box (.t 1)),qO 6 (.mv (.k (.bool false)))]) (X10K0 f0 f1 f2 f3 f4)
def nmC1 (f0 f1 f2 f3 f4 f5 f6:FuncId):LC:=.drw [
  qM 67 9,
  qO 68 (.ldn 2 (.t 4)),
  qM 69 10,
  qM 70 15,
  qO 71 (.ix 1 (.t 69) (.t 70)),
  qO 72 (.ld1 (.t 71)),
  qO 73 (.callF f4 [(.t 67),(.t 68),(.t 72)]),
  qM 66 73,
  qO 74 (.ext (.t 66) 0),
  qO 75 (.ext (.t 66) 1),
  qO 16 (.zbox (.agg [(.int .i64 0),(.int .i64 0)])),
  ⟨none,(.st 2 (.t 16) (.t 74)),none⟩,
  qM 17 75] []
def nmC2 (f0 f1 f2 f3 f4 f5 f6:FuncId):LC:=.drw [
  qM 67 9,
  qO 68 (.ldn 2 (.t 4)),
  qM 69 10,
  qM 70 15,
  qO 71 (.ix 1 (.t 69) (.t 70)),
  qO 72 (.ld1 (.t 71)),
  qO 16 (.zbox (.agg [(.int .i64 0),(.int .i64 0)])),
  qO 73 (.callF f4 [(.t 67),(.t 68),(.t 72)]),
  qM 66 73,
  qO 74 (.ext (.t 66) 0),
  qO 75 (.ext (.t 66) 1),
  ⟨none,(.st 2 (.t 16) (.t 74)),none⟩,
  qM 17 75] [(1,6),(5,6)]
def X10K1 (f0:FuncId):LC:=.seq (.drw [ qM 76 17,qO 77 (.bin .neq (.t 76) (k6 0)),qM 78 77,⟨(some 79),(.mv (.t 15)),(some (78,false))⟩,⟨(some 80),(.bin .gtr (.t 79) (k6 0)),(some (78,false))⟩,⟨(some 81),(.mv (.t 80)),(some (78,false))⟩,⟨(some 82),(.mv (.t 10)),(some (81,true))⟩,⟨(some 83),(.mv (.t 15)),(some (81,true))⟩,⟨(some 84),(.bin .sub (.t 83) (k6 1)),(some (81,true))⟩,⟨(some 85),(.ix 1 (.t 82) (.t 84)),(some (81,true))⟩,⟨(some 86),(.ld1 (.t 85)),(some (81,true))⟩,⟨(some 87),(.mv (.t 10)),(some (81,true))⟩,⟨(some 88),(.mv (.t 15)),(some (81,true))⟩,⟨(some 89),(.ix 1 (.t 87) (.t 88)),(some (81,true))⟩,⟨(some 90),(.ld1 (.t 89)),(some (81,true))⟩,⟨(some 91),(.callF f0 [(.t 86),(.t 90)]),(some (81,true))⟩,⟨(some 92),(.un .not (.t 91)),(some (81,true))⟩,⟨(some 93),(.pick (.t 81) (.t 92) (.k (.bool false))),(some (78,false))⟩,qO 94 (.pick (.t 78) (.k (.bool true)) (.t 93))] []) (.cond (.t 94) (.seq (.reg [ qO 6 (.mv (.k (.bool false)))]) .ret) .skip)
def X10K3 :LC:=.reg [ qM 95 14,qM 96 95,⟨(some 97),(.mv (.t 10)),(some (96,false))⟩,⟨(some 98),(.mv (.t 15)),(some (96,false))⟩,⟨(some 99),(.ix 1 (.t 97) (.t 98)),(some (96,false))⟩,⟨(some 100),(.ld1 (.t 99)),(some (96,false))⟩,⟨(some 101),(.mv (.t 2)),(some (96,false))⟩,⟨(some 102),(.bin .eql (.t 100) (.t 101)),(some (96,false))⟩,qO 103 (.pick (.t 96) (.k (.bool true)) (.t 102)),qM 14 103]
def nmC3 (f0 f1 f2 f3 f4 f5 f6:FuncId):LC:=.seq (X10K1 f5) X10K3
def X10K4 (f0:FuncId):LC:=.reg [ qM 106 9,qO 107 (.ldn 2 (.t 4)),qO 108 (.callF f0 [(.t 106),(.t 107)]),qM 105 108,qO 109 (.ext (.t 105) 0),qO 110 (.ext (.t 105) 1),qO 18 (.zbox (.agg [(.int .i64 0),(.int .i64 0),(.int .i64 0)])),⟨none,(.st 3 (.t 18) (.t 109)),none⟩,qM 19 110]
def X10K2 :LC:=.seq (.reg [ qM 111 14,qM 112 13,qO 113 (.bin .eql (.t 112) (k6 0)),qO 114 (.eqv false .bool (.t 111) (.t 113)),qM 115 114,⟨(some 116),(.off (.t 18) 1),(some (115,true))⟩,⟨(some 117),(.ld1 (.t 116)),(some (115,true))⟩,⟨(some 118),(.mv (.t 10)),(some (115,true))⟩,⟨(some 119),(.len .slice (.t 118)),(some (115,true))⟩,⟨(some 120),(.bin .eql (.t 117) (.t 119)),(some (115,true))⟩,qO 121 (.pick (.t 115) (.t 120) (.k (.bool false))),qM 122 121,⟨(some 123),(.mv (.t 19)),(some (122,true))⟩,⟨(some 124),(.bin .eql (.t 123) (k6 0)),(some (122,true))⟩,qO 125 (.pick (.t 122) (.t 124) (.k (.bool false))),qM 6 125]) .ret
def nmC4 (f0 f1 f2 f3 f4 f5 f6:FuncId):LC:=.seq (X10K4 f6) X10K2
def nmC4S (cal:CB)(O:Oracle)(N:Nat)(f0 f1 f2 f3 f4 f5 f6:FuncId)(v2 v4 v9 v10 v13 v14 v15 v17 v62 v63:IV)(H:Heap):OH :=
 ob (lloadn H 2 v4) fun t1 =>ob (O f6 [v9,t1] H) fun r2 =>ob (iextract r2.1 0) fun t3 =>ob (iextract r2.1 1) fun t4 =>ob (lzbox r2.2 (.agg [(.int .i64 0),(.int .i64 0),(.int .i64 0)])) fun r5 =>ob (lstV r5.2 3 r5.1 t3) fun r6 =>ob (lbin .eql v13 (.int .i64 0)) fun t7 =>ob (leqv false (leq .bool v14 t7)) fun t8 =>ob (gq (isB t8 true) (loff r5.1 1)) fun t9 =>ob (gq (isB t8 true) (lload1 r6.2 t9)) fun t10 =>ob (gq (isB t8 true) (some v10)) fun t11 =>ob (gq (isB t8 true) (llen r6.2 .slice t11)) fun t12 =>ob (gq (isB t8 true) (lbin .eql t10 t12)) fun t13 =>ob (lpick t8 t13 (.bool false)) fun t14 =>ob (gq (isB t14 true) (some t4)) fun t15 =>ob (gq (isB t14 true) (lbin .eql t15 (.int .i64 0))) fun t16 =>ob (lpick t14 t16 (.bool false)) fun t17 =>some ((.tuple [t17,v2,v4,v9,v10,v13,v14,v15,v17,v62,v63]),r6.2)
theorem nmC4Eq (cal:CB)(O:Oracle)(N:Nat)(f0 f1 f2 f3 f4 f5 f6:FuncId){k:KT (IV×Heap)}(hR:∀E H,k .ret E H=resK [(.tmp 6),(.tmp 2),(.tmp 4),(.tmp 9),(.tmp 10),(.tmp 13),(.tmp 14),(.tmp 15),(.tmp 17),(.tmp 62),(.tmp 63)] [] E H):∀(E:Sg) (H:Heap),lxK cal O N (nmC4 f0 f1 f2 f3 f4 f5 f6) E H k=nmC4S cal O N f0 f1 f2 f3 f4 f5 f6 (lk E 2) (lk E 4) (lk E 9) (lk E 10) (lk E 13) (lk E 14) (lk E 15) (lk E 17) (lk E 62) (lk E 63) H:=by
 have hk:k=(kR (resK [(.tmp 6),(.tmp 2),(.tmp 4),(.tmp 9),(.tmp 10),(.tmp 13),(.tmp 14),(.tmp 15),(.tmp 17),(.tmp 62),(.tmp 63)] []) k):=(kR_mk hR rfl);intro E H;rw[hk];show lxK cal O N (X10K4 f6) E H (seqK (lxK cal O N X10K2) (kR (resK [(.tmp 6),(.tmp 2),(.tmp 4),(.tmp 9),(.tmp 10),(.tmp 13),(.tmp 14),(.tmp 15),(.tmp 17),(.tmp 62),(.tmp 63)] []) k))=_;kernel_rfl
def nmC3S (cal:CB)(O:Oracle)(N:Nat)(f0 f1 f2 f3 f4 f5 f6:FuncId)(gN:IV->IV->IV->IV->IV->IV->IV->IV->IV->IV->Heap->OH)(v2 v4 v9 v10 v13 v14 v15 v17 v62 v63:IV)(H:Heap):OH :=
 ob (lbin .neq v17 (.int .i64 0)) fun t1 =>ob (gq (isB t1 false) (some v15)) fun t2 =>ob (gq (isB t1 false) (lbin .gtr t2 (.int .i64 0))) fun t3 =>ob (gq (isB t1 false) (some t3)) fun t4 =>ob (gq (isB t4 true) (some v10)) fun t5 =>ob (gq (isB t4 true) (some v15)) fun t6 =>ob (gq (isB t4 true) (lbin .sub t6 (.int .i64 1))) fun t7 =>ob (gq (isB t4 true) (lix 1 t5 t7)) fun t8 =>ob (gq (isB t4 true) (lload1 H t8)) fun t9 =>ob (gq (isB t4 true) (some v10)) fun t10 =>ob (gq (isB t4 true) (some v15)) fun t11 =>ob (gq (isB t4 true) (lix 1 t10 t11)) fun t12 =>ob (gq (isB t4 true) (lload1 H t12)) fun t13 =>ob (ge (isB t4 true) H (O f5 [t9,t13] H)) fun r14 =>ob (gq (isB t4 true) (iun .not r14.1)) fun t15 =>ob (gq (isB t1 false) (lpick t4 t15 (.bool false))) fun t16 =>ob (lpick t1 (.bool true) t16) fun t17 =>cnd t17
 (some ((.tuple [(.bool false),v2,v4,v9,v10,v13,v14,v15,v17,v62,v63]),r14.2))
 (ob (gq (isB v14 false) (some v10)) fun t18 =>ob (gq (isB v14 false) (some v15)) fun t19 =>ob (gq (isB v14 false) (lix 1 t18 t19)) fun t20 =>ob (gq (isB v14 false) (lload1 r14.2 t20)) fun t21 =>ob (gq (isB v14 false) (some v2)) fun t22 =>ob (gq (isB v14 false) (lbin .eql t21 t22)) fun t23 =>ob (lpick v14 (.bool true) t23) fun t24 =>
 gN v2 v4 v9 v10 v13 t24 v15 v17 v62 v63 r14.2)
theorem nmC3Eq (cal:CB)(O:Oracle)(N:Nat)(f0 f1 f2 f3 f4 f5 f6:FuncId){k:KT (IV×Heap)}(gN:IV->IV->IV->IV->IV->IV->IV->IV->IV->IV->Heap->OH)(hgN:∀E H,k .normal E H=gN (lk E 2) (lk E 4) (lk E 9) (lk E 10) (lk E 13) (lk E 14) (lk E 15) (lk E 17) (lk E 62) (lk E 63) H)(hR:∀E H,k .ret E H=resK [(.tmp 6),(.tmp 2),(.tmp 4),(.tmp 9),(.tmp 10),(.tmp 13),(.tmp 14),(.tmp 15),(.tmp 17),(.tmp 62),(.tmp 63)] [] E H):∀(E:Sg) (H:Heap),lxK cal O N (nmC3 f0 f1 f2 f3 f4 f5 f6) E H k=nmC3S cal O N f0 f1 f2 f3 f4 f5 f6 gN (lk E 2) (lk E 4) (lk E 9) (lk E 10) (lk E 13) (lk E 14) (lk E 15) (lk E 17) (lk E 62) (lk E 63) H:=by
 have hk:k=(kN (fun E H=>gN (lk E 2) (lk E 4) (lk E 9) (lk E 10) (lk E 13) (lk E 14) (lk E 15) (lk E 17) (lk E 62) (lk E 63) H) (kR (resK [(.tmp 6),(.tmp 2),(.tmp 4),(.tmp 9),(.tmp 10),(.tmp 13),(.tmp 14),(.tmp 15),(.tmp 17),(.tmp 62),(.tmp 63)] []) k)):=(kN_mk hgN (kR_mk hR rfl));intro E H;rw[hk];show lxK cal O N (X10K1 f5) E H (seqK (lxK cal O N X10K3) (kN (fun E H=>gN (lk E 2) (lk E 4) (lk E 9) (lk E 10) (lk E 13) (lk E 14) (lk E 15) (lk E 17) (lk E 62) (lk E 63) H) (kR (resK [(.tmp 6),(.tmp 2),(.tmp 4),(.tmp 9),(.tmp 10),(.tmp 13),(.tmp 14),(.tmp 15),(.tmp 17),(.tmp 62),(.tmp 63)] []) k)))=_;kernel_rfl
def nmC2S (cal:CB)(O:Oracle)(N:Nat)(f0 f1 f2 f3 f4 f5 f6:FuncId)(gN:IV->IV->IV->IV->IV->IV->IV->IV->IV->IV->Heap->OH)(v2 v4 v9 v10 v13 v14 v15 v62 v63:IV)(H:Heap):OH :=
 ob (lloadn H 2 v4) fun t1 =>ob (lix 1 v10 v15) fun t2 =>ob (lload1 H t2) fun t3 =>ob (lzbox H (.agg [(.int .i64 0),(.int .i64 0)])) fun r4 =>ob (O f4 [v9,t1,t3] r4.2) fun r5 =>ob (iextract r5.1 0) fun t6 =>ob (iextract r5.1 1) fun t7 =>ob (lstV r5.2 2 r4.1 t6) fun r8 =>
  ckd ((!(true)||((!(false))&&ivo (lloadn H 2 v4) t1&&ivo (lloadn r4.2 2 v4) t1))&&((!(true)||((!(false))&&ivo (lload1 H t2) t3&&ivo (lload1 r4.2 t2) t3))&&true)) <|
 gN v2 v4 v9 v10 v13 v14 v15 t7 v62 v63 r8.2
theorem nmC2Eq (cal:CB)(O:Oracle)(N:Nat)(f0 f1 f2 f3 f4 f5 f6:FuncId){k:KT (IV×Heap)}(gN:IV->IV->IV->IV->IV->IV->IV->IV->IV->IV->Heap->OH)(hgN:∀E H,k .normal E H=gN (lk E 2) (lk E 4) (lk E 9) (lk E 10) (lk E 13) (lk E 14) (lk E 15) (lk E 17) (lk E 62) (lk E 63) H):∀(E:Sg) (H:Heap),lxK cal O N (nmC2 f0 f1 f2 f3 f4 f5 f6) E H k=nmC2S cal O N f0 f1 f2 f3 f4 f5 f6 gN (lk E 2) (lk E 4) (lk E 9) (lk E 10) (lk E 13) (lk E 14) (lk E 15) (lk E 62) (lk E 63) H:=by
 have hk:k=(kN (fun E H=>gN (lk E 2) (lk E 4) (lk E 9) (lk E 10) (lk E 13) (lk E 14) (lk E 15) (lk E 17) (lk E 62) (lk E 63) H) k):=(kN_mk hgN rfl);intro E H;rw[hk];kernel_rfl
def nmC1S (cal:CB)(O:Oracle)(N:Nat)(f0 f1 f2 f3 f4 f5 f6:FuncId)(gN:IV->IV->IV->IV->IV->IV->IV->IV->IV->IV->Heap->OH)(v2 v4 v9 v10 v13 v14 v15 v62 v63:IV)(H:Heap):OH :=
 ob (lloadn H 2 v4) fun t1 =>ob (lix 1 v10 v15) fun t2 =>ob (lload1 H t2) fun t3 =>ob (O f4 [v9,t1,t3] H) fun r4 =>ob (iextract r4.1 0) fun t5 =>ob (iextract r4.1 1) fun t6 =>ob (lzbox r4.2 (.agg [(.int .i64 0),(.int .i64 0)])) fun r7 =>ob (lstV r7.2 2 r7.1 t5) fun r8 =>
 gN v2 v4 v9 v10 v13 v14 v15 t6 v62 v63 r8.2
theorem nmC1Eq (cal:CB)(O:Oracle)(N:Nat)(f0 f1 f2 f3 f4 f5 f6:FuncId){k:KT (IV×Heap)}(gN:IV->IV->IV->IV->IV->IV->IV->IV->IV->IV->Heap->OH)(hgN:∀E H,k .normal E H=gN (lk E 2) (lk E 4) (lk E 9) (lk E 10) (lk E 13) (lk E 14) (lk E 15) (lk E 17) (lk E 62) (lk E 63) H):∀(E:Sg) (H:Heap),lxK cal O N (nmC1 f0 f1 f2 f3 f4 f5 f6) E H k=nmC1S cal O N f0 f1 f2 f3 f4 f5 f6 gN (lk E 2) (lk E 4) (lk E 9) (lk E 10) (lk E 13) (lk E 14) (lk E 15) (lk E 62) (lk E 63) H:=by
 have hk:k=(kN (fun E H=>gN (lk E 2) (lk E 4) (lk E 9) (lk E 10) (lk E 13) (lk E 14) (lk E 15) (lk E 17) (lk E 62) (lk E 63) H) k):=(kN_mk hgN rfl);intro E H;rw[hk];kernel_rfl
def nmC0S (cal:CB)(O:Oracle)(N:Nat)(f0 f1 f2 f3 f4 f5 f6:FuncId)(gN:IV->IV->IV->IV->IV->IV->IV->IV->IV->IV->Heap->OH)(v0 v1 v2 v9 v10 v13 v14 v15 v17 v62 v63:IV)(H:Heap):OH :=
 ob (lbox H v1) fun r1 =>ob (O f0 [] r1.2) fun r2 =>ob (iun .not r2.1) fun t3 =>cnd t3
 (some ((.tuple [(.bool false),v2,r1.1,v9,v10,v13,v14,v15,v17,v62,v63]),r2.2))
 (ob (O f1 [v0] r2.2) fun r4 =>ob (iextract r4.1 0) fun t5 =>ob (iextract r4.1 1) fun t6 =>ob (iun .not t6) fun t7 =>cnd t7
 (some ((.tuple [(.bool true),v2,r1.1,v9,v10,v13,v14,v15,v17,v62,v63]),r4.2))
 (ob (lchk t5) fun t8 =>ob (loff t8 0) fun t9 =>ob (lload1 r4.2 t9) fun t10 =>ob (lchk t5) fun t11 =>ob (loff t11 1) fun t12 =>ob (lload1 r4.2 t12) fun t13 =>ob (O f2 [t10,t13,(.int .i64 1),(.int .i64 1)] r4.2) fun r14 =>ob (lloadn r14.2 2 r1.1) fun t15 =>ob (O f3 [r14.1,t15] r14.2) fun r16 =>ob (iextract r16.1 0) fun t17 =>ob (iextract r16.1 1) fun t18 =>ob (lloadn r16.2 2 r1.1) fun t19 =>ob (O f4 [r14.1,t19,v2] r16.2) fun r20 =>ob (iextract r20.1 0) fun t21 =>ob (iextract r20.1 1) fun t22 =>ob (lzbox r20.2 (.agg [(.int .i64 0),(.int .i64 0)])) fun r23 =>ob (lstV r23.2 2 r23.1 t21) fun r24 =>ob (lbin .neq t18 (.int .i64 0)) fun t25 =>cnd t25
 (ob (lbin .eql t22 t18) fun t26 =>ob (gq (isB t26 true) (some t17)) fun t27 =>ob (gq (isB t26 true) (llen r24.2 .slice t27)) fun t28 =>ob (gq (isB t26 true) (lbin .eql t28 (.int .i64 0))) fun t29 =>ob (lpick t26 t29 (.bool false)) fun t30 =>some ((.tuple [t30,v2,r1.1,r14.1,t17,t22,v14,v15,v17,v62,v63]),r24.2))
 (gN v2 r1.1 r14.1 t17 t22 (.bool false) v15 v17 v62 v63 r24.2)))
theorem nmC0Eq (cal:CB)(O:Oracle)(N:Nat)(f0 f1 f2 f3 f4 f5 f6:FuncId){k:KT (IV×Heap)}(gN:IV->IV->IV->IV->IV->IV->IV->IV->IV->IV->Heap->OH)(hgN:∀E H,k .normal E H=gN (lk E 2) (lk E 4) (lk E 9) (lk E 10) (lk E 13) (lk E 14) (lk E 15) (lk E 17) (lk E 62) (lk E 63) H)(hR:∀E H,k .ret E H=resK [(.tmp 6),(.tmp 2),(.tmp 4),(.tmp 9),(.tmp 10),(.tmp 13),(.tmp 14),(.tmp 15),(.tmp 17),(.tmp 62),(.tmp 63)] [] E H):∀(E:Sg) (H:Heap),lxK cal O N (nmC0 f0 f1 f2 f3 f4 f5 f6) E H k=nmC0S cal O N f0 f1 f2 f3 f4 f5 f6 gN (lk E 0) (lk E 1) (lk E 2) (lk E 9) (lk E 10) (lk E 13) (lk E 14) (lk E 15) (lk E 17) (lk E 62) (lk E 63) H:=by
 have hk:k=(kN (fun E H=>gN (lk E 2) (lk E 4) (lk E 9) (lk E 10) (lk E 13) (lk E 14) (lk E 15) (lk E 17) (lk E 62) (lk E 63) H) (kR (resK [(.tmp 6),(.tmp 2),(.tmp 4),(.tmp 9),(.tmp 10),(.tmp 13),(.tmp 14),(.tmp 15),(.tmp 17),(.tmp 62),(.tmp 63)] []) k)):=(kN_mk hgN (kR_mk hR rfl));intro E H;rw[hk];show lxK cal O N (.reg [ qO 4 (.box (.t 1)),qO 6 (.mv (.k (.bool false)))]) E H (seqK (lxK cal O N (X10K0 f0 f1 f2 f3 f4)) (kN (fun E H=>gN (lk E 2) (lk E 4) (lk E 9) (lk E 10) (lk E 13) (lk E 14) (lk E 15) (lk E 17) (lk E 62) (lk E 63) H) (kR (resK [(.tmp 6),(.tmp 2),(.tmp 4),(.tmp 9),(.tmp 10),(.tmp 13),(.tmp 14),(.tmp 15),(.tmp 17),(.tmp 62),(.tmp 63)] []) k)))=_;kernel_rfl
end Go.Shade
namespace Go.Shade
theorem lbin_slss {a b:Nam}:lbin .lss (.str a) (.str b)=some (.bool (ltB a b)):=by
 show some (IV.bool (Op.bytesLess a b))=_;rw[bl_eq]
def PLessOk (O:Oracle)(f:FuncId):Prop:=∀(a b:Nam) (H:Heap),O f [.str a,.str b] H=some (.bool (ltB a b),H)
theorem pless_s {cal:FuncId->Bool}{O:Oracle}{N:Nat}{a b:Nam}{H:Heap}:pathLessS cal O N (.str a) (.str b) H=some (.bool (ltB a b),H):=by
 unfold pathLessS;rw[lbin_slss,ob_some]
theorem rise {l:List Nam}(hs:l.Pairwise fun a b=>¬cmpB b a<0)(hd:l.Nodup){i j:Nat}(hij:i<j)(hj:j<l.length):ltB (l[i]'(Nat.lt_trans hij hj)) l[j]=true:=by
 have h1:=List.pairwise_iff_getElem.1 hs i j (Nat.lt_trans hij hj) hj hij;have h2:=List.pairwise_iff_getElem.1 hd i j (Nat.lt_trans hij hj) hj hij;unfold ltB;rw[decide_eq_true_eq];have h3:=cmpB_flip l[j] (l[i]'(Nat.lt_trans hij hj));have h4:cmpB (l[i]'(Nat.lt_trans hij hj)) l[j]≠0:=fun e=>h2 (cmpB_eq e);omega
def gTen :IV->IV->IV->IV->IV->IV->IV->IV->IV->IV->Heap->Option (IV×Heap):=fun a b c d e f g h i j H=>some (.tuple [a,b,c,d,e,f,g,h,i,j],H)
structure NmI (U L:Int)(a vp b1 b2:Nat)(st1 st2:Brs)(v10:IV)(B:Nat)(H:Heap):Prop where
 vw:VwOk H vp b1 b2 1 1 st1 st2
 nd:H[a]? =some (.row [.int .i64 U,.int .i64 L] false)
 ns:NSl (B<= ·) H v10 (allX st1 st2 U L).1
theorem NmI.kp {U L:Int}{a vp b1 b2 B:Nat}{st1 st2:Brs}{v10:IV}{H K:Heap}(h:NmI U L a vp b1 b2 st1 st2 v10 B H)(k:Frame NoF H K):NmI U L a vp b1 b2 st1 st2 v10 B K :=
 ⟨h.vw.kp k,k.get (fun h=>h) h.nd,h.ns.frame k fun _ _ h=>h⟩
section
variable {cal : FuncId -> Bool} {O : Oracle} {N : Nat} {fa fb fm fal fg fl fs : FuncId}
variable {U L : Int} {a vp b1 b2 B : Nat} {st1 st2 : Brs} {v2 v4 v9 v10 v13 v14 v15 v17 v62 v63 : IV} {H : Heap} {i : Nat} {s : Nam}
theorem nm_d1 (hG:VGetOk O fg)(hI:NmI U L a vp b1 b2 st1 st2 v10 B H)(hi:i<(allX st1 st2 U L).1.length) :
  Wp (nmC1S cal O N fa fb fm fal fg fl fs gTen v2 (.ptr a 0) (.ptr vp 0) v10 v13 v14 (.int .i64 (i:Nat)) v62 v63 H) fun r =>
   r.1=.tuple [v2,.ptr a 0,.ptr vp 0,v10,v13,v14,.int .i64 (i:Nat),.int .i64 0,v62,v63]/\NmI U L a vp b1 b2 st1 st2 v10 B r.2:=by
 obtain⟨r,_,x1,x2⟩:=hI.ns.at (i:=i) hi;have hgt:=allX_mem.1 (List.getElem_mem hi);generalize (allX st1 st2 U L).1[i]=x at *;have h0:(getV st1 st2 U L x).2=0:=by simpa[gotV]using hgt
 unfold nmC1S;rw[ldn (n:=2) hI.nd rfl,ob_some,x1,ob_some,x2,ob_some];refine Wp.call (hG H vp b1 b2 1 1 st1 st2 U L x hI.vw) ?_;rintro⟨w,K⟩ ⟨rfl,k⟩;simp only at k ⊢;unfold getR nodV;simp only[h0,iextract_tuple,List.getElem?_cons_zero,List.getElem?_cons_succ,ob_some];rw[lzbox_eq,ob_some];simp only[cells_agg];rw[stn (n:=2) newRow rfl rfl rfl,ob_some];have k1:Frame NoF K (K++[IObj.row [.int .i64 0,.int .i64 0] false]):=Frame.push _ _ _;exact⟨_,rfl,rfl,hI.kp (k.tr (k1.setNew _ (Nat.le_refl _)))⟩
theorem nm_d2 (hG:VGetOk O fg)(hI:NmI U L a vp b1 b2 st1 st2 v10 B H)(hi:i<(allX st1 st2 U L).1.length) :
  Wp (nmC2S cal O N fa fb fm fal fg fl fs gTen v2 (.ptr a 0) (.ptr vp 0) v10 v13 v14 (.int .i64 (i:Nat)) v62 v63 H) fun r =>
   r.1=.tuple [v2,.ptr a 0,.ptr vp 0,v10,v13,v14,.int .i64 (i:Nat),.int .i64 0,v62,v63]/\NmI U L a vp b1 b2 st1 st2 v10 B r.2:=by
 have k1:Frame NoF H (H++[IObj.row [.int .i64 0,.int .i64 0] false]):=Frame.push _ _ _;have rr:(H++[IObj.row [.int .i64 0,.int .i64 0] false])[H.length]? =some (.row [.int .i64 0,.int .i64 0] false):=newRow;have hI1:=hI.kp k1;obtain⟨r,_,x1,x2⟩:=hI.ns.at (i:=i) hi;obtain⟨r',_,y1,y2⟩:=hI1.ns.at (i:=i) hi;rw[x1]at y1
 cases y1
 have hgt:=allX_mem.1 (List.getElem_mem hi);generalize (allX st1 st2 U L).1[i]=x at *;have h0:(getV st1 st2 U L x).2=0:=by simpa[gotV]using hgt
 unfold nmC2S;rw[ldn (n:=2) hI.nd rfl,ob_some,x1,ob_some,x2,ob_some,lzbox_eq,ob_some];simp only[cells_agg];rw[y2,ldn (n:=2) hI1.nd rfl];generalize H++[IObj.row [.int .i64 0,.int .i64 0] false]=H1 at *;refine Wp.call (hG H1 vp b1 b2 1 1 st1 st2 U L x hI1.vw) ?_;rintro⟨w,K⟩ ⟨rfl,k⟩;simp only at k ⊢;unfold getR nodV;simp only[h0,iextract_tuple,List.getElem?_cons_zero,List.getElem?_cons_succ,ob_some];rw[stn (n:=2) (k.get (fun h=>h) rr) rfl rfl rfl,ob_some];simp only[ivo_refl,Bool.not_true,Bool.not_false,Bool.false_or,Bool.and_self,ckd_true];refine⟨_,rfl,rfl,?_⟩;exact hI.kp ((k1.tr k).setNew _ (Nat.le_refl _))
theorem nm_e (hL:PLessOk O fl){P:Nat->Prop}{l:List Nam}(hs:l.Pairwise fun a b=>¬cmpB b a<0)(hd:l.Nodup)(hll:l.length<=4000000)(hi:i<l.length)(hS:NSl P H v10 l){q:Bool} :
  nmC3S cal O N fa fb fm fal fg fl fs gTen (.str s) v4 v9 v10 v13 (.bool q) (.int .i64 (i:Nat)) (.int .i64 0) v62 v63 H=some (.tuple [.str s,v4,v9,v10,v13,.bool (q||decide (l[i]=s)),.int .i64 (i:Nat),.int .i64 0,v62,v63],H):=by
 obtain⟨r,_,x1,x2⟩:=hS.at (i:=i) hi;unfold nmC3S;rw[lbin_neq,ob_some,decide_eq_true rfl,Bool.not_true];simp only[isB_ff,gq_true,ob_some,lbin_gtr];have last:(ob (gq (isB (.bool q) false) (some v10)) fun t18 =>
  ob (gq (isB (.bool q) false) (some (.int .i64 (i:Nat)))) fun t19 =>
  ob (gq (isB (.bool q) false) (lix 1 t18 t19)) fun t20 =>
  ob (gq (isB (.bool q) false) (lload1 H t20)) fun t21 =>
  ob (gq (isB (.bool q) false) (some (.str s))) fun t22 =>
  ob (gq (isB (.bool q) false) (lbin .eql t21 t22)) fun t23 =>
  ob (lpick (.bool q) (.bool true) t23) fun t24=>gTen (.str s) v4 v9 v10 v13 t24 (.int .i64 (i:Nat)) (.int .i64 0) v62 v63 H)=some (.tuple [.str s,v4,v9,v10,v13,.bool (q||decide (l[i]=s)),.int .i64 (i:Nat),.int .i64 0,v62,v63],H):=by
  cases q with
  | true=>simp only[isB_tf,gq_false,ob_some,lpick_true,Bool.true_or,gTen]
  | false=>simp only[isB_ff,gq_true,ob_some,x1,x2,lbin_seq,lpick_false,Bool.false_or,gTen]
 cases i with
 | zero =>
  simp only[decide_eq_false (show ¬((0:Int)<((0:Nat):Int)) by omega),isB_ft,gq_false,ge_false,ob_some,lpick_false,cnd_false];exact last
 | succ i =>
  obtain⟨r',_,y1,y2⟩:=hS.at (i:=i) (by omega);have wi:IntKind.wrap .i64 (((i+1:Nat):Int) - 1)=((i:Nat):Int):=by rw[wrap_i64 (by omega) (by omega)];omega
  have hl:=hL l[i] l[i+1] H;rw[rise hs hd (Nat.lt_succ_self i) hi]at hl;simp only[decide_eq_true (show(0:Int)<((i+1:Nat):Int) by omega),isB_tt,gq_true,ge_true,ob_some,lbin_sub,wi,y1,y2,x1,x2,hl,iun_not,Bool.not_true,lpick_true,lpick_false,cnd_false];exact last
theorem nm_f (hS:VStatOk O fs)(hd:dirE st1 st2 U L=0)(hl:(allX st1 st2 U L).1.length<=4000000)(hI:NmI U L a vp b1 b2 st1 st2 v10 B H){q:Bool}{f:Int}(hq:q=decide (f=0)) :
  Wp (nmC4S cal O N fa fb fm fal fg fl fs v2 (.ptr a 0) (.ptr vp 0) v10 (.int .i64 f) (.bool q) v15 v17 v62 v63 H) fun r=>∃vs,r.1=.tuple (.bool true::vs):=by
 unfold nmC4S;rw[ldn (n:=2) hI.nd rfl,ob_some];obtain⟨z,hz0,hz⟩:=hS H vp b1 b2 1 1 st1 st2 U L hI.vw;obtain⟨z1,z2⟩:=hz0 hd;refine Wp.call (hz H (Frame.refl _ _)) ?_;rintro⟨w,K⟩ ⟨rfl,k⟩;simp only at k ⊢;have ez:statV z=.tuple [.agg [.int .i64 z.1,.int .i64 z.2.1,.int .i64 z.2.2.1],.int .i64 z.2.2.2]:=rfl;simp only[ez,iextract_tuple,List.getElem?_cons_zero,List.getElem?_cons_succ,ob_some,lzbox_eq,cells_agg];rw[stn (n:=3) newRow rfl rfl rfl,setRow];have k1:Frame NoF K (K++[IObj.row [.int .i64 z.1,.int .i64 z.2.1,.int .i64 z.2.2.1] false]):=Frame.push _ _ _;have rz:(K++[IObj.row [.int .i64 z.1,.int .i64 z.2.1,.int .i64 z.2.2.1] false])[K.length]? =some (.row [.int .i64 z.1,.int .i64 z.2.1,.int .i64 z.2.2.1] false):=newRow;have hn:=(hI.kp (k.tr k1)).ns;generalize K++[IObj.row [.int .i64 z.1,.int .i64 z.2.1,.int .i64 z.2.2.1] false]=K1 at *;have lz:lload1 K1 (.ptr K.length 1)=some (.int .i64 z.2.1):=ld1 rz;have lb:leqv false (leq .bool (.bool q) (.bool (decide (f=0))))=some (.bool true):=by
  subst hq;generalize decide (f=0)=b
  cases b<;>rfl
 simp only[ob_some,lbin_eql,lb,isB_tt,gq_true,loff_ptr,Nat.zero_add,lz,hn.len,z2,decide_true,lpick_true,z1];exact⟨_,rfl,_,rfl⟩
theorem nm_a (hA:AwOk O fa)(hB:BuildOk O fb)(hM:MNewOk O fm)(hG:VGetOk O fg)(hAL:VAllOk O fal){v:IV}{l:List MAct}{H:Heap}(hv:MActs H.length H v l) :
  Wp (nmC0S cal O N fa fb fm fal fg fl fs gTen v (nodV U L) (.str s) v9 v10 v13 v14 v15 v17 v62 v63 H) fun r =>
   (∃vs,vs.length=10/\r.1=.tuple (.bool true::vs))∨
   ∃a vp b1 b2 B st1 st2 w,dirE st1 st2 U L=0/\(allX st1 st2 U L).1.length<=4000000/\r.1=.tuple [.str s,.ptr a 0,.ptr vp 0,w,.int .i64 (getV st1 st2 U L s).2,.bool false,v15,v17,v62,v63]/\NmI U L a vp b1 b2 st1 st2 w B r.2:=by
 unfold nmC0S;rw[boxN,ob_some];have kn:Frame NoF H (H++[IObj.row [.int .i64 U,.int .i64 L] false]):=Frame.push _ _ _;have rn:(H++[IObj.row [.int .i64 U,.int .i64 L] false])[H.length]? =some (.row [.int .i64 U,.int .i64 L] false):=newRow;have hv1:MActs (H++[IObj.row [.int .i64 U,.int .i64 L] false]).length (H++[IObj.row [.int .i64 U,.int .i64 L] false]) v l:=(hv.frame kn fun _ _ h=>h).up (by rw[List.length_append];omega);simp only;generalize H++[IObj.row [.int .i64 U,.int .i64 L] false]=H1 at *;generalize H.length=a at *;simp only[hA H1,ob_some,iun_not,Bool.not_true,cnd_false];refine Wp.call (hB H1 v l hv1) ?_;rintro⟨w,K⟩ ⟨k1,hw⟩;simp only at k1 hw ⊢;have rnK:=k1.get (fun h=>h) rn;rcases hw with rfl | ⟨p,b1,r1,b2,r2,hp,rfl,rp,hW⟩
 ·simp only[iextract_tuple,List.getElem?_cons_zero,List.getElem?_cons_succ,ob_some];simp only[iun_not,ob_some,Bool.not_false,cnd_true];exact⟨_,rfl,.inl ⟨_,rfl,rfl⟩⟩
 obtain⟨st1,st2,hP⟩:=hW.brs;have p0:lload1 K (.ptr p 0)=some (.ptr b1 0):=ld1 rp;have p1:lload1 K (.ptr p 1)=some (.ptr b2 0):=ld1 rp;simp only[iextract_tuple,List.getElem?_cons_zero,List.getElem?_cons_succ,ob_some];simp only[iun_not,ob_some,Bool.not_true,cnd_false];simp only[lchk_ptr,loff_ptr,ob_some,Nat.zero_add,p0,p1,hM K b1 b2 1 1];have k2:Frame NoF K (K++[IObj.row [.ptr b1 0,.ptr b2 0,.int .i64 1,.int .i64 1] false]):=Frame.push _ _ _;have rv:(K++[IObj.row [.ptr b1 0,.ptr b2 0,.int .i64 1,.int .i64 1] false])[K.length]? =some (.row [.ptr b1 0,.ptr b2 0,.int .i64 1,.int .i64 1] false):=newRow;have hP2:=hP.kp k2;have rn2:=k2.get (fun h=>h) rnK;generalize K++[IObj.row [.ptr b1 0,.ptr b2 0,.int .i64 1,.int .i64 1] false]=K2 at *;generalize K.length=vp at *;have hV2:=hP2.view rv;have hle:=allX_le hP.i1 hP.i2 (by decide) U L;rw[ldn (n:=2) rn2 rfl,ob_some];rw[show IV.agg [.int .i64 U,.int .i64 L]=nodV U L from rfl,hAL K2 vp b1 b2 1 1 st1 st2 U L hV2,ob_some];obtain⟨wc,K3,e3,k3,n3⟩:=allOut_ok K2 (allX st1 st2 U L);rw[e3];simp only[iextract_tuple,List.getElem?_cons_zero,List.getElem?_cons_succ,ob_some];have hV3:=hV2.kp k3;have rn3:=k3.get (fun h=>h) rn2;rw[ldn (n:=2) rn3 rfl,ob_some];refine Wp.call (hG K3 vp b1 b2 1 1 st1 st2 U L s hV3) ?_;rintro⟨w,K4⟩ ⟨rfl,k4⟩;simp only at k4 ⊢;have eg:getR (getV st1 st2 U L s)=.tuple [.agg [.int .i64 (getV st1 st2 U L s).1.1,.int .i64 (getV st1 st2 U L s).1.2],.int .i64 (getV st1 st2 U L s).2]:=rfl;simp only[eg,iextract_tuple,List.getElem?_cons_zero,List.getElem?_cons_succ,ob_some,lzbox_eq,cells_agg];rw[stn (n:=2) newRow rfl rfl rfl,setRow,ob_some];have k5:Frame NoF K4 (K4++[IObj.row [.int .i64 (getV st1 st2 U L s).1.1,.int .i64 (getV st1 st2 U L s).1.2] false]):=Frame.push _ _ _;simp only;have hI:NmI U L a vp b1 b2 st1 st2 wc K2.length (K4++[IObj.row [.int .i64 (getV st1 st2 U L s).1.1,.int .i64 (getV st1 st2 U L s).1.2] false]):=⟨hV3.kp (k4.tr k5),(k4.tr k5).get (fun h=>h) rn3,n3.frame (k4.tr k5) fun _ _ h=>h⟩;generalize K4++[IObj.row [.int .i64 (getV st1 st2 U L s).1.1,.int .i64 (getV st1 st2 U L s).1.2] false]=K5 at *;have e2:(allX st1 st2 U L).2=dirE st1 st2 U L:=rfl;rw[lbin_neq,ob_some,e2];by_cases hd:dirE st1 st2 U L=0
 ·rw[decide_eq_true hd,Bool.not_true,cnd_false];exact⟨_,rfl,.inr ⟨a,vp,b1,b2,_,st1,st2,wc,hd,hle,rfl,hI⟩⟩
 ·have hg:(getV st1 st2 U L s).2=dirE st1 st2 U L:=by unfold getV;rw[if_neg hd]
  have hnil:(allX st1 st2 U L).1=[]:=by unfold allX;simp only[if_neg hd]
  have hln:=hI.ns.len;rw[hnil]at hln;rw[decide_eq_false hd,Bool.not_false,cnd_true,lbin_eql,ob_some,hg,decide_eq_true rfl];simp only[isB_tt,gq_true,ob_some,hln,lbin_eql,lpick_true,List.length_nil];exact⟨_,rfl,.inl ⟨_,rfl,rfl⟩⟩
end
end Go.Shade
namespace Go.Shade
open Go.RowKit
variable {H : Heap} {E : Sg}
theorem lopW_bin {cal:FuncId->Bool}{O:Oracle}{d:Option Nat}{o:BinOp}{x y:LArg}{v:IV}(h:lbin o (la E x) (la E y)=some v):lopW cal O ⟨d,.bin o x y,none⟩ E H=some [(v,H)]:=by
 refine lopV_W ?_;show lstepV O H ((lbin o (la E x) (la E y)).bind fun v=>some (.val v,H))=_;rw[h];rfl
section
variable (fa fb fm fal fg fl fs : FuncId)
def namesL :LC:=.seq (.reg [⟨some 64,.bin .lss (.t 63) (.t 62),none⟩]) (.seq (.cond (.t 64) .skip (.exit 0)) (.seq (.block 1 (.seq (.reg [⟨some 65,.mv (.t 63),none⟩,⟨some 15,.mv (.t 65),none⟩]) (.seq (.alt (nmC1 fa fb fm fal fg fl fs) (nmC2 fa fb fm fal fg fl fs)) (nmC3 fa fb fm fal fg fl fs)))) (.reg [⟨some 104,.bin .add (.t 63) (.k (.int .i64 1)),none⟩,⟨some 63,.mv (.t 104),none⟩])))
def namesLo :LFun:=⟨lappN 8 (nmC0 fa fb fm fal fg fl fs) (.seq (.seq (.reg [⟨some 61,.mv (.t 10),none⟩,⟨some 62,.len .slice (.t 61),none⟩,⟨some 63,.mv (.k (.int .i64 0)),none⟩]) (.block 0 (.loop (namesL fa fb fm fal fg fl fs)))) (nmC4 fa fb fm fal fg fl fs)),[.tmp 6],126⟩
end
def nmRs :List LRes:=[(.tmp 6),(.tmp 2),(.tmp 4),(.tmp 9),(.tmp 10),(.tmp 13),(.tmp 14),(.tmp 15),(.tmp 17),(.tmp 62),(.tmp 63)]
def nmK :KT (IV×Heap):=fun x E H=>match x with
 | .normal=>gTen (lk E 2) (lk E 4) (lk E 9) (lk E 10) (lk E 13) (lk E 14) (lk E 15) (lk E 17) (lk E 62) (lk E 63) H
 | .ret=>resK nmRs [] E H
 | .exit _=>none
theorem nmK_ret {r:Out}(h:nmK .ret E H=some r):r=(.tuple [lk E 6,lk E 2,lk E 4,lk E 9,lk E 10,lk E 13,lk E 14,lk E 15,lk E 17,lk E 62,lk E 63],H):=by cases h;rfl
theorem nmK_nor {r:Out}(h:nmK .normal E H=some r):r=(.tuple [lk E 2,lk E 4,lk E 9,lk E 10,lk E 13,lk E 14,lk E 15,lk E 17,lk E 62,lk E 63],H):=by cases h;rfl
def NmS (s:Nam)(a vp:Nat)(v10 v13:IV)(q:Bool)(n:Nat)(E:Sg):Prop :=
 lk E 2=.str s/\lk E 4=.ptr a 0/\lk E 9=.ptr vp 0/\lk E 10=v10/\lk E 13=v13/\lk E 14=.bool q/\lk E 62=.int .i64 (n:Nat)
section
variable {cal : FuncId -> Bool} {O : Oracle} {N : Nat} {fa fb fm fal fg fl fs : FuncId}
variable {U L : Int} {a vp b1 b2 B : Nat} {st1 st2 : Brs} {v10 v13 : IV} {s : Nam}
theorem nm_body (hG:VGetOk O fg)(hL:PLessOk O fl)(hle:(allX st1 st2 U L).1.length<=4000000){kk:IX->Sg->Heap->Prop}{i:Nat}(hlt:i<(allX st1 st2 U L).1.length) (hs:NmS s a vp v10 v13 (decide (s∈(allX st1 st2 U L).1.take i)) (allX st1 st2 U L).1.length E) (h63:lk E 63=.int .i64 (i:Nat)) (hI:NmI U L a vp b1 b2 st1 st2 v10 B H)
  (hQ:∀E H,NmS s a vp v10 v13 (decide (s∈(allX st1 st2 U L).1.take (i+1))) (allX st1 st2 U L).1.length E->lk E 63=.int .i64 ((i+1:Nat):Int)->NmI U L a vp b1 b2 st1 st2 v10 B H->kk .normal E H) :
  lxW cal O N (namesL fa fb fm fal fg fl fs) E H kk:=by
 obtain⟨s2,s4,s9,s10,s13,s14,s62⟩:=hs;unfold namesL;simp only[lxW,lopsW];refine⟨[(.bool true,H)],?_,fun r hr=> ?_⟩
 ·refine lopW_bin ?_;show lbin .lss (lk E 63) (lk E 62)=_;rw[h63,s62,lbin_lss,decide_eq_true (by omega)]
 rw[List.mem_singleton]at hr;subst hr;refine⟨[(.int .i64 (i:Nat),H)],?_,fun r hr=> ?_⟩
 ·show some [(lk E 63,H)]=_;rw[h63]
 rw[List.mem_singleton]at hr;subst hr;refine⟨[(.int .i64 (i:Nat),H)],rfl,fun r hr=> ?_⟩;rw[List.mem_singleton]at hr;subst hr;have goal:∀(K:IX->Sg->Heap->Prop) (σ':Sg) (H':Heap),(∀E H,NmS s a vp v10 v13 (decide (s∈(allX st1 st2 U L).1.take (i+1))) (allX st1 st2 U L).1.length E->lk E 63=.int .i64 (i:Nat)->NmI U L a vp b1 b2 st1 st2 v10 B H->K .normal E H)->NmS s a vp v10 v13 (decide (s∈(allX st1 st2 U L).1.take i)) (allX st1 st2 U L).1.length σ'->lk σ' 15=.int .i64 (i:Nat)->lk σ' 17=.int .i64 0->lk σ' 63=.int .i64 (i:Nat)->NmI U L a vp b1 b2 st1 st2 v10 B H' ->
   lxW cal O N (nmC3 fa fb fm fal fg fl fs) σ' H' K:=by
  intro K σ' H' hK ⟨t2,t4,t9,t10,t13,t14,t62⟩ t15 t17 t63 hI';refine lxK_W (k:=nmK) (Q:=fun r=>r=(.tuple [.str s,.ptr a 0,.ptr vp 0,v10,v13,.bool (decide (s∈(allX st1 st2 U L).1.take i)||decide ((allX st1 st2 U L).1[i]=s)),.int .i64 (i:Nat),.int .i64 0,.int .i64 ((allX st1 st2 U L).1.length:Nat),.int .i64 (i:Nat)],H')) ?_ ?_
  ·rw[nmC3Eq cal O N fa fb fm fal fg fl fs (k:=nmK) gTen (fun _ _=>rfl) (fun _ _=>rfl)];rw[t2,t4,t9,t10,t13,t14,t15,t17,t62,t63];exact⟨_,nm_e hL allX_sorted allX_nodup hle hlt hI'.ns,rfl⟩
  ·rintro x σ2 H2 r hx hr
   cases x with
   | exit id=>cases hx
   | ret=>rw[nmK_ret hx]at hr;simp at hr
   | normal =>
    rw[nmK_nor hx]at hr;simp only[Prod.mk.injEq,IV.tuple.injEq,List.cons.injEq,and_true]at hr;obtain⟨⟨u2,u4,u9,u10,u13,u14,u15,u17,u62,u63⟩,rfl⟩:=hr;refine hK σ2 H2 ⟨u2,u4,u9,u10,u13,?_,u62⟩ u63 hI';rw[u14,List.take_add_one,List.getElem?_eq_getElem hlt]
    congr 1
    simp only[Option.toList,List.mem_append,List.mem_singleton,Bool.decide_or]
    congr 1
    exact decide_eq_decide.2 ⟨fun e=>e.symm,fun e=>e.symm⟩
 have wi:IntKind.wrap .i64 ((i:Int)+1)=((i+1:Nat):Int):=by rw[wrap_i64 (by omega) (by omega)];omega
 have fin:∀(σ2:Sg) (H2:Heap),NmS s a vp v10 v13 (decide (s∈(allX st1 st2 U L).1.take (i+1))) (allX st1 st2 U L).1.length σ2->lk σ2 63=.int .i64 (i:Nat)->NmI U L a vp b1 b2 st1 st2 v10 B H2->∃l,lopW cal O ⟨some 104,.bin .add (.t 63) (.k (.int .i64 1)),none⟩ σ2 H2=some l/\∀r∈l,∃l',lopW cal O ⟨some 63,.mv (.t 104),none⟩ (pput σ2 (some 104) r.1) r.2=some l'/\∀r'∈l',kk .normal (pput (pput σ2 (some 104) r.1) (some 63) r'.1) r'.2:=by
  intro σ2 H2 h u63 hI2;refine⟨[(.int .i64 ((i+1:Nat):Int),H2)],?_,fun r hr=> ?_⟩
  ·refine lopW_bin ?_;show lbin .add (lk σ2 63) (.int .i64 1)=_;rw[u63,lbin_add,wi]
  rw[List.mem_singleton]at hr;subst hr;refine⟨[(.int .i64 ((i+1:Nat):Int),H2)],rfl,fun r hr=> ?_⟩;rw[List.mem_singleton]at hr;subst hr;exact hQ _ H2 h rfl hI2
 have way:∀(σ':Sg) (H':Heap) (r:Out),nmK .normal σ' H'=some r->r.1=.tuple [.str s,.ptr a 0,.ptr vp 0,v10,v13,.bool (decide (s∈(allX st1 st2 U L).1.take i)),.int .i64 (i:Nat),.int .i64 0,.int .i64 ((allX st1 st2 U L).1.length:Nat),.int .i64 (i:Nat)]->NmI U L a vp b1 b2 st1 st2 v10 B r.2->NmS s a vp v10 v13 (decide (s∈(allX st1 st2 U L).1.take i)) (allX st1 st2 U L).1.length σ'/\lk σ' 15=.int .i64 (i:Nat)/\lk σ' 17=.int .i64 0/\lk σ' 63=.int .i64 (i:Nat)/\NmI U L a vp b1 b2 st1 st2 v10 B H':=by
  intro σ' H' r hx hr hI';rw[nmK_nor hx]at hr hI';simp only[IV.tuple.injEq,List.cons.injEq,and_true]at hr;obtain⟨u2,u4,u9,u10,u13,u14,u15,u17,u62,u63⟩:=hr;exact⟨⟨u2,u4,u9,u10,u13,u14,u62⟩,u15,u17,u63,hI'⟩
 simp only[pput];generalize hsg:(15,IV.int .i64 (i:Nat))::(65,IV.int .i64 (i:Nat))::(64,IV.bool true)::E=σ1;have g2:lk σ1 2=.str s:=by subst hsg;exact s2
 have g4:lk σ1 4=.ptr a 0:=by subst hsg;exact s4
 have g9:lk σ1 9=.ptr vp 0:=by subst hsg;exact s9
 have g10:lk σ1 10=v10:=by subst hsg;exact s10
 have g13:lk σ1 13=v13:=by subst hsg;exact s13
 have g14:lk σ1 14=.bool (decide (s∈(allX st1 st2 U L).1.take i)):=by subst hsg;exact s14
 have g15:lk σ1 15=.int .i64 (i:Nat):=by subst hsg;rfl
 have g62:lk σ1 62=.int .i64 ((allX st1 st2 U L).1.length:Nat):=by subst hsg;exact s62
 have g63:lk σ1 63=.int .i64 (i:Nat):=by subst hsg;exact h63
 constructor
 ·refine lxK_W (k:=nmK) (Q:=fun r=>r.1=.tuple [.str s,.ptr a 0,.ptr vp 0,v10,v13,.bool (decide (s∈(allX st1 st2 U L).1.take i)),.int .i64 (i:Nat),.int .i64 0,.int .i64 ((allX st1 st2 U L).1.length:Nat),.int .i64 (i:Nat)]/\NmI U L a vp b1 b2 st1 st2 v10 B r.2) ?_ ?_
  ·rw[nmC1Eq cal O N fa fb fm fal fg fl fs (k:=nmK) gTen (fun _ _=>rfl)];rw[g2,g4,g9,g10,g13,g14,g15,g62,g63];exact nm_d1 hG hI hlt
  ·rintro x σ' H' r hx ⟨hr1,hr2⟩
   cases x with
   | exit id=>cases hx
   | ret=>rw[nmK_ret hx]at hr1;simp at hr1
   | normal =>
    obtain⟨w1,w2,w3,w4,w5⟩:=way σ' H' r hx hr1 hr2;exact goal _ σ' H' (fun E H h1 h2 h3=>fin E H h1 h2 h3) w1 w2 w3 w4 w5
 ·refine lxK_W (k:=nmK) (Q:=fun r=>r.1=.tuple [.str s,.ptr a 0,.ptr vp 0,v10,v13,.bool (decide (s∈(allX st1 st2 U L).1.take i)),.int .i64 (i:Nat),.int .i64 0,.int .i64 ((allX st1 st2 U L).1.length:Nat),.int .i64 (i:Nat)]/\NmI U L a vp b1 b2 st1 st2 v10 B r.2) ?_ ?_
  ·rw[nmC2Eq cal O N fa fb fm fal fg fl fs (k:=nmK) gTen (fun _ _=>rfl)];rw[g2,g4,g9,g10,g13,g14,g15,g62,g63];exact nm_d2 hG hI hlt
  ·rintro x σ' H' r hx ⟨hr1,hr2⟩
   cases x with
   | exit id=>cases hx
   | ret=>rw[nmK_ret hx]at hr1;simp at hr1
   | normal =>
    obtain⟨w1,w2,w3,w4,w5⟩:=way σ' H' r hx hr1 hr2;exact goal _ σ' H' (fun E H h1 h2 h3=>fin E H h1 h2 h3) w1 w2 w3 w4 w5
theorem nm_loop (hG:VGetOk O fg)(hL:PLessOk O fl)(hle:(allX st1 st2 U L).1.length<=4000000){kk:IX->Sg->Heap->Prop}
  (hQ:∀E H,NmS s a vp v10 v13 (decide (s∈(allX st1 st2 U L).1)) (allX st1 st2 U L).1.length E->NmI U L a vp b1 b2 st1 st2 v10 B H->kk (.exit 0) E H) :
  ∀(m n i:Nat) (E:Sg) (H:Heap),i+m=(allX st1 st2 U L).1.length->m<n->NmS s a vp v10 v13 (decide (s∈(allX st1 st2 U L).1.take i)) (allX st1 st2 U L).1.length E->lk E 63=.int .i64 (i:Nat)->NmI U L a vp b1 b2 st1 st2 v10 B H ->
   itW (lxW cal O N (namesL fa fb fm fal fg fl fs)) n E H kk:=by
 intro m
 induction m with
 | zero =>
  intro n i E H hi hn hs h63 hI;obtain⟨n,rfl⟩:∃k,n=k+1:=⟨n - 1,by omega⟩;obtain⟨s2,s4,s9,s10,s13,s14,s62⟩:=hs;simp only[itW];unfold namesL;simp only[lxW,lopsW];refine⟨[(.bool false,H)],?_,fun r hr=> ?_⟩
  ·refine lopW_bin ?_;show lbin .lss (lk E 63) (lk E 62)=_;rw[h63,s62,lbin_lss,decide_eq_false (by omega)]
  ·rw[List.mem_singleton]at hr;subst hr;rw[List.take_of_length_le (by omega)]at s14;exact hQ _ _ ⟨s2,s4,s9,s10,s13,s14,s62⟩ hI
 | succ m ih =>
  intro n i E H hi hn hs h63 hI;obtain⟨n,rfl⟩:∃k,n=k+1:=⟨n - 1,by omega⟩;simp only[itW];exact nm_body hG hL hle (by omega) hs h63 hI fun σ' H' h1 h2 h3=>ih n (i+1) σ' H' (by omega) (by omega) h1 h2 h3
theorem names_w (hA:AwOk O fa)(hB:BuildOk O fb)(hM:MNewOk O fm)(hG:VGetOk O fg)(hAL:VAllOk O fal)(hL:PLessOk O fl)(hS:VStatOk O fs)(hN:4000000<N){v:IV}{l:List MAct}(hv:MActs H.length H v l) :
  lrunW cal O N (namesLo fa fb fm fal fg fl fs) [v,nodV U L,.str s] H fun r _=>r=.bool true:=by
 unfold lrunW namesLo;refine lappN_W ?_;show lxW cal O N (nmC0 fa fb fm fal fg fl fs) _ H _;have toEnd:∀{E:Sg} {H:Heap},lk E 6=.bool true->endW [.tmp 6] (fun r _=>r=.bool true) .ret E H:=fun h=>⟨[.bool true],by rw[←h];rfl,rfl⟩;refine lxK_W (k:=nmK) (Q:=fun r =>
   (∃vs,vs.length=10/\r.1=.tuple (.bool true::vs))∨
   ∃a vp b1 b2 B st1 st2 w,dirE st1 st2 U L=0/\(allX st1 st2 U L).1.length<=4000000/\r.1=.tuple [.str s,.ptr a 0,.ptr vp 0,w,.int .i64 (getV st1 st2 U L s).2,.bool false,.tuple [],.tuple [],.tuple [],.tuple []]/\NmI U L a vp b1 b2 st1 st2 w B r.2) ?_ ?_
 ·rw[nmC0Eq cal O N fa fb fm fal fg fl fs (k:=nmK) gTen (fun _ _=>rfl) (fun _ _=>rfl)];exact nm_a hA hB hM hG hAL hv
 ·rintro x E K r hx hr
  cases x with
  | exit id=>cases hx
  | ret =>
   rw[nmK_ret hx]at hr;rcases hr with⟨vs,hl,hr⟩ | ⟨a,vp,b1,b2,B,st1,st2,w,hd,hle,hr,hI⟩
   ·simp only[IV.tuple.injEq,List.cons.injEq]at hr;exact toEnd hr.1
   ·simp at hr
  | normal =>
   rw[nmK_nor hx]at hr;rcases hr with⟨vs,hl,hr⟩ | ⟨a,vp,b1,b2,B,st1,st2,w,hd,hle,hr,hI⟩
   ·simp only[IV.tuple.injEq,List.cons.injEq]at hr;rw[←hr.2]at hl;simp at hl
   ·simp only[IV.tuple.injEq,List.cons.injEq,and_true]at hr;obtain⟨c2,c4,c9,c10,c13,c14,c15,c17,c62,c63⟩:=hr;simp only at hI;simp only[lxW,lopsW];refine⟨[(lk E 10,K)],rfl,fun r hr=> ?_⟩;rw[List.mem_singleton]at hr;subst hr;refine⟨[(.int .i64 ((allX st1 st2 U L).1.length:Nat),K)],lopW_q rfl ?_,fun r hr=> ?_⟩
    ·show llen K .slice (lk E 10)=_;rw[c10,hI.ns.len]
    rw[List.mem_singleton]at hr;subst hr;refine⟨[(.int .i64 0,K)],rfl,fun r hr=> ?_⟩;rw[List.mem_singleton]at hr;subst hr;simp only[pput];refine nm_loop hG hL hle (fun σ' H' hs hI'=> ?_) _ N 0 _ K (Nat.zero_add _) (by omega) ⟨c2,c4,c9,c10,c13,(by rw[List.take_zero];exact c14),rfl⟩ rfl hI;obtain⟨d2,d4,d9,d10,d13,d14,d62⟩:=hs;show lxW cal O N (nmC4 fa fb fm fal fg fl fs) σ' H' _;refine lxK_W (k:=fun x E H=>match x with | .ret=>resK nmRs [] E H | _=>none) (Q:=fun r=>∃vs,r.1=.tuple (.bool true::vs)) ?_ ?_
    ·rw[nmC4Eq cal O N fa fb fm fal fg fl fs (k:=fun x E H=>match x with | .ret=>resK nmRs [] E H | _=>none) (fun _ _=>rfl)];rw[d2,d4,d9,d10,d13,d14];refine nm_f hS hd hle hI' ?_;refine decide_eq_decide.2 ?_;rw[allX_mem];unfold gotV;rw[decide_eq_true_eq]
    ·rintro x σ2 H2 r hx ⟨vs,hr⟩
     cases x with
     | exit id=>cases hx
     | normal=>cases hx
     | ret =>
      have:r=_:=nmK_ret hx;rw[this]at hr;simp only[IV.tuple.injEq,List.cons.injEq]at hr;exact toEnd hr.1
end
end Go.Shade
namespace Go.Proofs.YtmkjmfegaalcoaaGreat
open Go.Shade
theorem lo6 :LoF Tryz.prog 6 (Go.Shade.namesLo 23 24 25 32 28 41 34):=⟨⟨Tryz.f6,Tryz.func6,by kernel_rfl⟩,by kernel_rfl⟩
theorem lo41 :LoF Tryz.prog 41 (lf Tryz.f41):=⟨⟨_,Tryz.func41,by kernel_rfl⟩,by kernel_rfl⟩
theorem e41 (cal:FuncId->Bool)(O:Oracle)(N:Nat)(v0 v1:IV)(H:Heap):lrunK cal O N (lf Tryz.f41) [v0,v1] H=Go.Shade.pathLessS cal O N v0 v1 H:=by kernel_rfl
theorem okPLess :PLessOk da 41:=fun a b H=>denLo (tba.non 41 rfl) lo41 0 (nble (by kernel_rfl)) (by rw[e41];exact pless_s)
end Go.Proofs.YtmkjmfegaalcoaaGreat
