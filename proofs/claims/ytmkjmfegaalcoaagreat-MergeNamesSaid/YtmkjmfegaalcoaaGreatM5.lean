/- The law MergeNames, part 5. -/
import Derived.Test.YtmkjmfegaalcoaaGreatM2
import Derived.KernelRfl
import Derived.Test.YtmkjmfegaalcoaaGreatM4
set_option linter.all false
namespace Go.Shade
def r05Z :List IV:=.nilPtr::(List.replicate 201 [.int .i64 0,.int .i64 0,.int .i64 0,.int .i64 0,.int .i64 0,.nilSlice,.nilSlice,.nilSlice,.str []]).flatten
def vr05NewS (cal:CB)(O:Oracle)(N:Nat)(f0:FuncId)(v0:IV)(H:Heap):OH :=
 ob (O f0 [v0] H) fun r1 =>ob (leqv false (leq .ptr r1.1 .nilPtr)) fun t2 =>cnd t2
 (some (.nilPtr,r1.2))
 (ob (lbld r05Z [(0,1,r1.1)]) fun t3 =>ob (lbox r1.2 t3) fun r4 =>ob (lbld [(.int .i64 0),(.int .i64 0),(.int .i64 0),(.int .i64 0),(.int .i64 0),.nilSlice,.nilSlice,.nilSlice,(.str [])] [(0,1,(.int .i64 2)),(1,1,(.int .i64 1)),(4,1,(.int .i64 1))]) fun t5 =>ob (lchk r4.1) fun t6 =>ob (loff t6 1) fun t7 =>ob (lixa 201 9 t7 (.int .i64 1)) fun t8 =>ob (lstV r4.2 9 t8 t5) fun r9 =>some (r4.1,r9.2))
def vr03NewS (cal:CB)(O:Oracle)(N:Nat)(v0:IV)(H:Heap):OH :=
 ob (lbin .lss v0 (.int .i64 0)) fun t1 =>ob (gq (isB t1 false) (some v0)) fun t2 =>ob (gq (isB t1 false) (lbin .gtr t2 (.int .i64 65536))) fun t3 =>ob (lpick t1 (.bool true) t3) fun t4 =>cnd t4
 (some (.nilPtr,H))
 (ob (lbld [(.int .i64 0),(.int .i64 0)] [(0,1,v0)]) fun t5 =>ob (lbox H t5) fun r6 =>some (r6.1,r6.2))
def R5IsS (cal:CB)(O:Oracle)(N:Nat)(v0 v1:IV)(H:Heap):OH :=
 ob (lbin .geq v1 (.int .i64 1)) fun t1 =>ob (gq (isB t1 true) (some v1)) fun t2 =>ob (gq (isB t1 true) (lbin .leq t2 (.int .i64 200))) fun t3 =>ob (lpick t1 t3 (.bool false)) fun t4 =>ob (gq (isB t4 true) (some v0)) fun t5 =>ob (gq (isB t4 true) (some v1)) fun t6 =>ob (gq (isB t4 true) (lchk t5)) fun t7 =>ob (gq (isB t4 true) (loff t7 1)) fun t8 =>ob (gq (isB t4 true) (lixa 201 9 t8 t6)) fun t9 =>ob (gq (isB t4 true) (loff t9 0)) fun t10 =>ob (gq (isB t4 true) (lload1 H t10)) fun t11 =>ob (gq (isB t4 true) (lbin .neq t11 (.int .i64 0))) fun t12 =>ob (lpick t4 t12 (.bool false)) fun t13 =>some (t13,H)
def R5KindS (cal:CB)(O:Oracle)(N:Nat)(f0:FuncId)(v0 v1:IV)(H:Heap):OH :=
 ob (O f0 [v0,v1] H) fun r1 =>ob (iun .not r1.1) fun t2 =>cnd t2
 (some ((.int .i64 0),r1.2))
 (ob (lchk v0) fun t3 =>ob (loff t3 1) fun t4 =>ob (lixa 201 9 t4 v1) fun t5 =>ob (loff t5 0) fun t6 =>ob (lload1 r1.2 t6) fun t7 =>some (t7,r1.2))
def R5MarkS (cal:CB)(O:Oracle)(N:Nat)(f0:FuncId)(v0 v1 v2:IV)(H:Heap):OH :=
 ob (O f0 [v0,v1] H) fun r1 =>ob (iun .not r1.1) fun t2 =>cnd t2
 (some ((.int .i64 2),r1.2))
 (ob (lchk v0) fun t3 =>ob (loff t3 1) fun t4 =>ob (lixa 201 9 t4 v1) fun t5 =>ob (loff t5 3) fun t6 =>ob (lstV r1.2 1 t6 v2) fun r7 =>some ((.int .i64 0),r7.2))
def R5DirS (cal:CB)(O:Oracle)(N:Nat)(f0:FuncId)(v0 v1 v2:IV)(H:Heap):OH :=
 ob (O f0 [v0,v1] H) fun r1 =>ob (iun .not r1.1) fun t2 =>cnd t2
 (some ((.int .i64 2),r1.2))
 (ob (lchk v0) fun t3 =>ob (loff t3 1) fun t4 =>ob (lixa 201 9 t4 v1) fun t5 =>ob (loff t5 0) fun t6 =>ob (lload1 r1.2 t6) fun t7 =>ob (lbin .neq t7 (.int .i64 2)) fun t8 =>cnd t8
 (some ((.int .i64 20),r1.2))
 (ob (gq (isB v2 true) (some v0)) fun t9 =>ob (gq (isB v2 true) (some v1)) fun t10 =>ob (gq (isB v2 true) (lchk t9)) fun t11 =>ob (gq (isB v2 true) (loff t11 1)) fun t12 =>ob (gq (isB v2 true) (lixa 201 9 t12 t10)) fun t13 =>ob (gq (isB v2 true) (loff t13 1)) fun t14 =>ob (gq (isB v2 true) (lload1 r1.2 t14)) fun t15 =>ob (gq (isB v2 true) (lbin .eql t15 (.int .i64 0))) fun t16 =>ob (lpick v2 t16 (.bool false)) fun t17 =>cnd t17
 (some ((.int .i64 2),r1.2))
 (some ((.int .i64 0),r1.2))))
def vr05SetS (cal:CB)(O:Oracle)(N:Nat)(f0:FuncId)(v0:IV)(H:Heap):OH :=
 ob (O f0 [v0] H) fun r1 =>ob (lbin .eql r1.1 (.int .i64 0)) fun t2 =>ob (gq (isB t2 true) (some v0)) fun t3 =>ob (gq (isB t2 true) (lbin .eql t3 (.str [46]))) fun t4 =>ob (gq (isB t2 true) (some t4)) fun t5 =>ob (gq (isB t5 false) (some v0)) fun t6 =>ob (gq (isB t5 false) (lbin .eql t6 (.str [46,46]))) fun t7 =>ob (gq (isB t2 true) (lpick t5 (.bool true) t7)) fun t8 =>ob (lpick t2 t8 (.bool false)) fun t9 =>cnd t9
 (some ((.int .i64 22),r1.2))
 (some (r1.1,r1.2))
def vr01NameS (cal:CB)(O:Oracle)(N:Nat)(f0:FuncId)(v0:IV)(H:Heap):OH :=
 ob (llen H .str v0) fun t1 =>ob (lbin .eql t1 (.int .i64 0)) fun t2 =>cnd t2
 (some ((.int .i64 2),H))
 (ob (llen H .str v0) fun t3 =>ob (lbin .gtr t3 (.int .i64 60)) fun t4 =>cnd t4
 (some ((.int .i64 36),H))
 (ob (O f0 [v0,(.int .u8 0)] H) fun r5 =>ob (gq (isB r5.1 false) (some v0)) fun t6 =>ob (ge (isB r5.1 false) r5.2 (O f0 [t6,(.int .u8 47)] r5.2)) fun r7 =>ob (lpick r5.1 (.bool true) r7.1) fun t8 =>cnd t8
 (some ((.int .i64 22),r7.2))
 (some ((.int .i64 0),r7.2))))
def X12K10 :LC:=.seq (.seq (.reg [ qM 6 5,qM 7 0,qO 8 (.len .str (.t 7)),qO 9 (.bin .lss (.t 6) (.t 8))]) (.cond (.t 9) .skip (.exit 0))) (.seq (.block 1 (.seq (.reg [ qM 12 0,qM 13 5,qO 14 (.ixs (.t 12) (.t 13)),qM 15 1,qO 16 (.bin .eql (.t 14) (.t 15))]) (.cond (.t 16) (.seq (.reg [ qO 4 (.mv (.k (.bool true)))]) .ret) .skip))) (.reg [ qM 10 5,qO 11 (.bin .add (.t 10) (k6 1)),qM 5 11]))
def vr01HasC0 :LC:=.loop X12K10
def vr01HasC1 :LC:=.block 0 vr01HasC0
def vr01HasC2 :LC:=.seq (.reg [ qO 5 (.mv (k6 0))]) vr01HasC1
def vr01HasC3 :LC:=.seq vr01HasC2 (.seq (.reg [ qO 4 (.mv (.k (.bool false)))]) .ret)
def vr01HasC4 :LC:=.seq (.reg [ qO 4 (.mv (.k (.bool false)))]) vr01HasC3
def vr01HasC0S (cal:CB)(O:Oracle)(N:Nat)(gE0:Heap->OH):Nat->IV->IV->IV->Heap->OH
 | 0,_,_,_,_=>none
 | n+1,v0,v1,v5,H =>ob (llen H .str v0) fun t1 =>ob (lbin .lss v5 t1) fun t2 =>cnd t2
  (ob (lixs v0 v5) fun t3 =>ob (lbin .eql t3 v1) fun t4 =>cnd t4
  (some ((.bool true),H))
  (ob (lbin .add v5 (.int .i64 1)) fun t5 =>
   vr01HasC0S cal O N gE0 n v0 v1 t5 H))
  (gE0 H)
theorem vr01HasC0Eq (cal:CB)(O:Oracle)(N:Nat){k:KT (IV×Heap)}(gE0:Heap->OH)(hgE0:∀E H,k (.exit 0) E H=gE0 H)(hR:∀E H,k .ret E H=resK [(.tmp 4)] [] E H):∀(n:Nat) (E:Sg) (H:Heap),itK (lxK cal O N X12K10) n E H k=vr01HasC0S cal O N gE0 n (lk E 0) (lk E 1) (lk E 5) H:=by
 have hk:k=(kE 0 (fun E H=>gE0 H) (kR (resK [(.tmp 4)] []) k)):=(kE_mk hgE0 (kR_mk hR rfl));intro n
 induction n with
 | zero=>intro E H;rfl
 | succ n ih =>
  intro E H;rw[itK_succ,seqK_mk (g:=fun E H=>vr01HasC0S cal O N gE0 n (lk E 0) (lk E 1) (lk E 5) H) ih,hk];kernel_rfl
def vr01HasC1S (cal:CB)(O:Oracle)(N:Nat)(gN:Heap->OH)(v0 v1 v5:IV)(H:Heap):OH :=
  vr01HasC0S cal O N (fun H=>gN H) N v0 v1 v5 H
theorem vr01HasC1Eq (cal:CB)(O:Oracle)(N:Nat){k:KT (IV×Heap)}(gN:Heap->OH)(hgN:∀E H,k .normal E H=gN H)(hR:∀E H,k .ret E H=resK [(.tmp 4)] [] E H):∀(E:Sg) (H:Heap),lxK cal O N vr01HasC1 E H k=vr01HasC1S cal O N gN (lk E 0) (lk E 1) (lk E 5) H:=by
 have hk:k=(kN (fun E H=>gN H) (kR (resK [(.tmp 4)] []) k)):=(kN_mk hgN (kR_mk hR rfl));intro E H;rw[hk];show lxK cal O N vr01HasC0 E H (blockK 0 (kN (fun E H=>gN H) (kR (resK [(.tmp 4)] []) k)))=_;exact(vr01HasC0Eq cal O N (k:=(blockK 0 (kN (fun E H=>gN H) (kR (resK [(.tmp 4)] []) k)))) gN (fun _ _=>by kernel_rfl) (fun _ _=>by kernel_rfl) N E H).trans (by kernel_rfl)
def vr01HasC2S (cal:CB)(O:Oracle)(N:Nat)(gN:Heap->OH)(v0 v1:IV)(H:Heap):OH :=
  vr01HasC1S cal O N (fun H=>gN H) v0 v1 (.int .i64 0) H
theorem vr01HasC2Eq (cal:CB)(O:Oracle)(N:Nat){k:KT (IV×Heap)}(gN:Heap->OH)(hgN:∀E H,k .normal E H=gN H)(hR:∀E H,k .ret E H=resK [(.tmp 4)] [] E H):∀(E:Sg) (H:Heap),lxK cal O N vr01HasC2 E H k=vr01HasC2S cal O N gN (lk E 0) (lk E 1) H:=by
 have hk:k=(kN (fun E H=>gN H) (kR (resK [(.tmp 4)] []) k)):=(kN_mk hgN (kR_mk hR rfl));intro E H;rw[hk];show lxK cal O N (.reg [ qO 5 (.mv (k6 0))]) E H (seqK (lxK cal O N vr01HasC1) (kN (fun E H=>gN H) (kR (resK [(.tmp 4)] []) k)))=_;rw[seqK_mk (g:=fun E H=>vr01HasC1S cal O N gN (lk E 0) (lk E 1) (lk E 5) H) (vr01HasC1Eq cal O N (k:=(kN (fun E H=>gN H) (kR (resK [(.tmp 4)] []) k))) gN (fun _ _=>by kernel_rfl) (fun _ _=>by kernel_rfl))];kernel_rfl
def vr01HasC3S (cal:CB)(O:Oracle)(N:Nat)(v0 v1:IV)(H:Heap):OH :=
  vr01HasC2S cal O N (fun H=>some ((.bool false),H)) v0 v1 H
theorem vr01HasC3Eq (cal:CB)(O:Oracle)(N:Nat){k:KT (IV×Heap)}(hR:∀E H,k .ret E H=resK [(.tmp 4)] [] E H):∀(E:Sg) (H:Heap),lxK cal O N vr01HasC3 E H k=vr01HasC3S cal O N (lk E 0) (lk E 1) H:=by
 have hk:k=(kR (resK [(.tmp 4)] []) k):=(kR_mk hR rfl);intro E H;rw[hk];show lxK cal O N vr01HasC2 E H (seqK (lxK cal O N (.seq (.reg [ qO 4 (.mv (.k (.bool false)))]) .ret)) (kR (resK [(.tmp 4)] []) k))=_;exact(vr01HasC2Eq cal O N (k:=(seqK (lxK cal O N (.seq (.reg [ qO 4 (.mv (.k (.bool false)))]) .ret)) (kR (resK [(.tmp 4)] []) k))) (fun H=>some ((.bool false),H)) (fun _ _=>by kernel_rfl) (fun _ _=>by kernel_rfl) E H).trans (by kernel_rfl)
def vr01HasC4S (cal:CB)(O:Oracle)(N:Nat)(v0 v1:IV)(H:Heap):OH :=
  vr01HasC3S cal O N v0 v1 H
theorem vr01HasC4Eq (cal:CB)(O:Oracle)(N:Nat){k:KT (IV×Heap)}(hR:∀E H,k .ret E H=resK [(.tmp 4)] [] E H):∀(E:Sg) (H:Heap),lxK cal O N vr01HasC4 E H k=vr01HasC4S cal O N (lk E 0) (lk E 1) H:=by
 have hk:k=(kR (resK [(.tmp 4)] []) k):=(kR_mk hR rfl);intro E H;rw[hk];show lxK cal O N (.reg [ qO 4 (.mv (.k (.bool false)))]) E H (seqK (lxK cal O N vr01HasC3) (kR (resK [(.tmp 4)] []) k))=_;rw[seqK_mk (g:=fun E H=>vr01HasC3S cal O N (lk E 0) (lk E 1) H) (vr01HasC3Eq cal O N (k:=(kR (resK [(.tmp 4)] []) k)) (fun _ _=>by kernel_rfl))];kernel_rfl
def vr01Has :LFun:=⟨vr01HasC4,[(.tmp 4)],17⟩
def vr01HasS (cal:CB)(O:Oracle)(N:Nat)(v0 v1:IV)(H:Heap):OH :=
  vr01HasC4S cal O N v0 v1 H
theorem vr01HasEq (cal:CB)(O:Oracle)(N:Nat)(v0 v1:IV)(H:Heap):lrunK cal O N (vr01Has) [v0,v1] H=vr01HasS cal O N v0 v1 H:=by
 show lxK cal O N vr01HasC4 (initFrom 0 [v0,v1]) H (endK [(.tmp 4)])=_;exact vr01HasC4Eq cal O N (k:=(endK [(.tmp 4)])) (fun _ _=>by kernel_rfl) (initFrom 0 [v0,v1]) H
def X12K5 :LC:=.seq (.seq (.reg [ qM 6 5,qM 7 0,qO 8 (.len .str (.t 7)),qO 9 (.bin .lss (.t 6) (.t 8)),qM 10 9,⟨(some 11),(.mv (.t 5)),(some (10,true))⟩,⟨(some 12),(.mv (.t 1)),(some (10,true))⟩,⟨(some 13),(.len .str (.t 12)),(some (10,true))⟩,⟨(some 14),(.bin .lss (.t 11) (.t 13)),(some (10,true))⟩,qO 15 (.pick (.t 10) (.t 14) (.k (.bool false)))]) (.cond (.t 15) .skip (.exit 0))) (.seq (.block 1 (.seq (.drw [ qM 18 0,qM 19 5,qO 20 (.ixs (.t 18) (.t 19)),qM 21 1,qM 22 5,qO 23 (.ixs (.t 21) (.t 22)),qO 24 (.bin .neq (.t 20) (.t 23))] []) (.cond (.t 24) (.seq (.drw [ qM 25 0,qM 26 5,qO 27 (.ixs (.t 25) (.t 26)),qM 28 1,qM 29 5,qO 30 (.ixs (.t 28) (.t 29)),qO 31 (.bin .lss (.t 27) (.t 30)),qM 4 31] []) .ret) .skip))) (.reg [ qM 16 5,qO 17 (.bin .add (.t 16) (k6 1)),qM 5 17]))
def vr01LessC0 :LC:=.loop X12K5
def vr01LessC1 :LC:=.block 0 vr01LessC0
def vr01LessC2 :LC:=.seq (.reg [ qO 5 (.mv (k6 0))]) vr01LessC1
def X12K15 :LC:=.seq (.reg [ qM 32 0,qO 33 (.len .str (.t 32)),qM 34 1,qO 35 (.len .str (.t 34)),qO 36 (.bin .lss (.t 33) (.t 35)),qM 4 36]) .ret
def vr01LessC3 :LC:=.seq vr01LessC2 X12K15
def vr01LessC4 :LC:=.seq (.reg [ qO 4 (.mv (.k (.bool false)))]) vr01LessC3
def vr01LessC0S (cal:CB)(O:Oracle)(N:Nat)(gE0:IV->IV->Heap->OH):Nat->IV->IV->IV->Heap->OH
 | 0,_,_,_,_=>none
 | n+1,v0,v1,v5,H =>ob (llen H .str v0) fun t1 =>ob (lbin .lss v5 t1) fun t2 =>ob (gq (isB t2 true) (some v5)) fun t3 =>ob (gq (isB t2 true) (some v1)) fun t4 =>ob (gq (isB t2 true) (llen H .str t4)) fun t5 =>ob (gq (isB t2 true) (lbin .lss t3 t5)) fun t6 =>ob (lpick t2 t6 (.bool false)) fun t7 =>cnd t7
  (ob (lixs v0 v5) fun t8 =>ob (lixs v1 v5) fun t9 =>ob (lbin .neq t8 t9) fun t10 =>cnd t10
  (ob (lixs v0 v5) fun t11 =>ob (lixs v1 v5) fun t12 =>ob (lbin .lss t11 t12) fun t13 =>some (t13,H))
  (ob (lbin .add v5 (.int .i64 1)) fun t14 =>
   vr01LessC0S cal O N gE0 n v0 v1 t14 H))
  (gE0 v0 v1 H)
theorem vr01LessC0Eq (cal:CB)(O:Oracle)(N:Nat){k:KT (IV×Heap)}(gE0:IV->IV->Heap->OH)(hgE0:∀E H,k (.exit 0) E H=gE0 (lk E 0) (lk E 1) H)(hR:∀E H,k .ret E H=resK [(.tmp 4)] [] E H):∀(n:Nat) (E:Sg) (H:Heap),itK (lxK cal O N X12K5) n E H k=vr01LessC0S cal O N gE0 n (lk E 0) (lk E 1) (lk E 5) H:=by
 have hk:k=(kE 0 (fun E H=>gE0 (lk E 0) (lk E 1) H) (kR (resK [(.tmp 4)] []) k)):=(kE_mk hgE0 (kR_mk hR rfl));intro n
 induction n with
 | zero=>intro E H;rfl
 | succ n ih =>
  intro E H;rw[itK_succ,seqK_mk (g:=fun E H=>vr01LessC0S cal O N gE0 n (lk E 0) (lk E 1) (lk E 5) H) ih,hk];kernel_rfl
def vr01LessC1S (cal:CB)(O:Oracle)(N:Nat)(gN:IV->IV->Heap->OH)(v0 v1 v5:IV)(H:Heap):OH :=
  vr01LessC0S cal O N (fun v0 v1 H=>gN v0 v1 H) N v0 v1 v5 H
theorem vr01LessC1Eq (cal:CB)(O:Oracle)(N:Nat){k:KT (IV×Heap)}(gN:IV->IV->Heap->OH)(hgN:∀E H,k .normal E H=gN (lk E 0) (lk E 1) H)(hR:∀E H,k .ret E H=resK [(.tmp 4)] [] E H):∀(E:Sg) (H:Heap),lxK cal O N vr01LessC1 E H k=vr01LessC1S cal O N gN (lk E 0) (lk E 1) (lk E 5) H:=by
 have hk:k=(kN (fun E H=>gN (lk E 0) (lk E 1) H) (kR (resK [(.tmp 4)] []) k)):=(kN_mk hgN (kR_mk hR rfl));intro E H;rw[hk];show lxK cal O N vr01LessC0 E H (blockK 0 (kN (fun E H=>gN (lk E 0) (lk E 1) H) (kR (resK [(.tmp 4)] []) k)))=_;exact(vr01LessC0Eq cal O N (k:=(blockK 0 (kN (fun E H=>gN (lk E 0) (lk E 1) H) (kR (resK [(.tmp 4)] []) k)))) gN (fun _ _=>by kernel_rfl) (fun _ _=>by kernel_rfl) N E H).trans (by kernel_rfl)
def vr01LessC2S (cal:CB)(O:Oracle)(N:Nat)(gN:IV->IV->Heap->OH)(v0 v1:IV)(H:Heap):OH :=
  vr01LessC1S cal O N (fun v0 v1 H=>gN v0 v1 H) v0 v1 (.int .i64 0) H
theorem vr01LessC2Eq (cal:CB)(O:Oracle)(N:Nat){k:KT (IV×Heap)}(gN:IV->IV->Heap->OH)(hgN:∀E H,k .normal E H=gN (lk E 0) (lk E 1) H)(hR:∀E H,k .ret E H=resK [(.tmp 4)] [] E H):∀(E:Sg) (H:Heap),lxK cal O N vr01LessC2 E H k=vr01LessC2S cal O N gN (lk E 0) (lk E 1) H:=by
 have hk:k=(kN (fun E H=>gN (lk E 0) (lk E 1) H) (kR (resK [(.tmp 4)] []) k)):=(kN_mk hgN (kR_mk hR rfl));intro E H;rw[hk];show lxK cal O N (.reg [ qO 5 (.mv (k6 0))]) E H (seqK (lxK cal O N vr01LessC1) (kN (fun E H=>gN (lk E 0) (lk E 1) H) (kR (resK [(.tmp 4)] []) k)))=_;rw[seqK_mk (g:=fun E H=>vr01LessC1S cal O N gN (lk E 0) (lk E 1) (lk E 5) H) (vr01LessC1Eq cal O N (k:=(kN (fun E H=>gN (lk E 0) (lk E 1) H) (kR (resK [(.tmp 4)] []) k))) gN (fun _ _=>by kernel_rfl) (fun _ _=>by kernel_rfl))];kernel_rfl
def vr01LessC3S (cal:CB)(O:Oracle)(N:Nat)(v0 v1:IV)(H:Heap):OH :=
  vr01LessC2S cal O N (fun v0 v1 H=>ob (llen H .str v0) fun t1 =>ob (llen H .str v1) fun t2 =>ob (lbin .lss t1 t2) fun t3 =>some (t3,H)) v0 v1 H
theorem vr01LessC3Eq (cal:CB)(O:Oracle)(N:Nat){k:KT (IV×Heap)}(hR:∀E H,k .ret E H=resK [(.tmp 4)] [] E H):∀(E:Sg) (H:Heap),lxK cal O N vr01LessC3 E H k=vr01LessC3S cal O N (lk E 0) (lk E 1) H:=by
 have hk:k=(kR (resK [(.tmp 4)] []) k):=(kR_mk hR rfl);intro E H;rw[hk];show lxK cal O N vr01LessC2 E H (seqK (lxK cal O N X12K15) (kR (resK [(.tmp 4)] []) k))=_;exact(vr01LessC2Eq cal O N (k:=(seqK (lxK cal O N X12K15) (kR (resK [(.tmp 4)] []) k))) (fun v0 v1 H=>ob (llen H .str v0) fun t1 =>ob (llen H .str v1) fun t2 =>ob (lbin .lss t1 t2) fun t3 =>some (t3,H)) (fun _ _=>by kernel_rfl) (fun _ _=>by kernel_rfl) E H).trans (by kernel_rfl)
def vr01LessC4S (cal:CB)(O:Oracle)(N:Nat)(v0 v1:IV)(H:Heap):OH :=
  vr01LessC3S cal O N v0 v1 H
theorem vr01LessC4Eq (cal:CB)(O:Oracle)(N:Nat){k:KT (IV×Heap)}(hR:∀E H,k .ret E H=resK [(.tmp 4)] [] E H):∀(E:Sg) (H:Heap),lxK cal O N vr01LessC4 E H k=vr01LessC4S cal O N (lk E 0) (lk E 1) H:=by
 have hk:k=(kR (resK [(.tmp 4)] []) k):=(kR_mk hR rfl);intro E H;rw[hk];show lxK cal O N (.reg [ qO 4 (.mv (.k (.bool false)))]) E H (seqK (lxK cal O N vr01LessC3) (kR (resK [(.tmp 4)] []) k))=_;rw[seqK_mk (g:=fun E H=>vr01LessC3S cal O N (lk E 0) (lk E 1) H) (vr01LessC3Eq cal O N (k:=(kR (resK [(.tmp 4)] []) k)) (fun _ _=>by kernel_rfl))];kernel_rfl
def vr01Less :LFun:=⟨vr01LessC4,[(.tmp 4)],37⟩
def vr01LessS (cal:CB)(O:Oracle)(N:Nat)(v0 v1:IV)(H:Heap):OH :=
  vr01LessC4S cal O N v0 v1 H
theorem vr01LessEq (cal:CB)(O:Oracle)(N:Nat)(v0 v1:IV)(H:Heap):lrunK cal O N (vr01Less) [v0,v1] H=vr01LessS cal O N v0 v1 H:=by
 show lxK cal O N vr01LessC4 (initFrom 0 [v0,v1]) H (endK [(.tmp 4)])=_;exact vr01LessC4Eq cal O N (k:=(endK [(.tmp 4)])) (fun _ _=>by kernel_rfl) (initFrom 0 [v0,v1]) H
def X12K6 :LC:=.seq (.seq (.reg [ qM 7 6,qM 8 0,qO 9 (.chk (.t 8)),qO 10 (.off (.t 9) 0),qO 11 (.ld1 (.t 10)),qO 12 (.len .slice (.t 11)),qO 13 (.bin .lss (.t 7) (.t 12))]) (.cond (.t 13) .skip (.exit 0))) (.seq (.block 1 (.seq (.reg [ qM 16 0,qO 17 (.chk (.t 16)),qO 18 (.off (.t 17) 0),qO 19 (.ld1 (.t 18)),qM 20 6,qO 21 (.ix 2 (.t 19) (.t 20)),qO 22 (.off (.t 21) 0),qO 23 (.ld1 (.t 22)),qM 24 1,qO 25 (.bin .eql (.t 23) (.t 24))]) (.cond (.t 25) (.seq (.reg [ qM 26 0,qO 27 (.chk (.t 26)),qO 28 (.off (.t 27) 0),qO 29 (.ld1 (.t 28)),qM 30 6,qO 31 (.ix 2 (.t 29) (.t 30)),qO 32 (.off (.t 31) 1),qO 33 (.ld1 (.t 32)),qM 4 33,qO 5 (.mv (k6 0))]) .ret) .skip))) (.reg [ qM 14 6,qO 15 (.bin .add (.t 14) (k6 1)),qM 6 15]))
def R4GetC0 :LC:=.loop X12K6
def R4GetC1 :LC:=.block 0 R4GetC0
def R4GetC2 :LC:=.seq (.reg [ qO 6 (.mv (k6 0))]) R4GetC1
def X12K23 :LC:=.seq (.reg [ qO 4 (.mv (k6 0)),qO 5 (.mv (k6 2))]) .ret
def R4GetC3 :LC:=.seq R4GetC2 X12K23
def X12K27 :LC:=.reg [ qO 4 (.mv (k6 0)),qO 5 (.mv (k6 0))]
def R4GetC4 :LC:=.seq X12K27 R4GetC3
def R4GetC0S (cal:CB)(O:Oracle)(N:Nat)(gE0:Heap->OH):Nat->IV->IV->IV->Heap->OH
 | 0,_,_,_,_=>none
 | n+1,v0,v1,v6,H =>ob (lchk v0) fun t1 =>ob (loff t1 0) fun t2 =>ob (lload1 H t2) fun t3 =>ob (llen H .slice t3) fun t4 =>ob (lbin .lss v6 t4) fun t5 =>cnd t5
  (ob (lchk v0) fun t6 =>ob (loff t6 0) fun t7 =>ob (lload1 H t7) fun t8 =>ob (lix 2 t8 v6) fun t9 =>ob (loff t9 0) fun t10 =>ob (lload1 H t10) fun t11 =>ob (lbin .eql t11 v1) fun t12 =>cnd t12
  (ob (lchk v0) fun t13 =>ob (loff t13 0) fun t14 =>ob (lload1 H t14) fun t15 =>ob (lix 2 t15 v6) fun t16 =>ob (loff t16 1) fun t17 =>ob (lload1 H t17) fun t18 =>some ((.tuple [t18,(.int .i64 0)]),H))
  (ob (lbin .add v6 (.int .i64 1)) fun t19 =>
   R4GetC0S cal O N gE0 n v0 v1 t19 H))
  (gE0 H)
theorem R4GetC0Eq (cal:CB)(O:Oracle)(N:Nat){k:KT (IV×Heap)}(gE0:Heap->OH)(hgE0:∀E H,k (.exit 0) E H=gE0 H)(hR:∀E H,k .ret E H=resK [(.tmp 4),(.tmp 5)] [] E H):∀(n:Nat) (E:Sg) (H:Heap),itK (lxK cal O N X12K6) n E H k=R4GetC0S cal O N gE0 n (lk E 0) (lk E 1) (lk E 6) H:=by
 have hk:k=(kE 0 (fun E H=>gE0 H) (kR (resK [(.tmp 4),(.tmp 5)] []) k)):=(kE_mk hgE0 (kR_mk hR rfl));intro n
 induction n with
 | zero=>intro E H;rfl
 | succ n ih =>
  intro E H;rw[itK_succ,seqK_mk (g:=fun E H=>R4GetC0S cal O N gE0 n (lk E 0) (lk E 1) (lk E 6) H) ih,hk];kernel_rfl
def R4GetC1S (cal:CB)(O:Oracle)(N:Nat)(gN:Heap->OH)(v0 v1 v6:IV)(H:Heap):OH :=
  R4GetC0S cal O N (fun H=>gN H) N v0 v1 v6 H
theorem R4GetC1Eq (cal:CB)(O:Oracle)(N:Nat){k:KT (IV×Heap)}(gN:Heap->OH)(hgN:∀E H,k .normal E H=gN H)(hR:∀E H,k .ret E H=resK [(.tmp 4),(.tmp 5)] [] E H):∀(E:Sg) (H:Heap),lxK cal O N R4GetC1 E H k=R4GetC1S cal O N gN (lk E 0) (lk E 1) (lk E 6) H:=by
 have hk:k=(kN (fun E H=>gN H) (kR (resK [(.tmp 4),(.tmp 5)] []) k)):=(kN_mk hgN (kR_mk hR rfl));intro E H;rw[hk];show lxK cal O N R4GetC0 E H (blockK 0 (kN (fun E H=>gN H) (kR (resK [(.tmp 4),(.tmp 5)] []) k)))=_;exact(R4GetC0Eq cal O N (k:=(blockK 0 (kN (fun E H=>gN H) (kR (resK [(.tmp 4),(.tmp 5)] []) k)))) gN (fun _ _=>by kernel_rfl) (fun _ _=>by kernel_rfl) N E H).trans (by kernel_rfl)
def R4GetC2S (cal:CB)(O:Oracle)(N:Nat)(gN:Heap->OH)(v0 v1:IV)(H:Heap):OH :=
  R4GetC1S cal O N (fun H=>gN H) v0 v1 (.int .i64 0) H
theorem R4GetC2Eq (cal:CB)(O:Oracle)(N:Nat){k:KT (IV×Heap)}(gN:Heap->OH)(hgN:∀E H,k .normal E H=gN H)(hR:∀E H,k .ret E H=resK [(.tmp 4),(.tmp 5)] [] E H):∀(E:Sg) (H:Heap),lxK cal O N R4GetC2 E H k=R4GetC2S cal O N gN (lk E 0) (lk E 1) H:=by
 have hk:k=(kN (fun E H=>gN H) (kR (resK [(.tmp 4),(.tmp 5)] []) k)):=(kN_mk hgN (kR_mk hR rfl));intro E H;rw[hk];show lxK cal O N (.reg [ qO 6 (.mv (k6 0))]) E H (seqK (lxK cal O N R4GetC1) (kN (fun E H=>gN H) (kR (resK [(.tmp 4),(.tmp 5)] []) k)))=_;rw[seqK_mk (g:=fun E H=>R4GetC1S cal O N gN (lk E 0) (lk E 1) (lk E 6) H) (R4GetC1Eq cal O N (k:=(kN (fun E H=>gN H) (kR (resK [(.tmp 4),(.tmp 5)] []) k))) gN (fun _ _=>by kernel_rfl) (fun _ _=>by kernel_rfl))];kernel_rfl
def R4GetC3S (cal:CB)(O:Oracle)(N:Nat)(v0 v1:IV)(H:Heap):OH :=
  R4GetC2S cal O N (fun H=>some ((.tuple [(.int .i64 0),(.int .i64 2)]),H)) v0 v1 H
theorem R4GetC3Eq (cal:CB)(O:Oracle)(N:Nat){k:KT (IV×Heap)}(hR:∀E H,k .ret E H=resK [(.tmp 4),(.tmp 5)] [] E H):∀(E:Sg) (H:Heap),lxK cal O N R4GetC3 E H k=R4GetC3S cal O N (lk E 0) (lk E 1) H:=by
 have hk:k=(kR (resK [(.tmp 4),(.tmp 5)] []) k):=(kR_mk hR rfl);intro E H;rw[hk];show lxK cal O N R4GetC2 E H (seqK (lxK cal O N X12K23) (kR (resK [(.tmp 4),(.tmp 5)] []) k))=_;exact(R4GetC2Eq cal O N (k:=(seqK (lxK cal O N X12K23) (kR (resK [(.tmp 4),(.tmp 5)] []) k))) (fun H=>some ((.tuple [(.int .i64 0),(.int .i64 2)]),H)) (fun _ _=>by kernel_rfl) (fun _ _=>by kernel_rfl) E H).trans (by kernel_rfl)
def R4GetC4S (cal:CB)(O:Oracle)(N:Nat)(v0 v1:IV)(H:Heap):OH :=
  R4GetC3S cal O N v0 v1 H
theorem R4GetC4Eq (cal:CB)(O:Oracle)(N:Nat){k:KT (IV×Heap)}(hR:∀E H,k .ret E H=resK [(.tmp 4),(.tmp 5)] [] E H):∀(E:Sg) (H:Heap),lxK cal O N R4GetC4 E H k=R4GetC4S cal O N (lk E 0) (lk E 1) H:=by
 have hk:k=(kR (resK [(.tmp 4),(.tmp 5)] []) k):=(kR_mk hR rfl);intro E H;rw[hk];show lxK cal O N X12K27 E H (seqK (lxK cal O N R4GetC3) (kR (resK [(.tmp 4),(.tmp 5)] []) k))=_;rw[seqK_mk (g:=fun E H=>R4GetC3S cal O N (lk E 0) (lk E 1) H) (R4GetC3Eq cal O N (k:=(kR (resK [(.tmp 4),(.tmp 5)] []) k)) (fun _ _=>by kernel_rfl))];kernel_rfl
def R4Get :LFun:=⟨R4GetC4,[(.tmp 4),(.tmp 5)],34⟩
def R4GetS (cal:CB)(O:Oracle)(N:Nat)(v0 v1:IV)(H:Heap):OH :=
  R4GetC4S cal O N v0 v1 H
theorem R4GetEq (cal:CB)(O:Oracle)(N:Nat)(v0 v1:IV)(H:Heap):lrunK cal O N (R4Get) [v0,v1] H=R4GetS cal O N v0 v1 H:=by
 show lxK cal O N R4GetC4 (initFrom 0 [v0,v1]) H (endK [(.tmp 4),(.tmp 5)])=_;exact R4GetC4Eq cal O N (k:=(endK [(.tmp 4),(.tmp 5)])) (fun _ _=>by kernel_rfl) (initFrom 0 [v0,v1]) H
def X12K0 (f0:FuncId):LC:=.seq (.seq (.reg [ qM 27 10,qM 28 0,qO 29 (.chk (.t 28)),qO 30 (.off (.t 29) 0),qO 31 (.ld1 (.t 30)),qO 32 (.len .slice (.t 31)),qO 33 (.bin .lss (.t 27) (.t 32))]) (.cond (.t 33) .skip (.exit 0))) (.seq (.block 1 (.seq (.seq (.reg [ qM 36 9,qO 37 (.un .not (.t 36)),qM 38 37,⟨(some 39),(.mv (.t 0)),(some (38,true))⟩,⟨(some 40),(.chk (.t 39)),(some (38,true))⟩,⟨(some 41),(.off (.t 40) 0),(some (38,true))⟩,⟨(some 42),(.ld1 (.t 41)),(some (38,true))⟩,⟨(some 43),(.mv (.t 10)),(some (38,true))⟩,⟨(some 44),(.ix 2 (.t 42) (.t 43)),(some (38,true))⟩,⟨(some 45),(.off (.t 44) 0),(some (38,true))⟩,⟨(some 46),(.ld1 (.t 45)),(some (38,true))⟩,⟨(some 47),(.mv (.t 1)),(some (38,true))⟩,⟨(some 48),(.callF f0 [(.t 46),(.t 47)]),(some (38,true))⟩,⟨(some 49),(.un .not (.t 48)),(some (38,true))⟩,qO 50 (.pick (.t 38) (.t 49) (.k (.bool false)))]) (.cond (.t 50) (.seq (.reg [ qM 51 8,qM 52 1,qM 53 2,qO 54 (.bld [(.str []),(.int .i64 0)] [(0,(1,(.t 52))),(1,(1,(.t 53)))]),qO 55 (.bldS 2 1 [(.str []),(.int .i64 0)] [(0,(.t 54))]),qO 56 (.app 2 24 (.t 51) (.t 55)),qM 8 56]) (.reg [ qO 9 (.mv (.k (.bool true)))])) .skip)) (.seq (.reg [ qM 57 0,qO 58 (.chk (.t 57)),qO 59 (.off (.t 58) 0),qO 60 (.ld1 (.t 59)),qM 61 10,qO 62 (.ix 2 (.t 60) (.t 61)),qO 63 (.off (.t 62) 0),qO 64 (.ld1 (.t 63)),qM 65 1,qO 66 (.bin .neq (.t 64) (.t 65))]) (.cond (.t 66) (.reg [ qM 67 8,qM 68 0,qO 69 (.chk (.t 68)),qO 70 (.off (.t 69) 0),qO 71 (.ld1 (.t 70)),qM 72 10,qO 73 (.ix 2 (.t 71) (.t 72)),qO 74 (.ldn 2 (.t 73)),qO 75 (.bldS 2 1 [(.str []),(.int .i64 0)] [(0,(.t 74))]),qO 76 (.app 2 24 (.t 67) (.t 75)),qM 8 76]) .skip)))) (.reg [ qM 34 10,qO 35 (.bin .add (.t 34) (k6 1)),qM 10 35]))
def R4SetC0 (f0 f1:FuncId):LC:=.loop (X12K0 f1)
def R4SetC1 (f0 f1:FuncId):LC:=.block 0 (R4SetC0 f0 f1)
def R4SetC2 (f0 f1:FuncId):LC:=.seq (.reg [ qO 10 (.mv (k6 0))]) (R4SetC1 f0 f1)
def X12K9 :LC:=.seq (.seq (.reg [ qM 77 9,qO 78 (.un .not (.t 77))]) (.cond (.t 78) (.reg [ qM 79 8,qM 80 1,qM 81 2,qO 82 (.bld [(.str []),(.int .i64 0)] [(0,(1,(.t 80))),(1,(1,(.t 81)))]),qO 83 (.bldS 2 1 [(.str []),(.int .i64 0)] [(0,(.t 82))]),qO 84 (.app 2 24 (.t 79) (.t 83)),qM 8 84]) .skip)) (.seq (.reg [ qM 85 0,qM 86 8,qO 87 (.chk (.t 85)),qO 88 (.off (.t 87) 0),⟨none,(.st 1 (.t 88) (.t 86)),none⟩]) (.seq (.reg [ qO 6 (.mv (k6 0))]) .ret))
def R4SetC3 (f0 f1:FuncId):LC:=.seq (R4SetC2 f0 f1) X12K9
def R4SetC4 (f0 f1:FuncId):LC:=.seq (.reg [ qO 9 (.mv (.k (.bool false)))]) (R4SetC3 f0 f1)
def X12K24 :LC:=.reg [ qO 26 (.bldS 2 0 [(.str []),(.int .i64 0)] []),qM 8 26]
def R4SetC5 (f0 f1:FuncId):LC:=.seq X12K24 (R4SetC4 f0 f1)
def X12K11 :LC:=.seq (.reg [ qM 16 1,qO 17 (.bin .eql (.t 16) (.k (.str [46]))),qM 18 17,⟨(some 19),(.mv (.t 1)),(some (18,false))⟩,⟨(some 20),(.bin .eql (.t 19) (.k (.str [46,46]))),(some (18,false))⟩,qO 21 (.pick (.t 18) (.k (.bool true)) (.t 20)),qM 22 21,⟨(some 23),(.mv (.t 2)),(some (22,false))⟩,⟨(some 24),(.bin .lss (.t 23) (k6 1)),(some (22,false))⟩,qO 25 (.pick (.t 22) (.k (.bool true)) (.t 24))]) (.cond (.t 25) (.seq (.reg [ qO 6 (.mv (k6 22))]) .ret) .skip)
def R4SetC6 (f0 f1:FuncId):LC:=.seq X12K11 (R4SetC5 f0 f1)
def X12K17 :LC:=.seq (.reg [ qM 13 7,qO 14 (.bin .neq (.t 13) (k6 0))]) (.cond (.t 14) (.seq (.reg [ qM 15 7,qM 6 15]) .ret) .skip)
def R4SetC7 (f0 f1:FuncId):LC:=.seq X12K17 (R4SetC6 f0 f1)
def X12K22 (f0:FuncId):LC:=.reg [ qM 11 1,qO 12 (.callF f0 [(.t 11)]),qM 7 12]
def R4SetC8 (f0 f1:FuncId):LC:=.seq (X12K22 f0) (R4SetC7 f0 f1)
def R4SetC9 (f0 f1:FuncId):LC:=.seq (.reg [ qO 6 (.mv (k6 0))]) (R4SetC8 f0 f1)
def R4SetC0S (cal:CB)(O:Oracle)(N:Nat)(f0 f1:FuncId)(gE0:IV->IV->IV->IV->IV->Heap->OH):Nat->IV->IV->IV->IV->IV->IV->Heap->OH
 | 0,_,_,_,_,_,_,_=>none
 | n+1,v0,v1,v2,v8,v9,v10,H =>ob (lchk v0) fun t1 =>ob (loff t1 0) fun t2 =>ob (lload1 H t2) fun t3 =>ob (llen H .slice t3) fun t4 =>ob (lbin .lss v10 t4) fun t5 =>cnd t5
  (jn (fun(j7 j8:IV) (H46:Heap) =>ob (lbin .add v10 (.int .i64 1)) fun t47 =>
   R4SetC0S cal O N f0 f1 gE0 n v0 v1 v2 j7 j8 t47 H46) fun J6 =>jn (fun(j49 j50:IV) (H71:Heap) =>ob (lchk v0) fun t72 =>ob (loff t72 0) fun t73 =>ob (lload1 H71 t73) fun t74 =>ob (lix 2 t74 v10) fun t75 =>ob (loff t75 0) fun t76 =>ob (lload1 H71 t76) fun t77 =>ob (lbin .neq t77 v1) fun t78 =>cnd t78
  (ob (lchk v0) fun t79 =>ob (loff t79 0) fun t80 =>ob (lload1 H71 t80) fun t81 =>ob (lix 2 t81 v10) fun t82 =>ob (lloadn H71 2 t82) fun t83 =>ob (lbldS H71 2 1 [(.str []),(.int .i64 0)] [(0,t83)]) fun r84 =>ob (lapp r84.2 2 24 j49 r84.1) fun r85 =>J6 r85.1 j50 r85.2)
  (J6 j49 j50 H71)) fun J48 =>ob (iun .not v9) fun t86 =>ob (gq (isB t86 true) (some v0)) fun t87 =>ob (gq (isB t86 true) (lchk t87)) fun t88 =>ob (gq (isB t86 true) (loff t88 0)) fun t89 =>ob (gq (isB t86 true) (lload1 H t89)) fun t90 =>ob (gq (isB t86 true) (some v10)) fun t91 =>ob (gq (isB t86 true) (lix 2 t90 t91)) fun t92 =>ob (gq (isB t86 true) (loff t92 0)) fun t93 =>ob (gq (isB t86 true) (lload1 H t93)) fun t94 =>ob (gq (isB t86 true) (some v1)) fun t95 =>ob (ge (isB t86 true) H (O f1 [t94,t95] H)) fun r96 =>ob (gq (isB t86 true) (iun .not r96.1)) fun t97 =>ob (lpick t86 t97 (.bool false)) fun t98 =>cnd t98
  (ob (lbld [(.str []),(.int .i64 0)] [(0,1,v1),(1,1,v2)]) fun t99 =>ob (lbldS r96.2 2 1 [(.str []),(.int .i64 0)] [(0,t99)]) fun r100 =>ob (lapp r100.2 2 24 v8 r100.1) fun r101 =>J48 r101.1 (.bool true) r101.2)
  (J48 v8 v9 r96.2))
  (gE0 v0 v1 v2 v8 v9 H)
theorem R4SetC0Eq (cal:CB)(O:Oracle)(N:Nat)(f0 f1:FuncId){k:KT (IV×Heap)}(gE0:IV->IV->IV->IV->IV->Heap->OH)(hgE0:∀E H,k (.exit 0) E H=gE0 (lk E 0) (lk E 1) (lk E 2) (lk E 8) (lk E 9) H):∀(n:Nat) (E:Sg) (H:Heap),itK (lxK cal O N (X12K0 f1)) n E H k=R4SetC0S cal O N f0 f1 gE0 n (lk E 0) (lk E 1) (lk E 2) (lk E 8) (lk E 9) (lk E 10) H:=by
 have hk:k=(kE 0 (fun E H=>gE0 (lk E 0) (lk E 1) (lk E 2) (lk E 8) (lk E 9) H) k):=(kE_mk hgE0 rfl);intro n
 induction n with
 | zero=>intro E H;rfl
 | succ n ih =>
  intro E H;rw[itK_succ,seqK_mk (g:=fun E H=>R4SetC0S cal O N f0 f1 gE0 n (lk E 0) (lk E 1) (lk E 2) (lk E 8) (lk E 9) (lk E 10) H) ih,hk];kernel_rfl
def R4SetC1S (cal:CB)(O:Oracle)(N:Nat)(f0 f1:FuncId)(gN:IV->IV->IV->IV->IV->Heap->OH)(v0 v1 v2 v8 v9 v10:IV)(H:Heap):OH :=
  R4SetC0S cal O N f0 f1 (fun v0 v1 v2 v8 v9 H=>gN v0 v1 v2 v8 v9 H) N v0 v1 v2 v8 v9 v10 H
theorem R4SetC1Eq (cal:CB)(O:Oracle)(N:Nat)(f0 f1:FuncId){k:KT (IV×Heap)}(gN:IV->IV->IV->IV->IV->Heap->OH)(hgN:∀E H,k .normal E H=gN (lk E 0) (lk E 1) (lk E 2) (lk E 8) (lk E 9) H):∀(E:Sg) (H:Heap),lxK cal O N (R4SetC1 f0 f1) E H k=R4SetC1S cal O N f0 f1 gN (lk E 0) (lk E 1) (lk E 2) (lk E 8) (lk E 9) (lk E 10) H:=by
 have hk:k=(kN (fun E H=>gN (lk E 0) (lk E 1) (lk E 2) (lk E 8) (lk E 9) H) k):=(kN_mk hgN rfl);intro E H;rw[hk];show lxK cal O N (R4SetC0 f0 f1) E H (blockK 0 (kN (fun E H=>gN (lk E 0) (lk E 1) (lk E 2) (lk E 8) (lk E 9) H) k))=_;exact(R4SetC0Eq cal O N f0 f1 (k:=(blockK 0 (kN (fun E H=>gN (lk E 0) (lk E 1) (lk E 2) (lk E 8) (lk E 9) H) k))) gN (fun _ _=>by kernel_rfl) N E H).trans (by kernel_rfl)
def R4SetC2S (cal:CB)(O:Oracle)(N:Nat)(f0 f1:FuncId)(gN:IV->IV->IV->IV->IV->Heap->OH)(v0 v1 v2 v8 v9:IV)(H:Heap):OH :=
  R4SetC1S cal O N f0 f1 (fun v0 v1 v2 v8 v9 H=>gN v0 v1 v2 v8 v9 H) v0 v1 v2 v8 v9 (.int .i64 0) H
theorem R4SetC2Eq (cal:CB)(O:Oracle)(N:Nat)(f0 f1:FuncId){k:KT (IV×Heap)}(gN:IV->IV->IV->IV->IV->Heap->OH)(hgN:∀E H,k .normal E H=gN (lk E 0) (lk E 1) (lk E 2) (lk E 8) (lk E 9) H):∀(E:Sg) (H:Heap),lxK cal O N (R4SetC2 f0 f1) E H k=R4SetC2S cal O N f0 f1 gN (lk E 0) (lk E 1) (lk E 2) (lk E 8) (lk E 9) H:=by
 have hk:k=(kN (fun E H=>gN (lk E 0) (lk E 1) (lk E 2) (lk E 8) (lk E 9) H) k):=(kN_mk hgN rfl);intro E H;rw[hk];show lxK cal O N (.reg [ qO 10 (.mv (k6 0))]) E H (seqK (lxK cal O N (R4SetC1 f0 f1)) (kN (fun E H=>gN (lk E 0) (lk E 1) (lk E 2) (lk E 8) (lk E 9) H) k))=_;rw[seqK_mk (g:=fun E H=>R4SetC1S cal O N f0 f1 gN (lk E 0) (lk E 1) (lk E 2) (lk E 8) (lk E 9) (lk E 10) H) (R4SetC1Eq cal O N f0 f1 (k:=(kN (fun E H=>gN (lk E 0) (lk E 1) (lk E 2) (lk E 8) (lk E 9) H) k)) gN (fun _ _=>by kernel_rfl))];kernel_rfl
def R4SetC3S (cal:CB)(O:Oracle)(N:Nat)(f0 f1:FuncId)(v0 v1 v2 v8 v9:IV)(H:Heap):OH :=
  R4SetC2S cal O N f0 f1 (fun v0 v1 v2 v8 v9 H=>jn (fun(j2:IV) (H10:Heap) =>ob (lchk v0) fun t11 =>ob (loff t11 0) fun t12 =>ob (lstV H10 1 t12 j2) fun r13 =>some ((.int .i64 0),r13.2)) fun J1 =>ob (iun .not v9) fun t14 =>cnd t14
 (ob (lbld [(.str []),(.int .i64 0)] [(0,1,v1),(1,1,v2)]) fun t15 =>ob (lbldS H 2 1 [(.str []),(.int .i64 0)] [(0,t15)]) fun r16 =>ob (lapp r16.2 2 24 v8 r16.1) fun r17 =>J1 r17.1 r17.2)
 (J1 v8 H)) v0 v1 v2 v8 v9 H
theorem R4SetC3Eq (cal:CB)(O:Oracle)(N:Nat)(f0 f1:FuncId){k:KT (IV×Heap)}(hR:∀E H,k .ret E H=resK [(.tmp 6)] [] E H):∀(E:Sg) (H:Heap),lxK cal O N (R4SetC3 f0 f1) E H k=R4SetC3S cal O N f0 f1 (lk E 0) (lk E 1) (lk E 2) (lk E 8) (lk E 9) H:=by
 have hk:k=(kR (resK [(.tmp 6)] []) k):=(kR_mk hR rfl);intro E H;rw[hk];show lxK cal O N (R4SetC2 f0 f1) E H (seqK (lxK cal O N X12K9) (kR (resK [(.tmp 6)] []) k))=_;exact(R4SetC2Eq cal O N f0 f1 (k:=(seqK (lxK cal O N X12K9) (kR (resK [(.tmp 6)] []) k))) (fun v0 v1 v2 v8 v9 H=>jn (fun(j2:IV) (H10:Heap) =>ob (lchk v0) fun t11 =>ob (loff t11 0) fun t12 =>ob (lstV H10 1 t12 j2) fun r13 =>some ((.int .i64 0),r13.2)) fun J1 =>ob (iun .not v9) fun t14 =>cnd t14
(ob (lbld [(.str []),(.int .i64 0)] [(0,1,v1),(1,1,v2)]) fun t15 =>ob (lbldS H 2 1 [(.str []),(.int .i64 0)] [(0,t15)]) fun r16 =>ob (lapp r16.2 2 24 v8 r16.1) fun r17 =>J1 r17.1 r17.2)
(J1 v8 H)) (fun _ _=>by kernel_rfl) E H).trans (by kernel_rfl)
def R4SetC4S (cal:CB)(O:Oracle)(N:Nat)(f0 f1:FuncId)(v0 v1 v2 v8:IV)(H:Heap):OH :=
  R4SetC3S cal O N f0 f1 v0 v1 v2 v8 (.bool false) H
theorem R4SetC4Eq (cal:CB)(O:Oracle)(N:Nat)(f0 f1:FuncId){k:KT (IV×Heap)}(hR:∀E H,k .ret E H=resK [(.tmp 6)] [] E H):∀(E:Sg) (H:Heap),lxK cal O N (R4SetC4 f0 f1) E H k=R4SetC4S cal O N f0 f1 (lk E 0) (lk E 1) (lk E 2) (lk E 8) H:=by
 have hk:k=(kR (resK [(.tmp 6)] []) k):=(kR_mk hR rfl);intro E H;rw[hk];show lxK cal O N (.reg [ qO 9 (.mv (.k (.bool false)))]) E H (seqK (lxK cal O N (R4SetC3 f0 f1)) (kR (resK [(.tmp 6)] []) k))=_;rw[seqK_mk (g:=fun E H=>R4SetC3S cal O N f0 f1 (lk E 0) (lk E 1) (lk E 2) (lk E 8) (lk E 9) H) (R4SetC3Eq cal O N f0 f1 (k:=(kR (resK [(.tmp 6)] []) k)) (fun _ _=>by kernel_rfl))];kernel_rfl
def R4SetC5S (cal:CB)(O:Oracle)(N:Nat)(f0 f1:FuncId)(v0 v1 v2:IV)(H:Heap):OH :=
 ob (lbldS H 2 0 [(.str []),(.int .i64 0)] []) fun r1 =>
  R4SetC4S cal O N f0 f1 v0 v1 v2 r1.1 r1.2
theorem R4SetC5Eq (cal:CB)(O:Oracle)(N:Nat)(f0 f1:FuncId){k:KT (IV×Heap)}(hR:∀E H,k .ret E H=resK [(.tmp 6)] [] E H):∀(E:Sg) (H:Heap),lxK cal O N (R4SetC5 f0 f1) E H k=R4SetC5S cal O N f0 f1 (lk E 0) (lk E 1) (lk E 2) H:=by
 have hk:k=(kR (resK [(.tmp 6)] []) k):=(kR_mk hR rfl);intro E H;rw[hk];show lxK cal O N X12K24 E H (seqK (lxK cal O N (R4SetC4 f0 f1)) (kR (resK [(.tmp 6)] []) k))=_;rw[seqK_mk (g:=fun E H=>R4SetC4S cal O N f0 f1 (lk E 0) (lk E 1) (lk E 2) (lk E 8) H) (R4SetC4Eq cal O N f0 f1 (k:=(kR (resK [(.tmp 6)] []) k)) (fun _ _=>by kernel_rfl))];kernel_rfl
def R4SetC6S (cal:CB)(O:Oracle)(N:Nat)(f0 f1:FuncId)(v0 v1 v2:IV)(H:Heap):OH :=
 ob (lbin .eql v1 (.str [46])) fun t1 =>ob (gq (isB t1 false) (some v1)) fun t2 =>ob (gq (isB t1 false) (lbin .eql t2 (.str [46,46]))) fun t3 =>ob (lpick t1 (.bool true) t3) fun t4 =>ob (gq (isB t4 false) (some v2)) fun t5 =>ob (gq (isB t4 false) (lbin .lss t5 (.int .i64 1))) fun t6 =>ob (lpick t4 (.bool true) t6) fun t7 =>cnd t7
 (some ((.int .i64 22),H))
  (R4SetC5S cal O N f0 f1 v0 v1 v2 H)
theorem R4SetC6Eq (cal:CB)(O:Oracle)(N:Nat)(f0 f1:FuncId){k:KT (IV×Heap)}(hR:∀E H,k .ret E H=resK [(.tmp 6)] [] E H):∀(E:Sg) (H:Heap),lxK cal O N (R4SetC6 f0 f1) E H k=R4SetC6S cal O N f0 f1 (lk E 0) (lk E 1) (lk E 2) H:=by
 have hk:k=(kR (resK [(.tmp 6)] []) k):=(kR_mk hR rfl);intro E H;rw[hk];show lxK cal O N X12K11 E H (seqK (lxK cal O N (R4SetC5 f0 f1)) (kR (resK [(.tmp 6)] []) k))=_;rw[seqK_mk (g:=fun E H=>R4SetC5S cal O N f0 f1 (lk E 0) (lk E 1) (lk E 2) H) (R4SetC5Eq cal O N f0 f1 (k:=(kR (resK [(.tmp 6)] []) k)) (fun _ _=>by kernel_rfl))];kernel_rfl
def R4SetC7S (cal:CB)(O:Oracle)(N:Nat)(f0 f1:FuncId)(v0 v1 v2 v7:IV)(H:Heap):OH :=
 ob (lbin .neq v7 (.int .i64 0)) fun t1 =>cnd t1
 (some (v7,H))
  (R4SetC6S cal O N f0 f1 v0 v1 v2 H)
theorem R4SetC7Eq (cal:CB)(O:Oracle)(N:Nat)(f0 f1:FuncId){k:KT (IV×Heap)}(hR:∀E H,k .ret E H=resK [(.tmp 6)] [] E H):∀(E:Sg) (H:Heap),lxK cal O N (R4SetC7 f0 f1) E H k=R4SetC7S cal O N f0 f1 (lk E 0) (lk E 1) (lk E 2) (lk E 7) H:=by
 have hk:k=(kR (resK [(.tmp 6)] []) k):=(kR_mk hR rfl);intro E H;rw[hk];show lxK cal O N X12K17 E H (seqK (lxK cal O N (R4SetC6 f0 f1)) (kR (resK [(.tmp 6)] []) k))=_;rw[seqK_mk (g:=fun E H=>R4SetC6S cal O N f0 f1 (lk E 0) (lk E 1) (lk E 2) H) (R4SetC6Eq cal O N f0 f1 (k:=(kR (resK [(.tmp 6)] []) k)) (fun _ _=>by kernel_rfl))];kernel_rfl
def R4SetC8S (cal:CB)(O:Oracle)(N:Nat)(f0 f1:FuncId)(v0 v1 v2:IV)(H:Heap):OH :=
 ob (O f0 [v1] H) fun r1 =>
  R4SetC7S cal O N f0 f1 v0 v1 v2 r1.1 r1.2
theorem R4SetC8Eq (cal:CB)(O:Oracle)(N:Nat)(f0 f1:FuncId){k:KT (IV×Heap)}(hR:∀E H,k .ret E H=resK [(.tmp 6)] [] E H):∀(E:Sg) (H:Heap),lxK cal O N (R4SetC8 f0 f1) E H k=R4SetC8S cal O N f0 f1 (lk E 0) (lk E 1) (lk E 2) H:=by
 have hk:k=(kR (resK [(.tmp 6)] []) k):=(kR_mk hR rfl);intro E H;rw[hk];show lxK cal O N (X12K22 f0) E H (seqK (lxK cal O N (R4SetC7 f0 f1)) (kR (resK [(.tmp 6)] []) k))=_;rw[seqK_mk (g:=fun E H=>R4SetC7S cal O N f0 f1 (lk E 0) (lk E 1) (lk E 2) (lk E 7) H) (R4SetC7Eq cal O N f0 f1 (k:=(kR (resK [(.tmp 6)] []) k)) (fun _ _=>by kernel_rfl))];kernel_rfl
def R4SetC9S (cal:CB)(O:Oracle)(N:Nat)(f0 f1:FuncId)(v0 v1 v2:IV)(H:Heap):OH :=
  R4SetC8S cal O N f0 f1 v0 v1 v2 H
theorem R4SetC9Eq (cal:CB)(O:Oracle)(N:Nat)(f0 f1:FuncId){k:KT (IV×Heap)}(hR:∀E H,k .ret E H=resK [(.tmp 6)] [] E H):∀(E:Sg) (H:Heap),lxK cal O N (R4SetC9 f0 f1) E H k=R4SetC9S cal O N f0 f1 (lk E 0) (lk E 1) (lk E 2) H:=by
 have hk:k=(kR (resK [(.tmp 6)] []) k):=(kR_mk hR rfl);intro E H;rw[hk];show lxK cal O N (.reg [ qO 6 (.mv (k6 0))]) E H (seqK (lxK cal O N (R4SetC8 f0 f1)) (kR (resK [(.tmp 6)] []) k))=_;rw[seqK_mk (g:=fun E H=>R4SetC8S cal O N f0 f1 (lk E 0) (lk E 1) (lk E 2) H) (R4SetC8Eq cal O N f0 f1 (k:=(kR (resK [(.tmp 6)] []) k)) (fun _ _=>by kernel_rfl))];kernel_rfl
def R4Set (f0 f1:FuncId):LFun:=⟨(R4SetC9 f0 f1),[(.tmp 6)],89⟩
def R4SetS (cal:CB)(O:Oracle)(N:Nat)(f0 f1:FuncId)(v0 v1 v2:IV)(H:Heap):OH :=
  R4SetC9S cal O N f0 f1 v0 v1 v2 H
theorem R4SetEq (cal:CB)(O:Oracle)(N:Nat)(f0 f1:FuncId)(v0 v1 v2:IV)(H:Heap):lrunK cal O N (R4Set f0 f1) [v0,v1,v2] H=R4SetS cal O N f0 f1 v0 v1 v2 H:=by
 show lxK cal O N (R4SetC9 f0 f1) (initFrom 0 [v0,v1,v2]) H (endK [(.tmp 6)])=_;exact R4SetC9Eq cal O N f0 f1 (k:=(endK [(.tmp 6)])) (fun _ _=>by kernel_rfl) (initFrom 0 [v0,v1,v2]) H
def X12K4 :LC:=.seq (.seq (.reg [ qM 17 9,qM 18 0,qO 19 (.chk (.t 18)),qO 20 (.off (.t 19) 0),qO 21 (.ld1 (.t 20)),qO 22 (.len .slice (.t 21)),qO 23 (.bin .lss (.t 17) (.t 22))]) (.cond (.t 23) .skip (.exit 0))) (.seq (.block 1 (.seq (.reg [ qM 26 0,qO 27 (.chk (.t 26)),qO 28 (.off (.t 27) 0),qO 29 (.ld1 (.t 28)),qM 30 9,qO 31 (.ix 2 (.t 29) (.t 30)),qO 32 (.off (.t 31) 0),qO 33 (.ld1 (.t 32)),qM 34 1,qO 35 (.bin .neq (.t 33) (.t 34))]) (.cond (.t 35) (.reg [ qM 36 8,qM 37 0,qO 38 (.chk (.t 37)),qO 39 (.off (.t 38) 0),qO 40 (.ld1 (.t 39)),qM 41 9,qO 42 (.ix 2 (.t 40) (.t 41)),qO 43 (.ldn 2 (.t 42)),qO 44 (.bldS 2 1 [(.str []),(.int .i64 0)] [(0,(.t 43))]),qO 45 (.app 2 24 (.t 36) (.t 44)),qM 8 45]) .skip))) (.reg [ qM 24 9,qO 25 (.bin .add (.t 24) (k6 1)),qM 9 25]))
def R4DelC0 (f0:FuncId):LC:=.loop X12K4
def R4DelC1 (f0:FuncId):LC:=.block 0 (R4DelC0 f0)
def R4DelC2 (f0:FuncId):LC:=.seq (.reg [ qO 9 (.mv (k6 0))]) (R4DelC1 f0)
def X12K12 :LC:=.seq (.reg [ qM 46 0,qM 47 8,qO 48 (.chk (.t 46)),qO 49 (.off (.t 48) 0),⟨none,(.st 1 (.t 49) (.t 47)),none⟩]) (.seq (.reg [ qM 50 6,qM 51 7,qM 4 50,qM 5 51]) .ret)
def R4DelC3 (f0:FuncId):LC:=.seq (R4DelC2 f0) X12K12
def X12K25 :LC:=.reg [ qO 16 (.bldS 2 0 [(.str []),(.int .i64 0)] []),qM 8 16]
def R4DelC4 (f0:FuncId):LC:=.seq X12K25 (R4DelC3 f0)
def X12K13 (f0:FuncId):LC:=.reg [ qM 11 0,qM 12 1,qO 13 (.callF f0 [(.t 11),(.t 12)]),qM 10 13,qO 14 (.ext (.t 10) 0),qO 15 (.ext (.t 10) 1),qM 6 14,qM 7 15]
def R4DelC5 (f0:FuncId):LC:=.seq (X12K13 f0) (R4DelC4 f0)
def R4DelC6 (f0:FuncId):LC:=.seq X12K27 (R4DelC5 f0)
def R4DelC0S (cal:CB)(O:Oracle)(N:Nat)(f0:FuncId)(gE0:IV->IV->IV->IV->Heap->OH):Nat->IV->IV->IV->IV->IV->IV->Heap->OH
 | 0,_,_,_,_,_,_,_=>none
 | n+1,v0,v1,v6,v7,v8,v9,H =>ob (lchk v0) fun t1 =>ob (loff t1 0) fun t2 =>ob (lload1 H t2) fun t3 =>ob (llen H .slice t3) fun t4 =>ob (lbin .lss v9 t4) fun t5 =>cnd t5
  (jn (fun(j7:IV) (H25:Heap) =>ob (lbin .add v9 (.int .i64 1)) fun t26 =>
   R4DelC0S cal O N f0 gE0 n v0 v1 v6 v7 j7 t26 H25) fun J6 =>ob (lchk v0) fun t27 =>ob (loff t27 0) fun t28 =>ob (lload1 H t28) fun t29 =>ob (lix 2 t29 v9) fun t30 =>ob (loff t30 0) fun t31 =>ob (lload1 H t31) fun t32 =>ob (lbin .neq t32 v1) fun t33 =>cnd t33
  (ob (lchk v0) fun t34 =>ob (loff t34 0) fun t35 =>ob (lload1 H t35) fun t36 =>ob (lix 2 t36 v9) fun t37 =>ob (lloadn H 2 t37) fun t38 =>ob (lbldS H 2 1 [(.str []),(.int .i64 0)] [(0,t38)]) fun r39 =>ob (lapp r39.2 2 24 v8 r39.1) fun r40 =>J6 r40.1 r40.2)
  (J6 v8 H))
  (gE0 v0 v6 v7 v8 H)
theorem R4DelC0Eq (cal:CB)(O:Oracle)(N:Nat)(f0:FuncId){k:KT (IV×Heap)}(gE0:IV->IV->IV->IV->Heap->OH)(hgE0:∀E H,k (.exit 0) E H=gE0 (lk E 0) (lk E 6) (lk E 7) (lk E 8) H):∀(n:Nat) (E:Sg) (H:Heap),itK (lxK cal O N X12K4) n E H k=R4DelC0S cal O N f0 gE0 n (lk E 0) (lk E 1) (lk E 6) (lk E 7) (lk E 8) (lk E 9) H:=by
 have hk:k=(kE 0 (fun E H=>gE0 (lk E 0) (lk E 6) (lk E 7) (lk E 8) H) k):=(kE_mk hgE0 rfl);intro n
 induction n with
 | zero=>intro E H;rfl
 | succ n ih =>
  intro E H;rw[itK_succ,seqK_mk (g:=fun E H=>R4DelC0S cal O N f0 gE0 n (lk E 0) (lk E 1) (lk E 6) (lk E 7) (lk E 8) (lk E 9) H) ih,hk];kernel_rfl
def R4DelC1S (cal:CB)(O:Oracle)(N:Nat)(f0:FuncId)(gN:IV->IV->IV->IV->Heap->OH)(v0 v1 v6 v7 v8 v9:IV)(H:Heap):OH :=
  R4DelC0S cal O N f0 (fun v0 v6 v7 v8 H=>gN v0 v6 v7 v8 H) N v0 v1 v6 v7 v8 v9 H
theorem R4DelC1Eq (cal:CB)(O:Oracle)(N:Nat)(f0:FuncId){k:KT (IV×Heap)}(gN:IV->IV->IV->IV->Heap->OH)(hgN:∀E H,k .normal E H=gN (lk E 0) (lk E 6) (lk E 7) (lk E 8) H):∀(E:Sg) (H:Heap),lxK cal O N (R4DelC1 f0) E H k=R4DelC1S cal O N f0 gN (lk E 0) (lk E 1) (lk E 6) (lk E 7) (lk E 8) (lk E 9) H:=by
 have hk:k=(kN (fun E H=>gN (lk E 0) (lk E 6) (lk E 7) (lk E 8) H) k):=(kN_mk hgN rfl);intro E H;rw[hk];show lxK cal O N (R4DelC0 f0) E H (blockK 0 (kN (fun E H=>gN (lk E 0) (lk E 6) (lk E 7) (lk E 8) H) k))=_;exact(R4DelC0Eq cal O N f0 (k:=(blockK 0 (kN (fun E H=>gN (lk E 0) (lk E 6) (lk E 7) (lk E 8) H) k))) gN (fun _ _=>by kernel_rfl) N E H).trans (by kernel_rfl)
def R4DelC2S (cal:CB)(O:Oracle)(N:Nat)(f0:FuncId)(gN:IV->IV->IV->IV->Heap->OH)(v0 v1 v6 v7 v8:IV)(H:Heap):OH :=
  R4DelC1S cal O N f0 (fun v0 v6 v7 v8 H=>gN v0 v6 v7 v8 H) v0 v1 v6 v7 v8 (.int .i64 0) H
theorem R4DelC2Eq (cal:CB)(O:Oracle)(N:Nat)(f0:FuncId){k:KT (IV×Heap)}(gN:IV->IV->IV->IV->Heap->OH)(hgN:∀E H,k .normal E H=gN (lk E 0) (lk E 6) (lk E 7) (lk E 8) H):∀(E:Sg) (H:Heap),lxK cal O N (R4DelC2 f0) E H k=R4DelC2S cal O N f0 gN (lk E 0) (lk E 1) (lk E 6) (lk E 7) (lk E 8) H:=by
 have hk:k=(kN (fun E H=>gN (lk E 0) (lk E 6) (lk E 7) (lk E 8) H) k):=(kN_mk hgN rfl);intro E H;rw[hk];show lxK cal O N (.reg [ qO 9 (.mv (k6 0))]) E H (seqK (lxK cal O N (R4DelC1 f0)) (kN (fun E H=>gN (lk E 0) (lk E 6) (lk E 7) (lk E 8) H) k))=_;rw[seqK_mk (g:=fun E H=>R4DelC1S cal O N f0 gN (lk E 0) (lk E 1) (lk E 6) (lk E 7) (lk E 8) (lk E 9) H) (R4DelC1Eq cal O N f0 (k:=(kN (fun E H=>gN (lk E 0) (lk E 6) (lk E 7) (lk E 8) H) k)) gN (fun _ _=>by kernel_rfl))];kernel_rfl
def R4DelC3S (cal:CB)(O:Oracle)(N:Nat)(f0:FuncId)(v0 v1 v6 v7 v8:IV)(H:Heap):OH :=
  R4DelC2S cal O N f0 (fun v0 v6 v7 v8 H=>ob (lchk v0) fun t1 =>ob (loff t1 0) fun t2 =>ob (lstV H 1 t2 v8) fun r3 =>some ((.tuple [v6,v7]),r3.2)) v0 v1 v6 v7 v8 H
theorem R4DelC3Eq (cal:CB)(O:Oracle)(N:Nat)(f0:FuncId){k:KT (IV×Heap)}(hR:∀E H,k .ret E H=resK [(.tmp 4),(.tmp 5)] [] E H):∀(E:Sg) (H:Heap),lxK cal O N (R4DelC3 f0) E H k=R4DelC3S cal O N f0 (lk E 0) (lk E 1) (lk E 6) (lk E 7) (lk E 8) H:=by
 have hk:k=(kR (resK [(.tmp 4),(.tmp 5)] []) k):=(kR_mk hR rfl);intro E H;rw[hk];show lxK cal O N (R4DelC2 f0) E H (seqK (lxK cal O N X12K12) (kR (resK [(.tmp 4),(.tmp 5)] []) k))=_;exact(R4DelC2Eq cal O N f0 (k:=(seqK (lxK cal O N X12K12) (kR (resK [(.tmp 4),(.tmp 5)] []) k))) (fun v0 v6 v7 v8 H=>ob (lchk v0) fun t1 =>ob (loff t1 0) fun t2 =>ob (lstV H 1 t2 v8) fun r3 =>some ((.tuple [v6,v7]),r3.2)) (fun _ _=>by kernel_rfl) E H).trans (by kernel_rfl)
def R4DelC4S (cal:CB)(O:Oracle)(N:Nat)(f0:FuncId)(v0 v1 v6 v7:IV)(H:Heap):OH :=
 ob (lbldS H 2 0 [(.str []),(.int .i64 0)] []) fun r1 =>
  R4DelC3S cal O N f0 v0 v1 v6 v7 r1.1 r1.2
theorem R4DelC4Eq (cal:CB)(O:Oracle)(N:Nat)(f0:FuncId){k:KT (IV×Heap)}(hR:∀E H,k .ret E H=resK [(.tmp 4),(.tmp 5)] [] E H):∀(E:Sg) (H:Heap),lxK cal O N (R4DelC4 f0) E H k=R4DelC4S cal O N f0 (lk E 0) (lk E 1) (lk E 6) (lk E 7) H:=by
 have hk:k=(kR (resK [(.tmp 4),(.tmp 5)] []) k):=(kR_mk hR rfl);intro E H;rw[hk];show lxK cal O N X12K25 E H (seqK (lxK cal O N (R4DelC3 f0)) (kR (resK [(.tmp 4),(.tmp 5)] []) k))=_;rw[seqK_mk (g:=fun E H=>R4DelC3S cal O N f0 (lk E 0) (lk E 1) (lk E 6) (lk E 7) (lk E 8) H) (R4DelC3Eq cal O N f0 (k:=(kR (resK [(.tmp 4),(.tmp 5)] []) k)) (fun _ _=>by kernel_rfl))];kernel_rfl
def R4DelC5S (cal:CB)(O:Oracle)(N:Nat)(f0:FuncId)(v0 v1:IV)(H:Heap):OH :=
 ob (O f0 [v0,v1] H) fun r1 =>ob (iextract r1.1 0) fun t2 =>ob (iextract r1.1 1) fun t3 =>
  R4DelC4S cal O N f0 v0 v1 t2 t3 r1.2
theorem R4DelC5Eq (cal:CB)(O:Oracle)(N:Nat)(f0:FuncId){k:KT (IV×Heap)}(hR:∀E H,k .ret E H=resK [(.tmp 4),(.tmp 5)] [] E H):∀(E:Sg) (H:Heap),lxK cal O N (R4DelC5 f0) E H k=R4DelC5S cal O N f0 (lk E 0) (lk E 1) H:=by
 have hk:k=(kR (resK [(.tmp 4),(.tmp 5)] []) k):=(kR_mk hR rfl);intro E H;rw[hk];show lxK cal O N (X12K13 f0) E H (seqK (lxK cal O N (R4DelC4 f0)) (kR (resK [(.tmp 4),(.tmp 5)] []) k))=_;rw[seqK_mk (g:=fun E H=>R4DelC4S cal O N f0 (lk E 0) (lk E 1) (lk E 6) (lk E 7) H) (R4DelC4Eq cal O N f0 (k:=(kR (resK [(.tmp 4),(.tmp 5)] []) k)) (fun _ _=>by kernel_rfl))];kernel_rfl
def R4DelC6S (cal:CB)(O:Oracle)(N:Nat)(f0:FuncId)(v0 v1:IV)(H:Heap):OH :=
  R4DelC5S cal O N f0 v0 v1 H
theorem R4DelC6Eq (cal:CB)(O:Oracle)(N:Nat)(f0:FuncId){k:KT (IV×Heap)}(hR:∀E H,k .ret E H=resK [(.tmp 4),(.tmp 5)] [] E H):∀(E:Sg) (H:Heap),lxK cal O N (R4DelC6 f0) E H k=R4DelC6S cal O N f0 (lk E 0) (lk E 1) H:=by
 have hk:k=(kR (resK [(.tmp 4),(.tmp 5)] []) k):=(kR_mk hR rfl);intro E H;rw[hk];show lxK cal O N X12K27 E H (seqK (lxK cal O N (R4DelC5 f0)) (kR (resK [(.tmp 4),(.tmp 5)] []) k))=_;rw[seqK_mk (g:=fun E H=>R4DelC5S cal O N f0 (lk E 0) (lk E 1) H) (R4DelC5Eq cal O N f0 (k:=(kR (resK [(.tmp 4),(.tmp 5)] []) k)) (fun _ _=>by kernel_rfl))];kernel_rfl
def R4Del (f0:FuncId):LFun:=⟨(R4DelC6 f0),[(.tmp 4),(.tmp 5)],52⟩
def R4DelS (cal:CB)(O:Oracle)(N:Nat)(f0:FuncId)(v0 v1:IV)(H:Heap):OH :=
  R4DelC6S cal O N f0 v0 v1 H
theorem R4DelEq (cal:CB)(O:Oracle)(N:Nat)(f0:FuncId)(v0 v1:IV)(H:Heap):lrunK cal O N (R4Del f0) [v0,v1] H=R4DelS cal O N f0 v0 v1 H:=by
 show lxK cal O N (R4DelC6 f0) (initFrom 0 [v0,v1]) H (endK [(.tmp 4),(.tmp 5)])=_;exact R4DelC6Eq cal O N f0 (k:=(endK [(.tmp 4),(.tmp 5)])) (fun _ _=>by kernel_rfl) (initFrom 0 [v0,v1]) H
def R5GetS (cal:CB)(O:Oracle)(N:Nat)(f0 f1:FuncId)(v0 v1 v2:IV)(H:Heap):OH :=
 ob (O f0 [v0,v1,(.bool false)] H) fun r1 =>ob (lbin .neq r1.1 (.int .i64 0)) fun t2 =>cnd t2
 (some ((.tuple [(.int .i64 0),r1.1]),r1.2))
 (ob (lchk v0) fun t3 =>ob (loff t3 1) fun t4 =>ob (lixa 201 9 t4 v1) fun t5 =>ob (loff t5 7) fun t6 =>ob (O f1 [t6,v2] r1.2) fun r7 =>ob (iextract r7.1 0) fun t8 =>ob (iextract r7.1 1) fun t9 =>some ((.tuple [t8,t9]),r7.2))
def R5VacantS (cal:CB)(O:Oracle)(N:Nat)(f0 f1 f2:FuncId)(v0 v1 v2:IV)(H:Heap):OH :=
 ob (O f0 [v0,v1,(.bool true)] H) fun r1 =>ob (lbin .neq r1.1 (.int .i64 0)) fun t2 =>cnd t2
 (some (r1.1,r1.2))
 (ob (O f1 [v2] r1.2) fun r3 =>ob (lbin .neq r3.1 (.int .i64 0)) fun t4 =>cnd t4
 (some (r3.1,r3.2))
 (ob (lchk v0) fun t5 =>ob (loff t5 1) fun t6 =>ob (lixa 201 9 t6 v1) fun t7 =>ob (loff t7 7) fun t8 =>ob (O f2 [t8,v2] r3.2) fun r9 =>ob (iextract r9.1 0) fun t10 =>ob (iextract r9.1 1) fun t11 =>ob (lbin .eql t11 (.int .i64 0)) fun t12 =>cnd t12
 (some ((.int .i64 17),r9.2))
 (some ((.int .i64 0),r9.2))))
def X12K8 :LC:=.seq (.seq (.reg [ qM 49 13,qO 50 (.bin .leq (.t 49) (k6 200)),qM 51 50,⟨(some 52),(.mv (.t 0)),(some (51,true))⟩,⟨(some 53),(.mv (.t 13)),(some (51,true))⟩,⟨(some 54),(.chk (.t 52)),(some (51,true))⟩,⟨(some 55),(.off (.t 54) 1),(some (51,true))⟩,⟨(some 56),(.ixa 201 9 (.t 55) (.t 53)),(some (51,true))⟩,⟨(some 57),(.off (.t 56) 0),(some (51,true))⟩,⟨(some 58),(.ld1 (.t 57)),(some (51,true))⟩,⟨(some 59),(.bin .neq (.t 58) (k6 0)),(some (51,true))⟩,qO 60 (.pick (.t 51) (.t 59) (.k (.bool false)))]) (.cond (.t 60) .skip (.exit 0))) (.block 1 (.reg [ qM 61 13,qO 62 (.bin .add (.t 61) (k6 1)),qM 13 62]))
def R5MakeC0 (f0 f1:FuncId):LC:=.loop X12K8
def R5MakeC1 (f0 f1:FuncId):LC:=.block 0 (R5MakeC0 f0 f1)
def X12K1 (f0:FuncId):LC:=.seq (.seq (.reg [ qM 63 13,qO 64 (.bin .gtr (.t 63) (k6 200))]) (.cond (.t 64) (.seq (.reg [ qO 10 (.mv (k6 0)),qO 11 (.mv (k6 28))]) .ret) .skip)) (.seq (.reg [ qM 65 3,qM 66 4,qO 67 (.bld [(.int .i64 0),(.int .i64 0),(.int .i64 0),(.int .i64 0),(.int .i64 0),.nilSlice,.nilSlice,.nilSlice,(.str [])] [(0,(1,(.t 65))),(1,(1,(k6 1))),(8,(1,(.t 66)))]),qO 14 (.zbox (.agg [(.int .i64 0),(.int .i64 0),(.int .i64 0),(.int .i64 0),(.int .i64 0),.nilSlice,.nilSlice,.nilSlice,(.str [])])),⟨none,(.st 9 (.t 14) (.t 67)),none⟩]) (.seq (.seq (.reg [ qM 68 3,qO 69 (.bin .eql (.t 68) (k6 2))]) (.cond (.t 69) (.reg [ qM 70 1,qO 71 (.off (.t 14) 4),⟨none,(.st 1 (.t 71) (.t 70)),none⟩]) .skip)) (.seq (.drw [ qM 72 0,qM 73 13,qO 74 (.ldn 9 (.t 14)),qO 75 (.chk (.t 72)),qO 76 (.off (.t 75) 1),qO 77 (.ixa 201 9 (.t 76) (.t 73)),⟨none,(.st 9 (.t 77) (.t 74)),none⟩] []) (.seq (.reg [ qM 78 0,qM 79 1,qO 80 (.chk (.t 78)),qO 81 (.off (.t 80) 1),qO 82 (.ixa 201 9 (.t 81) (.t 79)),qO 83 (.off (.t 82) 7),qM 84 2,qM 85 13,qO 86 (.callF f0 [(.t 83),(.t 84),(.t 85)])]) (.seq (.reg [ qM 87 13,qM 10 87,qO 11 (.mv (k6 0))]) .ret)))))
def R5MakeC2 (f0 f1:FuncId):LC:=.seq (R5MakeC1 f0 f1) (X12K1 f1)
def R5MakeC3 (f0 f1:FuncId):LC:=.seq (.reg [ qO 13 (.mv (k6 1))]) (R5MakeC2 f0 f1)
def X12K3 :LC:=.seq (.reg [ qM 22 3,qO 23 (.bin .lss (.t 22) (k6 1)),qM 24 23,⟨(some 25),(.mv (.t 3)),(some (24,false))⟩,⟨(some 26),(.bin .gtr (.t 25) (k6 4)),(some (24,false))⟩,qO 27 (.pick (.t 24) (.k (.bool true)) (.t 26)),qM 28 27,⟨(some 29),(.mv (.t 3)),(some (28,false))⟩,⟨(some 30),(.bin .neq (.t 29) (k6 3)),(some (28,false))⟩,⟨(some 31),(.mv (.t 30)),(some (28,false))⟩,⟨(some 32),(.mv (.t 4)),(some (31,true))⟩,⟨(some 33),(.bin .neq (.t 32) (.k (.str []))),(some (31,true))⟩,⟨(some 34),(.pick (.t 31) (.t 33) (.k (.bool false))),(some (28,false))⟩,qO 35 (.pick (.t 28) (.k (.bool true)) (.t 34)),qM 36 35,⟨(some 37),(.mv (.t 3)),(some (36,false))⟩,⟨(some 38),(.bin .eql (.t 37) (k6 3)),(some (36,false))⟩,⟨(some 39),(.mv (.t 38)),(some (36,false))⟩,⟨(some 40),(.mv (.t 4)),(some (39,true))⟩,⟨(some 41),(.bin .eql (.t 40) (.k (.str []))),(some (39,true))⟩,⟨(some 42),(.mv (.t 41)),(some (39,true))⟩,⟨(some 43),(.mv (.t 4)),(some (42,false))⟩,⟨(some 44),(.len .str (.t 43)),(some (42,false))⟩,⟨(some 45),(.bin .gtr (.t 44) (k6 400)),(some (42,false))⟩,⟨(some 46),(.pick (.t 42) (.k (.bool true)) (.t 45)),(some (39,true))⟩,⟨(some 47),(.pick (.t 39) (.t 46) (.k (.bool false))),(some (36,false))⟩,qO 48 (.pick (.t 36) (.k (.bool true)) (.t 47))]) (.cond (.t 48) (.seq (.reg [ qO 10 (.mv (k6 0)),qO 11 (.mv (k6 22))]) .ret) .skip)
def R5MakeC4 (f0 f1:FuncId):LC:=.seq X12K3 (R5MakeC3 f0 f1)
def X12K14 :LC:=.seq (.reg [ qM 19 12,qO 20 (.bin .neq (.t 19) (k6 0))]) (.cond (.t 20) (.seq (.reg [ qM 21 12,qO 10 (.mv (k6 0)),qM 11 21]) .ret) .skip)
def R5MakeC5 (f0 f1:FuncId):LC:=.seq X12K14 (R5MakeC4 f0 f1)
def X12K16 (f0:FuncId):LC:=.reg [ qM 15 0,qM 16 1,qM 17 2,qO 18 (.callF f0 [(.t 15),(.t 16),(.t 17)]),qM 12 18]
def R5MakeC6 (f0 f1:FuncId):LC:=.seq (X12K16 f0) (R5MakeC5 f0 f1)
def X12K26 :LC:=.reg [ qO 10 (.mv (k6 0)),qO 11 (.mv (k6 0))]
def R5MakeC7 (f0 f1:FuncId):LC:=.seq X12K26 (R5MakeC6 f0 f1)
def R5MakeC0S (cal:CB)(O:Oracle)(N:Nat)(f0 f1:FuncId)(gE0:IV->IV->IV->IV->IV->IV->Heap->OH):Nat->IV->IV->IV->IV->IV->IV->Heap->OH
 | 0,_,_,_,_,_,_,_=>none
 | n+1,v0,v1,v2,v3,v4,v13,H =>ob (lbin .leq v13 (.int .i64 200)) fun t1 =>ob (gq (isB t1 true) (some v0)) fun t2 =>ob (gq (isB t1 true) (some v13)) fun t3 =>ob (gq (isB t1 true) (lchk t2)) fun t4 =>ob (gq (isB t1 true) (loff t4 1)) fun t5 =>ob (gq (isB t1 true) (lixa 201 9 t5 t3)) fun t6 =>ob (gq (isB t1 true) (loff t6 0)) fun t7 =>ob (gq (isB t1 true) (lload1 H t7)) fun t8 =>ob (gq (isB t1 true) (lbin .neq t8 (.int .i64 0))) fun t9 =>ob (lpick t1 t9 (.bool false)) fun t10 =>cnd t10
  (ob (lbin .add v13 (.int .i64 1)) fun t11 =>
   R5MakeC0S cal O N f0 f1 gE0 n v0 v1 v2 v3 v4 t11 H)
  (gE0 v0 v1 v2 v3 v4 v13 H)
theorem R5MakeC0Eq (cal:CB)(O:Oracle)(N:Nat)(f0 f1:FuncId){k:KT (IV×Heap)}(gE0:IV->IV->IV->IV->IV->IV->Heap->OH)(hgE0:∀E H,k (.exit 0) E H=gE0 (lk E 0) (lk E 1) (lk E 2) (lk E 3) (lk E 4) (lk E 13) H):∀(n:Nat) (E:Sg) (H:Heap),itK (lxK cal O N X12K8) n E H k=R5MakeC0S cal O N f0 f1 gE0 n (lk E 0) (lk E 1) (lk E 2) (lk E 3) (lk E 4) (lk E 13) H:=by
 have hk:k=(kE 0 (fun E H=>gE0 (lk E 0) (lk E 1) (lk E 2) (lk E 3) (lk E 4) (lk E 13) H) k):=(kE_mk hgE0 rfl);intro n
 induction n with
 | zero=>intro E H;rfl
 | succ n ih =>
  intro E H;rw[itK_succ,seqK_mk (g:=fun E H=>R5MakeC0S cal O N f0 f1 gE0 n (lk E 0) (lk E 1) (lk E 2) (lk E 3) (lk E 4) (lk E 13) H) ih,hk];kernel_rfl
def R5MakeC1S (cal:CB)(O:Oracle)(N:Nat)(f0 f1:FuncId)(gN:IV->IV->IV->IV->IV->IV->Heap->OH)(v0 v1 v2 v3 v4 v13:IV)(H:Heap):OH :=
  R5MakeC0S cal O N f0 f1 (fun v0 v1 v2 v3 v4 v13 H=>gN v0 v1 v2 v3 v4 v13 H) N v0 v1 v2 v3 v4 v13 H
theorem R5MakeC1Eq (cal:CB)(O:Oracle)(N:Nat)(f0 f1:FuncId){k:KT (IV×Heap)}(gN:IV->IV->IV->IV->IV->IV->Heap->OH)(hgN:∀E H,k .normal E H=gN (lk E 0) (lk E 1) (lk E 2) (lk E 3) (lk E 4) (lk E 13) H):∀(E:Sg) (H:Heap),lxK cal O N (R5MakeC1 f0 f1) E H k=R5MakeC1S cal O N f0 f1 gN (lk E 0) (lk E 1) (lk E 2) (lk E 3) (lk E 4) (lk E 13) H:=by
 have hk:k=(kN (fun E H=>gN (lk E 0) (lk E 1) (lk E 2) (lk E 3) (lk E 4) (lk E 13) H) k):=(kN_mk hgN rfl);intro E H;rw[hk];show lxK cal O N (R5MakeC0 f0 f1) E H (blockK 0 (kN (fun E H=>gN (lk E 0) (lk E 1) (lk E 2) (lk E 3) (lk E 4) (lk E 13) H) k))=_;exact(R5MakeC0Eq cal O N f0 f1 (k:=(blockK 0 (kN (fun E H=>gN (lk E 0) (lk E 1) (lk E 2) (lk E 3) (lk E 4) (lk E 13) H) k))) gN (fun _ _=>by kernel_rfl) N E H).trans (by kernel_rfl)
def R5MakeC2S (cal:CB)(O:Oracle)(N:Nat)(f0 f1:FuncId)(v0 v1 v2 v3 v4 v13:IV)(H:Heap):OH :=
  R5MakeC1S cal O N f0 f1 (fun v0 v1 v2 v3 v4 v13 H=>ob (lbin .gtr v13 (.int .i64 200)) fun t1 =>cnd t1
 (some ((.tuple [(.int .i64 0),(.int .i64 28)]),H))
 (ob (lbld [(.int .i64 0),(.int .i64 0),(.int .i64 0),(.int .i64 0),(.int .i64 0),.nilSlice,.nilSlice,.nilSlice,(.str [])] [(0,1,v3),(1,1,(.int .i64 1)),(8,1,v4)]) fun t2 =>ob (lzbox H (.agg [(.int .i64 0),(.int .i64 0),(.int .i64 0),(.int .i64 0),(.int .i64 0),.nilSlice,.nilSlice,.nilSlice,(.str [])])) fun r3 =>ob (lstV r3.2 9 r3.1 t2) fun r4 =>jn (fun(H9:Heap) =>ob (lloadn H9 9 r3.1) fun t10 =>ob (lchk v0) fun t11 =>ob (loff t11 1) fun t12 =>ob (lixa 201 9 t12 v13) fun t13 =>ob (lstV H9 9 t13 t10) fun r14 =>ob (lchk v0) fun t15 =>ob (loff t15 1) fun t16 =>ob (lixa 201 9 t16 v1) fun t17 =>ob (loff t17 7) fun t18 =>ob (O f1 [t18,v2,v13] r14.2) fun r19 =>some ((.tuple [v13,(.int .i64 0)]),r19.2)) fun J5 =>ob (lbin .eql v3 (.int .i64 2)) fun t20 =>cnd t20
 (ob (loff r3.1 4) fun t21 =>ob (lstV r4.2 1 t21 v1) fun r22 =>J5 r22.2)
 (J5 r4.2))) v0 v1 v2 v3 v4 v13 H
theorem R5MakeC2Eq (cal:CB)(O:Oracle)(N:Nat)(f0 f1:FuncId){k:KT (IV×Heap)}(hR:∀E H,k .ret E H=resK [(.tmp 10),(.tmp 11)] [] E H):∀(E:Sg) (H:Heap),lxK cal O N (R5MakeC2 f0 f1) E H k=R5MakeC2S cal O N f0 f1 (lk E 0) (lk E 1) (lk E 2) (lk E 3) (lk E 4) (lk E 13) H:=by
 have hk:k=(kR (resK [(.tmp 10),(.tmp 11)] []) k):=(kR_mk hR rfl);intro E H;rw[hk];show lxK cal O N (R5MakeC1 f0 f1) E H (seqK (lxK cal O N (X12K1 f1)) (kR (resK [(.tmp 10),(.tmp 11)] []) k))=_;exact(R5MakeC1Eq cal O N f0 f1 (k:=(seqK (lxK cal O N (X12K1 f1)) (kR (resK [(.tmp 10),(.tmp 11)] []) k))) (fun v0 v1 v2 v3 v4 v13 H=>ob (lbin .gtr v13 (.int .i64 200)) fun t1 =>cnd t1
(some ((.tuple [(.int .i64 0),(.int .i64 28)]),H))
(ob (lbld [(.int .i64 0),(.int .i64 0),(.int .i64 0),(.int .i64 0),(.int .i64 0),.nilSlice,.nilSlice,.nilSlice,(.str [])] [(0,1,v3),(1,1,(.int .i64 1)),(8,1,v4)]) fun t2 =>ob (lzbox H (.agg [(.int .i64 0),(.int .i64 0),(.int .i64 0),(.int .i64 0),(.int .i64 0),.nilSlice,.nilSlice,.nilSlice,(.str [])])) fun r3 =>ob (lstV r3.2 9 r3.1 t2) fun r4 =>jn (fun(H9:Heap) =>ob (lloadn H9 9 r3.1) fun t10 =>ob (lchk v0) fun t11 =>ob (loff t11 1) fun t12 =>ob (lixa 201 9 t12 v13) fun t13 =>ob (lstV H9 9 t13 t10) fun r14 =>ob (lchk v0) fun t15 =>ob (loff t15 1) fun t16 =>ob (lixa 201 9 t16 v1) fun t17 =>ob (loff t17 7) fun t18 =>ob (O f1 [t18,v2,v13] r14.2) fun r19 =>some ((.tuple [v13,(.int .i64 0)]),r19.2)) fun J5 =>ob (lbin .eql v3 (.int .i64 2)) fun t20 =>cnd t20
(ob (loff r3.1 4) fun t21 =>ob (lstV r4.2 1 t21 v1) fun r22 =>J5 r22.2)
(J5 r4.2))) (fun _ _=>by kernel_rfl) E H).trans (by kernel_rfl)
def R5MakeC3S (cal:CB)(O:Oracle)(N:Nat)(f0 f1:FuncId)(v0 v1 v2 v3 v4:IV)(H:Heap):OH :=
  R5MakeC2S cal O N f0 f1 v0 v1 v2 v3 v4 (.int .i64 1) H
theorem R5MakeC3Eq (cal:CB)(O:Oracle)(N:Nat)(f0 f1:FuncId){k:KT (IV×Heap)}(hR:∀E H,k .ret E H=resK [(.tmp 10),(.tmp 11)] [] E H):∀(E:Sg) (H:Heap),lxK cal O N (R5MakeC3 f0 f1) E H k=R5MakeC3S cal O N f0 f1 (lk E 0) (lk E 1) (lk E 2) (lk E 3) (lk E 4) H:=by
 have hk:k=(kR (resK [(.tmp 10),(.tmp 11)] []) k):=(kR_mk hR rfl);intro E H;rw[hk];show lxK cal O N (.reg [ qO 13 (.mv (k6 1))]) E H (seqK (lxK cal O N (R5MakeC2 f0 f1)) (kR (resK [(.tmp 10),(.tmp 11)] []) k))=_;rw[seqK_mk (g:=fun E H=>R5MakeC2S cal O N f0 f1 (lk E 0) (lk E 1) (lk E 2) (lk E 3) (lk E 4) (lk E 13) H) (R5MakeC2Eq cal O N f0 f1 (k:=(kR (resK [(.tmp 10),(.tmp 11)] []) k)) (fun _ _=>by kernel_rfl))];kernel_rfl
def R5MakeC4S (cal:CB)(O:Oracle)(N:Nat)(f0 f1:FuncId)(v0 v1 v2 v3 v4:IV)(H:Heap):OH :=
 ob (lbin .lss v3 (.int .i64 1)) fun t1 =>ob (gq (isB t1 false) (some v3)) fun t2 =>ob (gq (isB t1 false) (lbin .gtr t2 (.int .i64 4))) fun t3 =>ob (lpick t1 (.bool true) t3) fun t4 =>ob (gq (isB t4 false) (some v3)) fun t5 =>ob (gq (isB t4 false) (lbin .neq t5 (.int .i64 3))) fun t6 =>ob (gq (isB t4 false) (some t6)) fun t7 =>ob (gq (isB t7 true) (some v4)) fun t8 =>ob (gq (isB t7 true) (lbin .neq t8 (.str []))) fun t9 =>ob (gq (isB t4 false) (lpick t7 t9 (.bool false))) fun t10 =>ob (lpick t4 (.bool true) t10) fun t11 =>ob (gq (isB t11 false) (some v3)) fun t12 =>ob (gq (isB t11 false) (lbin .eql t12 (.int .i64 3))) fun t13 =>ob (gq (isB t11 false) (some t13)) fun t14 =>ob (gq (isB t14 true) (some v4)) fun t15 =>ob (gq (isB t14 true) (lbin .eql t15 (.str []))) fun t16 =>ob (gq (isB t14 true) (some t16)) fun t17 =>ob (gq (isB t17 false) (some v4)) fun t18 =>ob (gq (isB t17 false) (llen H .str t18)) fun t19 =>ob (gq (isB t17 false) (lbin .gtr t19 (.int .i64 400))) fun t20 =>ob (gq (isB t14 true) (lpick t17 (.bool true) t20)) fun t21 =>ob (gq (isB t11 false) (lpick t14 t21 (.bool false))) fun t22 =>ob (lpick t11 (.bool true) t22) fun t23 =>cnd t23
 (some ((.tuple [(.int .i64 0),(.int .i64 22)]),H))
  (R5MakeC3S cal O N f0 f1 v0 v1 v2 v3 v4 H)
theorem R5MakeC4Eq (cal:CB)(O:Oracle)(N:Nat)(f0 f1:FuncId){k:KT (IV×Heap)}(hR:∀E H,k .ret E H=resK [(.tmp 10),(.tmp 11)] [] E H):∀(E:Sg) (H:Heap),lxK cal O N (R5MakeC4 f0 f1) E H k=R5MakeC4S cal O N f0 f1 (lk E 0) (lk E 1) (lk E 2) (lk E 3) (lk E 4) H:=by
 have hk:k=(kR (resK [(.tmp 10),(.tmp 11)] []) k):=(kR_mk hR rfl);intro E H;rw[hk];show lxK cal O N X12K3 E H (seqK (lxK cal O N (R5MakeC3 f0 f1)) (kR (resK [(.tmp 10),(.tmp 11)] []) k))=_;rw[seqK_mk (g:=fun E H=>R5MakeC3S cal O N f0 f1 (lk E 0) (lk E 1) (lk E 2) (lk E 3) (lk E 4) H) (R5MakeC3Eq cal O N f0 f1 (k:=(kR (resK [(.tmp 10),(.tmp 11)] []) k)) (fun _ _=>by kernel_rfl))];kernel_rfl
def R5MakeC5S (cal:CB)(O:Oracle)(N:Nat)(f0 f1:FuncId)(v0 v1 v2 v3 v4 v12:IV)(H:Heap):OH :=
 ob (lbin .neq v12 (.int .i64 0)) fun t1 =>cnd t1
 (some ((.tuple [(.int .i64 0),v12]),H))
  (R5MakeC4S cal O N f0 f1 v0 v1 v2 v3 v4 H)
theorem R5MakeC5Eq (cal:CB)(O:Oracle)(N:Nat)(f0 f1:FuncId){k:KT (IV×Heap)}(hR:∀E H,k .ret E H=resK [(.tmp 10),(.tmp 11)] [] E H):∀(E:Sg) (H:Heap),lxK cal O N (R5MakeC5 f0 f1) E H k=R5MakeC5S cal O N f0 f1 (lk E 0) (lk E 1) (lk E 2) (lk E 3) (lk E 4) (lk E 12) H:=by
 have hk:k=(kR (resK [(.tmp 10),(.tmp 11)] []) k):=(kR_mk hR rfl);intro E H;rw[hk];show lxK cal O N X12K14 E H (seqK (lxK cal O N (R5MakeC4 f0 f1)) (kR (resK [(.tmp 10),(.tmp 11)] []) k))=_;rw[seqK_mk (g:=fun E H=>R5MakeC4S cal O N f0 f1 (lk E 0) (lk E 1) (lk E 2) (lk E 3) (lk E 4) H) (R5MakeC4Eq cal O N f0 f1 (k:=(kR (resK [(.tmp 10),(.tmp 11)] []) k)) (fun _ _=>by kernel_rfl))];kernel_rfl
def R5MakeC6S (cal:CB)(O:Oracle)(N:Nat)(f0 f1:FuncId)(v0 v1 v2 v3 v4:IV)(H:Heap):OH :=
 ob (O f0 [v0,v1,v2] H) fun r1 =>
  R5MakeC5S cal O N f0 f1 v0 v1 v2 v3 v4 r1.1 r1.2
theorem R5MakeC6Eq (cal:CB)(O:Oracle)(N:Nat)(f0 f1:FuncId){k:KT (IV×Heap)}(hR:∀E H,k .ret E H=resK [(.tmp 10),(.tmp 11)] [] E H):∀(E:Sg) (H:Heap),lxK cal O N (R5MakeC6 f0 f1) E H k=R5MakeC6S cal O N f0 f1 (lk E 0) (lk E 1) (lk E 2) (lk E 3) (lk E 4) H:=by
 have hk:k=(kR (resK [(.tmp 10),(.tmp 11)] []) k):=(kR_mk hR rfl);intro E H;rw[hk];show lxK cal O N (X12K16 f0) E H (seqK (lxK cal O N (R5MakeC5 f0 f1)) (kR (resK [(.tmp 10),(.tmp 11)] []) k))=_;rw[seqK_mk (g:=fun E H=>R5MakeC5S cal O N f0 f1 (lk E 0) (lk E 1) (lk E 2) (lk E 3) (lk E 4) (lk E 12) H) (R5MakeC5Eq cal O N f0 f1 (k:=(kR (resK [(.tmp 10),(.tmp 11)] []) k)) (fun _ _=>by kernel_rfl))];kernel_rfl
def R5MakeC7S (cal:CB)(O:Oracle)(N:Nat)(f0 f1:FuncId)(v0 v1 v2 v3 v4:IV)(H:Heap):OH :=
  R5MakeC6S cal O N f0 f1 v0 v1 v2 v3 v4 H
theorem R5MakeC7Eq (cal:CB)(O:Oracle)(N:Nat)(f0 f1:FuncId){k:KT (IV×Heap)}(hR:∀E H,k .ret E H=resK [(.tmp 10),(.tmp 11)] [] E H):∀(E:Sg) (H:Heap),lxK cal O N (R5MakeC7 f0 f1) E H k=R5MakeC7S cal O N f0 f1 (lk E 0) (lk E 1) (lk E 2) (lk E 3) (lk E 4) H:=by
 have hk:k=(kR (resK [(.tmp 10),(.tmp 11)] []) k):=(kR_mk hR rfl);intro E H;rw[hk];show lxK cal O N X12K26 E H (seqK (lxK cal O N (R5MakeC6 f0 f1)) (kR (resK [(.tmp 10),(.tmp 11)] []) k))=_;rw[seqK_mk (g:=fun E H=>R5MakeC6S cal O N f0 f1 (lk E 0) (lk E 1) (lk E 2) (lk E 3) (lk E 4) H) (R5MakeC6Eq cal O N f0 f1 (k:=(kR (resK [(.tmp 10),(.tmp 11)] []) k)) (fun _ _=>by kernel_rfl))];kernel_rfl
def R5Make (f0 f1:FuncId):LFun:=⟨(R5MakeC7 f0 f1),[(.tmp 10),(.tmp 11)],88⟩
def R5MakeS (cal:CB)(O:Oracle)(N:Nat)(f0 f1:FuncId)(v0 v1 v2 v3 v4:IV)(H:Heap):OH :=
  R5MakeC7S cal O N f0 f1 v0 v1 v2 v3 v4 H
theorem R5MakeEq (cal:CB)(O:Oracle)(N:Nat)(f0 f1:FuncId)(v0 v1 v2 v3 v4:IV)(H:Heap):lrunK cal O N (R5Make f0 f1) [v0,v1,v2,v3,v4] H=R5MakeS cal O N f0 f1 v0 v1 v2 v3 v4 H:=by
 show lxK cal O N (R5MakeC7 f0 f1) (initFrom 0 [v0,v1,v2,v3,v4]) H (endK [(.tmp 10),(.tmp 11)])=_;exact R5MakeC7Eq cal O N f0 f1 (k:=(endK [(.tmp 10),(.tmp 11)])) (fun _ _=>by kernel_rfl) (initFrom 0 [v0,v1,v2,v3,v4]) H
def R5LinkS (cal:CB)(O:Oracle)(N:Nat)(f0 f1 f2:FuncId)(v0 v1 v2 v3:IV)(H:Heap):OH :=
 ob (O f0 [v0,v1,v2] H) fun r1 =>ob (lbin .neq r1.1 (.int .i64 0)) fun t2 =>cnd t2
 (some (r1.1,r1.2))
 (ob (O f1 [v0,v3] r1.2) fun r3 =>ob (iun .not r3.1) fun t4 =>ob (gq (isB t4 false) (some v0)) fun t5 =>ob (gq (isB t4 false) (some v3)) fun t6 =>ob (gq (isB t4 false) (lchk t5)) fun t7 =>ob (gq (isB t4 false) (loff t7 1)) fun t8 =>ob (gq (isB t4 false) (lixa 201 9 t8 t6)) fun t9 =>ob (gq (isB t4 false) (loff t9 1)) fun t10 =>ob (gq (isB t4 false) (lload1 r3.2 t10)) fun t11 =>ob (gq (isB t4 false) (lbin .eql t11 (.int .i64 0))) fun t12 =>ob (lpick t4 (.bool true) t12) fun t13 =>cnd t13
 (some ((.int .i64 2),r3.2))
 (ob (lchk v0) fun t14 =>ob (loff t14 1) fun t15 =>ob (lixa 201 9 t15 v3) fun t16 =>ob (loff t16 0) fun t17 =>ob (lload1 r3.2 t17) fun t18 =>ob (lbin .eql t18 (.int .i64 2)) fun t19 =>cnd t19
 (some ((.int .i64 1),r3.2))
 (ob (lchk v0) fun t20 =>ob (loff t20 1) fun t21 =>ob (lixa 201 9 t21 v3) fun t22 =>ob (loff t22 1) fun t23 =>ob (lload1 r3.2 t23) fun t24 =>ob (lbin .geq t24 (.int .i64 20)) fun t25 =>cnd t25
 (some ((.int .i64 31),r3.2))
 (ob (lchk v0) fun t26 =>ob (loff t26 1) fun t27 =>ob (lixa 201 9 t27 v3) fun t28 =>ob (loff t28 1) fun t29 =>ob (lload1 r3.2 t29) fun t30 =>ob (lbin .add t30 (.int .i64 1)) fun t31 =>ob (lchk v0) fun t32 =>ob (loff t32 1) fun t33 =>ob (lixa 201 9 t33 v3) fun t34 =>ob (loff t34 1) fun t35 =>ob (lstV r3.2 1 t35 t31) fun r36 =>ob (lchk v0) fun t37 =>ob (loff t37 1) fun t38 =>ob (lixa 201 9 t38 v1) fun t39 =>ob (loff t39 7) fun t40 =>ob (O f2 [t40,v2,v3] r36.2) fun r41 =>some (r41.1,r41.2)))))
def X12K7 :LC:=.seq (.seq (.reg [ qM 16 8,qM 17 7,qO 18 (.len .slice (.t 17)),qO 19 (.bin .lss (.t 16) (.t 18)),qM 20 19,⟨(some 21),(.mv (.t 8)),(some (20,true))⟩,⟨(some 22),(.mv (.t 1)),(some (20,true))⟩,⟨(some 23),(.chk (.t 22)),(some (20,true))⟩,⟨(some 24),(.off (.t 23) 0),(some (20,true))⟩,⟨(some 25),(.ld1 (.t 24)),(some (20,true))⟩,⟨(some 26),(.len .slice (.t 25)),(some (20,true))⟩,⟨(some 27),(.bin .lss (.t 21) (.t 26)),(some (20,true))⟩,qO 28 (.pick (.t 20) (.t 27) (.k (.bool false)))]) (.cond (.t 28) .skip (.exit 0))) (.seq (.block 1 (.reg [ qM 31 7,qM 32 8,qM 33 1,qO 34 (.chk (.t 33)),qO 35 (.off (.t 34) 0),qO 36 (.ld1 (.t 35)),qM 37 8,qO 38 (.ix 1 (.t 36) (.t 37)),qO 39 (.ld1 (.t 38)),qO 40 (.ix 1 (.t 31) (.t 32)),⟨none,(.st 1 (.t 40) (.t 39)),none⟩])) (.reg [ qM 29 8,qO 30 (.bin .add (.t 29) (k6 1)),qM 8 30]))
def R3sCutC0 :LC:=.loop X12K7
def R3sCutC1 :LC:=.block 0 R3sCutC0
def R3sCutC2 :LC:=.seq (.reg [ qO 8 (.mv (k6 0))]) R3sCutC1
def X12K2 :LC:=.seq (.seq (.reg [ qM 45 9,qM 46 1,qO 47 (.chk (.t 46)),qO 48 (.off (.t 47) 1),qO 49 (.ld1 (.t 48)),qO 50 (.len .slice (.t 49)),qO 51 (.bin .lss (.t 45) (.t 50))]) (.cond (.t 51) .skip (.exit 2))) (.seq (.block 3 (.seq (.reg [ qM 54 1,qO 55 (.chk (.t 54)),qO 56 (.off (.t 55) 1),qO 57 (.ld1 (.t 56)),qM 58 9,qO 59 (.ix 1 (.t 57) (.t 58)),qO 60 (.ld1 (.t 59)),qM 61 60,⟨(some 62),(.mv (.t 9)),(some (61,true))⟩,⟨(some 63),(.bin .mul (.t 62) (k6 16)),(some (61,true))⟩,⟨(some 64),(.mv (.t 7)),(some (61,true))⟩,⟨(some 65),(.len .slice (.t 64)),(some (61,true))⟩,⟨(some 66),(.bin .geq (.t 63) (.t 65)),(some (61,true))⟩,qO 67 (.pick (.t 61) (.t 66) (.k (.bool false)))]) (.cond (.t 67) (.seq (.reg [ qM 68 1,qO 69 (.chk (.t 68)),qO 70 (.off (.t 69) 1),qO 71 (.ld1 (.t 70)),qM 72 9,qO 73 (.ix 1 (.t 71) (.t 72)),⟨none,(.st 1 (.t 73) (.k (.bool false))),none⟩]) (.reg [ qM 74 0,qO 75 (.chk (.t 74)),qO 76 (.off (.t 75) 1),qO 77 (.ld1 (.t 76)),qO 78 (.bin .sub (.t 77) (k6 1)),qO 79 (.chk (.t 74)),qO 80 (.off (.t 79) 1),⟨none,(.st 1 (.t 80) (.t 78)),none⟩])) .skip))) (.reg [ qM 52 9,qO 53 (.bin .add (.t 52) (k6 1)),qM 9 53]))
def R3sCutC3 :LC:=.loop X12K2
def R3sCutC4 :LC:=.block 2 R3sCutC3
def R3sCutC5 :LC:=.seq (.reg [ qO 9 (.mv (k6 0))]) R3sCutC4
def R3sCutC6 :LC:=.seq R3sCutC5 (.seq (.reg [ qO 6 (.mv (k6 0))]) .ret)
def X12K20 :LC:=.reg [ qM 41 1,qM 42 7,qO 43 (.chk (.t 41)),qO 44 (.off (.t 43) 0),⟨none,(.st 1 (.t 44) (.t 42)),none⟩]
def R3sCutC7 :LC:=.seq X12K20 R3sCutC6
def R3sCutC8 :LC:=.seq R3sCutC2 R3sCutC7
def X12K21 :LC:=.reg [ qM 14 2,qO 15 (.mkS 1 1 [(.int .u8 0)] (.t 14) (.t 14)),qM 7 15]
def R3sCutC9 :LC:=.seq X12K21 R3sCutC8
def X12K18 :LC:=.seq (.reg [ qM 12 2,qO 13 (.bin .gtr (.t 12) (k6 65536))]) (.cond (.t 13) (.seq (.reg [ qO 6 (.mv (k6 27))]) .ret) .skip)
def R3sCutC10 :LC:=.seq X12K18 R3sCutC9
def X12K19 :LC:=.seq (.reg [ qM 10 2,qO 11 (.bin .lss (.t 10) (k6 0))]) (.cond (.t 11) (.seq (.reg [ qO 6 (.mv (k6 22))]) .ret) .skip)
def R3sCutC11 :LC:=.seq X12K19 R3sCutC10
def R3sCutC12 :LC:=.seq (.reg [ qO 6 (.mv (k6 0))]) R3sCutC11
def R3sCutC3S (cal:CB)(O:Oracle)(N:Nat)(gE2:Heap->OH):Nat->IV->IV->IV->IV->Heap->OH
 | 0,_,_,_,_,_=>none
 | n+1,v0,v1,v7,v9,H =>ob (lchk v1) fun t1 =>ob (loff t1 1) fun t2 =>ob (lload1 H t2) fun t3 =>ob (llen H .slice t3) fun t4 =>ob (lbin .lss v9 t4) fun t5 =>cnd t5
  (jn (fun(H32:Heap) =>ob (lbin .add v9 (.int .i64 1)) fun t33 =>
   R3sCutC3S cal O N gE2 n v0 v1 v7 t33 H32) fun J6 =>ob (lchk v1) fun t34 =>ob (loff t34 1) fun t35 =>ob (lload1 H t35) fun t36 =>ob (lix 1 t36 v9) fun t37 =>ob (lload1 H t37) fun t38 =>ob (gq (isB t38 true) (some v9)) fun t39 =>ob (gq (isB t38 true) (lbin .mul t39 (.int .i64 16))) fun t40 =>ob (gq (isB t38 true) (some v7)) fun t41 =>ob (gq (isB t38 true) (llen H .slice t41)) fun t42 =>ob (gq (isB t38 true) (lbin .geq t40 t42)) fun t43 =>ob (lpick t38 t43 (.bool false)) fun t44 =>cnd t44
  (ob (lchk v1) fun t45 =>ob (loff t45 1) fun t46 =>ob (lload1 H t46) fun t47 =>ob (lix 1 t47 v9) fun t48 =>ob (lstV H 1 t48 (.bool false)) fun r49 =>ob (lchk v0) fun t50 =>ob (loff t50 1) fun t51 =>ob (lload1 r49.2 t51) fun t52 =>ob (lbin .sub t52 (.int .i64 1)) fun t53 =>ob (lchk v0) fun t54 =>ob (loff t54 1) fun t55 =>ob (lstV r49.2 1 t55 t53) fun r56 =>J6 r56.2)
  (J6 H))
  (gE2 H)
theorem R3sCutC3Eq (cal:CB)(O:Oracle)(N:Nat){k:KT (IV×Heap)}(gE2:Heap->OH)(hgE2:∀E H,k (.exit 2) E H=gE2 H):∀(n:Nat) (E:Sg) (H:Heap),itK (lxK cal O N X12K2) n E H k=R3sCutC3S cal O N gE2 n (lk E 0) (lk E 1) (lk E 7) (lk E 9) H:=by
 have hk:k=(kE 2 (fun E H=>gE2 H) k):=(kE_mk hgE2 rfl);intro n
 induction n with
 | zero=>intro E H;rfl
 | succ n ih =>
  intro E H;rw[itK_succ,seqK_mk (g:=fun E H=>R3sCutC3S cal O N gE2 n (lk E 0) (lk E 1) (lk E 7) (lk E 9) H) ih,hk];kernel_rfl
def R3sCutC4S (cal:CB)(O:Oracle)(N:Nat)(gN:Heap->OH)(v0 v1 v7 v9:IV)(H:Heap):OH :=
  R3sCutC3S cal O N (fun H=>gN H) N v0 v1 v7 v9 H
theorem R3sCutC4Eq (cal:CB)(O:Oracle)(N:Nat){k:KT (IV×Heap)}(gN:Heap->OH)(hgN:∀E H,k .normal E H=gN H):∀(E:Sg) (H:Heap),lxK cal O N R3sCutC4 E H k=R3sCutC4S cal O N gN (lk E 0) (lk E 1) (lk E 7) (lk E 9) H:=by
 have hk:k=(kN (fun E H=>gN H) k):=(kN_mk hgN rfl);intro E H;rw[hk];show lxK cal O N R3sCutC3 E H (blockK 2 (kN (fun E H=>gN H) k))=_;exact(R3sCutC3Eq cal O N (k:=(blockK 2 (kN (fun E H=>gN H) k))) gN (fun _ _=>by kernel_rfl) N E H).trans (by kernel_rfl)
def R3sCutC5S (cal:CB)(O:Oracle)(N:Nat)(gN:Heap->OH)(v0 v1 v7:IV)(H:Heap):OH :=
  R3sCutC4S cal O N (fun H=>gN H) v0 v1 v7 (.int .i64 0) H
theorem R3sCutC5Eq (cal:CB)(O:Oracle)(N:Nat){k:KT (IV×Heap)}(gN:Heap->OH)(hgN:∀E H,k .normal E H=gN H):∀(E:Sg) (H:Heap),lxK cal O N R3sCutC5 E H k=R3sCutC5S cal O N gN (lk E 0) (lk E 1) (lk E 7) H:=by
 have hk:k=(kN (fun E H=>gN H) k):=(kN_mk hgN rfl);intro E H;rw[hk];show lxK cal O N (.reg [ qO 9 (.mv (k6 0))]) E H (seqK (lxK cal O N R3sCutC4) (kN (fun E H=>gN H) k))=_;rw[seqK_mk (g:=fun E H=>R3sCutC4S cal O N gN (lk E 0) (lk E 1) (lk E 7) (lk E 9) H) (R3sCutC4Eq cal O N (k:=(kN (fun E H=>gN H) k)) gN (fun _ _=>by kernel_rfl))];kernel_rfl
def R3sCutC6S (cal:CB)(O:Oracle)(N:Nat)(v0 v1 v7:IV)(H:Heap):OH :=
  R3sCutC5S cal O N (fun H=>some ((.int .i64 0),H)) v0 v1 v7 H
theorem R3sCutC6Eq (cal:CB)(O:Oracle)(N:Nat){k:KT (IV×Heap)}(hR:∀E H,k .ret E H=resK [(.tmp 6)] [] E H):∀(E:Sg) (H:Heap),lxK cal O N R3sCutC6 E H k=R3sCutC6S cal O N (lk E 0) (lk E 1) (lk E 7) H:=by
 have hk:k=(kR (resK [(.tmp 6)] []) k):=(kR_mk hR rfl);intro E H;rw[hk];show lxK cal O N R3sCutC5 E H (seqK (lxK cal O N (.seq (.reg [ qO 6 (.mv (k6 0))]) .ret)) (kR (resK [(.tmp 6)] []) k))=_;exact(R3sCutC5Eq cal O N (k:=(seqK (lxK cal O N (.seq (.reg [ qO 6 (.mv (k6 0))]) .ret)) (kR (resK [(.tmp 6)] []) k))) (fun H=>some ((.int .i64 0),H)) (fun _ _=>by kernel_rfl) E H).trans (by kernel_rfl)
def R3sCutC7S (cal:CB)(O:Oracle)(N:Nat)(v0 v1 v7:IV)(H:Heap):OH :=
 ob (lchk v1) fun t1 =>ob (loff t1 0) fun t2 =>ob (lstV H 1 t2 v7) fun r3 =>
  R3sCutC6S cal O N v0 v1 v7 r3.2
theorem R3sCutC7Eq (cal:CB)(O:Oracle)(N:Nat){k:KT (IV×Heap)}(hR:∀E H,k .ret E H=resK [(.tmp 6)] [] E H):∀(E:Sg) (H:Heap),lxK cal O N R3sCutC7 E H k=R3sCutC7S cal O N (lk E 0) (lk E 1) (lk E 7) H:=by
 have hk:k=(kR (resK [(.tmp 6)] []) k):=(kR_mk hR rfl);intro E H;rw[hk];show lxK cal O N X12K20 E H (seqK (lxK cal O N R3sCutC6) (kR (resK [(.tmp 6)] []) k))=_;rw[seqK_mk (g:=fun E H=>R3sCutC6S cal O N (lk E 0) (lk E 1) (lk E 7) H) (R3sCutC6Eq cal O N (k:=(kR (resK [(.tmp 6)] []) k)) (fun _ _=>by kernel_rfl))];kernel_rfl
def R3sCutC0S (cal:CB)(O:Oracle)(N:Nat)(gE0:IV->IV->IV->Heap->OH):Nat->IV->IV->IV->IV->Heap->OH
 | 0,_,_,_,_,_=>none
 | n+1,v0,v1,v7,v8,H =>ob (llen H .slice v7) fun t1 =>ob (lbin .lss v8 t1) fun t2 =>ob (gq (isB t2 true) (some v8)) fun t3 =>ob (gq (isB t2 true) (some v1)) fun t4 =>ob (gq (isB t2 true) (lchk t4)) fun t5 =>ob (gq (isB t2 true) (loff t5 0)) fun t6 =>ob (gq (isB t2 true) (lload1 H t6)) fun t7 =>ob (gq (isB t2 true) (llen H .slice t7)) fun t8 =>ob (gq (isB t2 true) (lbin .lss t3 t8)) fun t9 =>ob (lpick t2 t9 (.bool false)) fun t10 =>cnd t10
  (ob (lchk v1) fun t11 =>ob (loff t11 0) fun t12 =>ob (lload1 H t12) fun t13 =>ob (lix 1 t13 v8) fun t14 =>ob (lload1 H t14) fun t15 =>ob (lix 1 v7 v8) fun t16 =>ob (lstV H 1 t16 t15) fun r17 =>ob (lbin .add v8 (.int .i64 1)) fun t18 =>
   R3sCutC0S cal O N gE0 n v0 v1 v7 t18 r17.2)
  (gE0 v0 v1 v7 H)
theorem R3sCutC0Eq (cal:CB)(O:Oracle)(N:Nat){k:KT (IV×Heap)}(gE0:IV->IV->IV->Heap->OH)(hgE0:∀E H,k (.exit 0) E H=gE0 (lk E 0) (lk E 1) (lk E 7) H):∀(n:Nat) (E:Sg) (H:Heap),itK (lxK cal O N X12K7) n E H k=R3sCutC0S cal O N gE0 n (lk E 0) (lk E 1) (lk E 7) (lk E 8) H:=by
 have hk:k=(kE 0 (fun E H=>gE0 (lk E 0) (lk E 1) (lk E 7) H) k):=(kE_mk hgE0 rfl);intro n
 induction n with
 | zero=>intro E H;rfl
 | succ n ih =>
  intro E H;rw[itK_succ,seqK_mk (g:=fun E H=>R3sCutC0S cal O N gE0 n (lk E 0) (lk E 1) (lk E 7) (lk E 8) H) ih,hk];kernel_rfl
def R3sCutC1S (cal:CB)(O:Oracle)(N:Nat)(gN:IV->IV->IV->Heap->OH)(v0 v1 v7 v8:IV)(H:Heap):OH :=
  R3sCutC0S cal O N (fun v0 v1 v7 H=>gN v0 v1 v7 H) N v0 v1 v7 v8 H
theorem R3sCutC1Eq (cal:CB)(O:Oracle)(N:Nat){k:KT (IV×Heap)}(gN:IV->IV->IV->Heap->OH)(hgN:∀E H,k .normal E H=gN (lk E 0) (lk E 1) (lk E 7) H):∀(E:Sg) (H:Heap),lxK cal O N R3sCutC1 E H k=R3sCutC1S cal O N gN (lk E 0) (lk E 1) (lk E 7) (lk E 8) H:=by
 have hk:k=(kN (fun E H=>gN (lk E 0) (lk E 1) (lk E 7) H) k):=(kN_mk hgN rfl);intro E H;rw[hk];show lxK cal O N R3sCutC0 E H (blockK 0 (kN (fun E H=>gN (lk E 0) (lk E 1) (lk E 7) H) k))=_;exact(R3sCutC0Eq cal O N (k:=(blockK 0 (kN (fun E H=>gN (lk E 0) (lk E 1) (lk E 7) H) k))) gN (fun _ _=>by kernel_rfl) N E H).trans (by kernel_rfl)
def R3sCutC2S (cal:CB)(O:Oracle)(N:Nat)(gN:IV->IV->IV->Heap->OH)(v0 v1 v7:IV)(H:Heap):OH :=
  R3sCutC1S cal O N (fun v0 v1 v7 H=>gN v0 v1 v7 H) v0 v1 v7 (.int .i64 0) H
theorem R3sCutC2Eq (cal:CB)(O:Oracle)(N:Nat){k:KT (IV×Heap)}(gN:IV->IV->IV->Heap->OH)(hgN:∀E H,k .normal E H=gN (lk E 0) (lk E 1) (lk E 7) H):∀(E:Sg) (H:Heap),lxK cal O N R3sCutC2 E H k=R3sCutC2S cal O N gN (lk E 0) (lk E 1) (lk E 7) H:=by
 have hk:k=(kN (fun E H=>gN (lk E 0) (lk E 1) (lk E 7) H) k):=(kN_mk hgN rfl);intro E H;rw[hk];show lxK cal O N (.reg [ qO 8 (.mv (k6 0))]) E H (seqK (lxK cal O N R3sCutC1) (kN (fun E H=>gN (lk E 0) (lk E 1) (lk E 7) H) k))=_;rw[seqK_mk (g:=fun E H=>R3sCutC1S cal O N gN (lk E 0) (lk E 1) (lk E 7) (lk E 8) H) (R3sCutC1Eq cal O N (k:=(kN (fun E H=>gN (lk E 0) (lk E 1) (lk E 7) H) k)) gN (fun _ _=>by kernel_rfl))];kernel_rfl
def R3sCutC8S (cal:CB)(O:Oracle)(N:Nat)(v0 v1 v7:IV)(H:Heap):OH :=
  R3sCutC2S cal O N (fun v0 v1 v7 H=>R3sCutC7S cal O N v0 v1 v7 H) v0 v1 v7 H
theorem R3sCutC8Eq (cal:CB)(O:Oracle)(N:Nat){k:KT (IV×Heap)}(hR:∀E H,k .ret E H=resK [(.tmp 6)] [] E H):∀(E:Sg) (H:Heap),lxK cal O N R3sCutC8 E H k=R3sCutC8S cal O N (lk E 0) (lk E 1) (lk E 7) H:=by
 have hk:k=(kR (resK [(.tmp 6)] []) k):=(kR_mk hR rfl);intro E H;rw[hk];show lxK cal O N R3sCutC2 E H (seqK (lxK cal O N R3sCutC7) (kR (resK [(.tmp 6)] []) k))=_;rw[seqK_mk (g:=fun E H=>R3sCutC7S cal O N (lk E 0) (lk E 1) (lk E 7) H) (R3sCutC7Eq cal O N (k:=(kR (resK [(.tmp 6)] []) k)) (fun _ _=>by kernel_rfl))];exact(R3sCutC2Eq cal O N (k:=(kN (fun E H=>R3sCutC7S cal O N (lk E 0) (lk E 1) (lk E 7) H) (kR (resK [(.tmp 6)] []) k))) (fun v0 v1 v7 H=>R3sCutC7S cal O N v0 v1 v7 H) (fun _ _=>by kernel_rfl) E H).trans (by kernel_rfl)
def R3sCutC9S (cal:CB)(O:Oracle)(N:Nat)(v0 v1 v2:IV)(H:Heap):OH :=
 ob (lmkS H 1 1 [(.int .u8 0)] v2 v2) fun r1 =>
  R3sCutC8S cal O N v0 v1 r1.1 r1.2
theorem R3sCutC9Eq (cal:CB)(O:Oracle)(N:Nat){k:KT (IV×Heap)}(hR:∀E H,k .ret E H=resK [(.tmp 6)] [] E H):∀(E:Sg) (H:Heap),lxK cal O N R3sCutC9 E H k=R3sCutC9S cal O N (lk E 0) (lk E 1) (lk E 2) H:=by
 have hk:k=(kR (resK [(.tmp 6)] []) k):=(kR_mk hR rfl);intro E H;rw[hk];show lxK cal O N X12K21 E H (seqK (lxK cal O N R3sCutC8) (kR (resK [(.tmp 6)] []) k))=_;rw[seqK_mk (g:=fun E H=>R3sCutC8S cal O N (lk E 0) (lk E 1) (lk E 7) H) (R3sCutC8Eq cal O N (k:=(kR (resK [(.tmp 6)] []) k)) (fun _ _=>by kernel_rfl))];kernel_rfl
def R3sCutC10S (cal:CB)(O:Oracle)(N:Nat)(v0 v1 v2:IV)(H:Heap):OH :=
 ob (lbin .gtr v2 (.int .i64 65536)) fun t1 =>cnd t1
 (some ((.int .i64 27),H))
  (R3sCutC9S cal O N v0 v1 v2 H)
theorem R3sCutC10Eq (cal:CB)(O:Oracle)(N:Nat){k:KT (IV×Heap)}(hR:∀E H,k .ret E H=resK [(.tmp 6)] [] E H):∀(E:Sg) (H:Heap),lxK cal O N R3sCutC10 E H k=R3sCutC10S cal O N (lk E 0) (lk E 1) (lk E 2) H:=by
 have hk:k=(kR (resK [(.tmp 6)] []) k):=(kR_mk hR rfl);intro E H;rw[hk];show lxK cal O N X12K18 E H (seqK (lxK cal O N R3sCutC9) (kR (resK [(.tmp 6)] []) k))=_;rw[seqK_mk (g:=fun E H=>R3sCutC9S cal O N (lk E 0) (lk E 1) (lk E 2) H) (R3sCutC9Eq cal O N (k:=(kR (resK [(.tmp 6)] []) k)) (fun _ _=>by kernel_rfl))];kernel_rfl
def R3sCutC11S (cal:CB)(O:Oracle)(N:Nat)(v0 v1 v2:IV)(H:Heap):OH :=
 ob (lbin .lss v2 (.int .i64 0)) fun t1 =>cnd t1
 (some ((.int .i64 22),H))
  (R3sCutC10S cal O N v0 v1 v2 H)
theorem R3sCutC11Eq (cal:CB)(O:Oracle)(N:Nat){k:KT (IV×Heap)}(hR:∀E H,k .ret E H=resK [(.tmp 6)] [] E H):∀(E:Sg) (H:Heap),lxK cal O N R3sCutC11 E H k=R3sCutC11S cal O N (lk E 0) (lk E 1) (lk E 2) H:=by
 have hk:k=(kR (resK [(.tmp 6)] []) k):=(kR_mk hR rfl);intro E H;rw[hk];show lxK cal O N X12K19 E H (seqK (lxK cal O N R3sCutC10) (kR (resK [(.tmp 6)] []) k))=_;rw[seqK_mk (g:=fun E H=>R3sCutC10S cal O N (lk E 0) (lk E 1) (lk E 2) H) (R3sCutC10Eq cal O N (k:=(kR (resK [(.tmp 6)] []) k)) (fun _ _=>by kernel_rfl))];kernel_rfl
def R3sCutC12S (cal:CB)(O:Oracle)(N:Nat)(v0 v1 v2:IV)(H:Heap):OH :=
  R3sCutC11S cal O N v0 v1 v2 H
theorem R3sCutC12Eq (cal:CB)(O:Oracle)(N:Nat){k:KT (IV×Heap)}(hR:∀E H,k .ret E H=resK [(.tmp 6)] [] E H):∀(E:Sg) (H:Heap),lxK cal O N R3sCutC12 E H k=R3sCutC12S cal O N (lk E 0) (lk E 1) (lk E 2) H:=by
 have hk:k=(kR (resK [(.tmp 6)] []) k):=(kR_mk hR rfl);intro E H;rw[hk];show lxK cal O N (.reg [ qO 6 (.mv (k6 0))]) E H (seqK (lxK cal O N R3sCutC11) (kR (resK [(.tmp 6)] []) k))=_;rw[seqK_mk (g:=fun E H=>R3sCutC11S cal O N (lk E 0) (lk E 1) (lk E 2) H) (R3sCutC11Eq cal O N (k:=(kR (resK [(.tmp 6)] []) k)) (fun _ _=>by kernel_rfl))];kernel_rfl
def R3sCut :LFun:=⟨R3sCutC12,[(.tmp 6)],81⟩
def R3sCutS (cal:CB)(O:Oracle)(N:Nat)(v0 v1 v2:IV)(H:Heap):OH :=
  R3sCutC12S cal O N v0 v1 v2 H
theorem R3sCutEq (cal:CB)(O:Oracle)(N:Nat)(v0 v1 v2:IV)(H:Heap):lrunK cal O N (R3sCut) [v0,v1,v2] H=R3sCutS cal O N v0 v1 v2 H:=by
 show lxK cal O N R3sCutC12 (initFrom 0 [v0,v1,v2]) H (endK [(.tmp 6)])=_;exact R3sCutC12Eq cal O N (k:=(endK [(.tmp 6)])) (fun _ _=>by kernel_rfl) (initFrom 0 [v0,v1,v2]) H
end Go.Shade
namespace Go.Shade
def R5LessS (cal:CB)(O:Oracle)(N:Nat)(f0:FuncId)(v0 v1 v2 v3:IV)(H:Heap):OH :=
 ob (lchk v0) fun t1 =>ob (loff t1 1) fun t2 =>ob (lixa 201 9 t2 v1) fun t3 =>ob (loff t3 1) fun t4 =>ob (lload1 H t4) fun t5 =>ob (lbin .sub t5 v2) fun t6 =>ob (lchk v0) fun t7 =>ob (loff t7 1) fun t8 =>ob (lixa 201 9 t8 v1) fun t9 =>ob (loff t9 1) fun t10 =>ob (lstV H 1 t10 t6) fun r11 =>ob (lchk v0) fun t12 =>ob (loff t12 1) fun t13 =>ob (lixa 201 9 t13 v1) fun t14 =>ob (loff t14 2) fun t15 =>ob (lload1 r11.2 t15) fun t16 =>ob (lbin .sub t16 v3) fun t17 =>ob (lchk v0) fun t18 =>ob (loff t18 1) fun t19 =>ob (lixa 201 9 t19 v1) fun t20 =>ob (loff t20 2) fun t21 =>ob (lstV r11.2 1 t21 t17) fun r22 =>ob (lchk v0) fun t23 =>ob (loff t23 1) fun t24 =>ob (lixa 201 9 t24 v1) fun t25 =>ob (loff t25 1) fun t26 =>ob (lload1 r22.2 t26) fun t27 =>ob (lbin .eql t27 (.int .i64 0)) fun t28 =>ob (gq (isB t28 true) (some v0)) fun t29 =>ob (gq (isB t28 true) (some v1)) fun t30 =>ob (gq (isB t28 true) (lchk t29)) fun t31 =>ob (gq (isB t28 true) (loff t31 1)) fun t32 =>ob (gq (isB t28 true) (lixa 201 9 t32 t30)) fun t33 =>ob (gq (isB t28 true) (loff t33 2)) fun t34 =>ob (gq (isB t28 true) (lload1 r22.2 t34)) fun t35 =>ob (gq (isB t28 true) (lbin .eql t35 (.int .i64 0))) fun t36 =>ob (lpick t28 t36 (.bool false)) fun t37 =>cnd t37
 (ob (lchk v0) fun t38 =>ob (loff t38 0) fun t39 =>ob (lload1 r22.2 t39) fun t40 =>ob (lchk v0) fun t41 =>ob (loff t41 1) fun t42 =>ob (lixa 201 9 t42 v1) fun t43 =>ob (loff t43 5) fun t44 =>ob (O f0 [t40,t44,(.int .i64 0)] r22.2) fun r45 =>ob (lbld [(.int .i64 0),(.int .i64 0),(.int .i64 0),(.int .i64 0),(.int .i64 0),.nilSlice,.nilSlice,.nilSlice,(.str [])] []) fun t46 =>ob (lchk v0) fun t47 =>ob (loff t47 1) fun t48 =>ob (lixa 201 9 t48 v1) fun t49 =>ob (lstV r45.2 9 t49 t46) fun r50 =>some ((.tuple []),r50.2))
 (some ((.tuple []),r22.2))
def R5UnlinkS (cal:CB)(O:Oracle)(N:Nat)(f0 f1 f2 f3:FuncId)(v0 v1 v2:IV)(H:Heap):OH :=
 ob (O f0 [v0,v1,(.bool true)] H) fun r1 =>ob (lbin .neq r1.1 (.int .i64 0)) fun t2 =>cnd t2
 (some (r1.1,r1.2))
 (ob (O f1 [v0,v1,v2] r1.2) fun r3 =>ob (iextract r3.1 0) fun t4 =>ob (iextract r3.1 1) fun t5 =>ob (lbin .neq t5 (.int .i64 0)) fun t6 =>cnd t6
 (some (t5,r3.2))
 (ob (lchk v0) fun t7 =>ob (loff t7 1) fun t8 =>ob (lixa 201 9 t8 t4) fun t9 =>ob (loff t9 0) fun t10 =>ob (lload1 r3.2 t10) fun t11 =>ob (lbin .eql t11 (.int .i64 2)) fun t12 =>cnd t12
 (some ((.int .i64 21),r3.2))
 (ob (lchk v0) fun t13 =>ob (loff t13 1) fun t14 =>ob (lixa 201 9 t14 v1) fun t15 =>ob (loff t15 7) fun t16 =>ob (O f2 [t16,v2] r3.2) fun r17 =>ob (O f3 [v0,t4,(.int .i64 1),(.int .i64 0)] r17.2) fun r18 =>some ((.int .i64 0),r18.2))))
def X13K1 :LC:=.seq (.seq (.reg [ qM 8 7,qO 9 (.bin .lss (.t 8) (k6 300))]) (.cond (.t 9) .skip (.exit 0))) (.seq (.block 1 (.seq (.seq (.reg [ qM 12 1,qM 13 2,qO 14 (.bin .eql (.t 12) (.t 13))]) (.cond (.t 14) (.seq (.reg [ qO 6 (.mv (.k (.bool true)))]) .ret) .skip)) (.reg [ qM 15 0,qM 16 1,qO 17 (.chk (.t 15)),qO 18 (.off (.t 17) 1),qO 19 (.ixa 201 9 (.t 18) (.t 16)),qO 20 (.off (.t 19) 4),qO 21 (.ld1 (.t 20)),qM 1 21]))) (.reg [ qM 10 7,qO 11 (.bin .add (.t 10) (k6 1)),qM 7 11]))
def R5BelowC0 :LC:=.loop X13K1
def R5BelowC1 :LC:=.block 0 R5BelowC0
def R5BelowC2 :LC:=.seq (.reg [ qO 7 (.mv (k6 0))]) R5BelowC1
def R5BelowC3 :LC:=.seq R5BelowC2 (.seq (.reg [ qO 6 (.mv (.k (.bool false)))]) .ret)
def R5BelowC4 :LC:=.seq (.reg [ qO 6 (.mv (.k (.bool false)))]) R5BelowC3
def R5BelowC0S (cal:CB)(O:Oracle)(N:Nat)(gE0:Heap->OH):Nat->IV->IV->IV->IV->Heap->OH
 | 0,_,_,_,_,_=>none
 | n+1,v0,v1,v2,v7,H =>ob (lbin .lss v7 (.int .i64 300)) fun t1 =>cnd t1
  (ob (lbin .eql v1 v2) fun t2 =>cnd t2
  (some ((.bool true),H))
  (ob (lchk v0) fun t3 =>ob (loff t3 1) fun t4 =>ob (lixa 201 9 t4 v1) fun t5 =>ob (loff t5 4) fun t6 =>ob (lload1 H t6) fun t7 =>ob (lbin .add v7 (.int .i64 1)) fun t8 =>
   R5BelowC0S cal O N gE0 n v0 t7 v2 t8 H))
  (gE0 H)
theorem R5BelowC0Eq (cal:CB)(O:Oracle)(N:Nat){k:KT (IV×Heap)}(gE0:Heap->OH)(hgE0:∀E H,k (.exit 0) E H=gE0 H)(hR:∀E H,k .ret E H=resK [(.tmp 6)] [] E H):∀(n:Nat) (E:Sg) (H:Heap),itK (lxK cal O N X13K1) n E H k=R5BelowC0S cal O N gE0 n (lk E 0) (lk E 1) (lk E 2) (lk E 7) H:=by
 have hk:k=(kE 0 (fun E H=>gE0 H) (kR (resK [(.tmp 6)] []) k)):=(kE_mk hgE0 (kR_mk hR rfl));intro n
 induction n with
 | zero=>intro E H;rfl
 | succ n ih =>
  intro E H;rw[itK_succ,seqK_mk (g:=fun E H=>R5BelowC0S cal O N gE0 n (lk E 0) (lk E 1) (lk E 2) (lk E 7) H) ih,hk];kernel_rfl
def R5BelowC1S (cal:CB)(O:Oracle)(N:Nat)(gN:Heap->OH)(v0 v1 v2 v7:IV)(H:Heap):OH :=
  R5BelowC0S cal O N (fun H=>gN H) N v0 v1 v2 v7 H
theorem R5BelowC1Eq (cal:CB)(O:Oracle)(N:Nat){k:KT (IV×Heap)}(gN:Heap->OH)(hgN:∀E H,k .normal E H=gN H)(hR:∀E H,k .ret E H=resK [(.tmp 6)] [] E H):∀(E:Sg) (H:Heap),lxK cal O N R5BelowC1 E H k=R5BelowC1S cal O N gN (lk E 0) (lk E 1) (lk E 2) (lk E 7) H:=by
 have hk:k=(kN (fun E H=>gN H) (kR (resK [(.tmp 6)] []) k)):=(kN_mk hgN (kR_mk hR rfl));intro E H;rw[hk];show lxK cal O N R5BelowC0 E H (blockK 0 (kN (fun E H=>gN H) (kR (resK [(.tmp 6)] []) k)))=_;exact R5BelowC0Eq cal O N (k:=(blockK 0 (kN (fun E H=>gN H) (kR (resK [(.tmp 6)] []) k)))) gN (fun _ _=>by kernel_rfl) (fun _ _=>by kernel_rfl) N E H
def R5BelowC2S (cal:CB)(O:Oracle)(N:Nat)(gN:Heap->OH)(v0 v1 v2:IV)(H:Heap):OH :=
  R5BelowC1S cal O N (fun H=>gN H) v0 v1 v2 (.int .i64 0) H
theorem R5BelowC2Eq (cal:CB)(O:Oracle)(N:Nat){k:KT (IV×Heap)}(gN:Heap->OH)(hgN:∀E H,k .normal E H=gN H)(hR:∀E H,k .ret E H=resK [(.tmp 6)] [] E H):∀(E:Sg) (H:Heap),lxK cal O N R5BelowC2 E H k=R5BelowC2S cal O N gN (lk E 0) (lk E 1) (lk E 2) H:=by
 have hk:k=(kN (fun E H=>gN H) (kR (resK [(.tmp 6)] []) k)):=(kN_mk hgN (kR_mk hR rfl));intro E H;rw[hk];show lxK cal O N (.reg [ qO 7 (.mv (k6 0))]) E H (seqK (lxK cal O N R5BelowC1) (kN (fun E H=>gN H) (kR (resK [(.tmp 6)] []) k)))=_;rw[seqK_mk (g:=fun E H=>R5BelowC1S cal O N gN (lk E 0) (lk E 1) (lk E 2) (lk E 7) H) (R5BelowC1Eq cal O N (k:=(kN (fun E H=>gN H) (kR (resK [(.tmp 6)] []) k))) gN (fun _ _=>by kernel_rfl) (fun _ _=>by kernel_rfl))];kernel_rfl
def R5BelowC3S (cal:CB)(O:Oracle)(N:Nat)(v0 v1 v2:IV)(H:Heap):OH :=
  R5BelowC2S cal O N (fun H=>some ((.bool false),H)) v0 v1 v2 H
theorem R5BelowC3Eq (cal:CB)(O:Oracle)(N:Nat){k:KT (IV×Heap)}(hR:∀E H,k .ret E H=resK [(.tmp 6)] [] E H):∀(E:Sg) (H:Heap),lxK cal O N R5BelowC3 E H k=R5BelowC3S cal O N (lk E 0) (lk E 1) (lk E 2) H:=by
 have hk:k=(kR (resK [(.tmp 6)] []) k):=(kR_mk hR rfl);intro E H;rw[hk];show lxK cal O N R5BelowC2 E H (seqK (lxK cal O N (.seq (.reg [ qO 6 (.mv (.k (.bool false)))]) .ret)) (kR (resK [(.tmp 6)] []) k))=_;exact R5BelowC2Eq cal O N (k:=(seqK (lxK cal O N (.seq (.reg [ qO 6 (.mv (.k (.bool false)))]) .ret)) (kR (resK [(.tmp 6)] []) k))) (fun H=>some ((.bool false),H)) (fun _ _=>by kernel_rfl) (fun _ _=>by kernel_rfl) E H
def R5BelowC4S (cal:CB)(O:Oracle)(N:Nat)(v0 v1 v2:IV)(H:Heap):OH :=
  R5BelowC3S cal O N v0 v1 v2 H
theorem R5BelowC4Eq (cal:CB)(O:Oracle)(N:Nat){k:KT (IV×Heap)}(hR:∀E H,k .ret E H=resK [(.tmp 6)] [] E H):∀(E:Sg) (H:Heap),lxK cal O N R5BelowC4 E H k=R5BelowC4S cal O N (lk E 0) (lk E 1) (lk E 2) H:=by
 have hk:k=(kR (resK [(.tmp 6)] []) k):=(kR_mk hR rfl);intro E H;rw[hk];show lxK cal O N (.reg [ qO 6 (.mv (.k (.bool false)))]) E H (seqK (lxK cal O N R5BelowC3) (kR (resK [(.tmp 6)] []) k))=_;rw[seqK_mk (g:=fun E H=>R5BelowC3S cal O N (lk E 0) (lk E 1) (lk E 2) H) (R5BelowC3Eq cal O N (k:=(kR (resK [(.tmp 6)] []) k)) (fun _ _=>by kernel_rfl))];kernel_rfl
def R5Below :LFun:=⟨R5BelowC4,[(.tmp 6)],22⟩
def R5BelowS (cal:CB)(O:Oracle)(N:Nat)(v0 v1 v2:IV)(H:Heap):OH :=
  R5BelowC4S cal O N v0 v1 v2 H
theorem R5BelowEq (cal:CB)(O:Oracle)(N:Nat)(v0 v1 v2:IV)(H:Heap):lrunK cal O N (R5Below) [v0,v1,v2] H=R5BelowS cal O N v0 v1 v2 H:=by
 show lxK cal O N R5BelowC4 (initFrom 0 [v0,v1,v2]) H (endK [(.tmp 6)])=_;exact R5BelowC4Eq cal O N (k:=(endK [(.tmp 6)])) (fun _ _=>by kernel_rfl) (initFrom 0 [v0,v1,v2]) H
def R5RenameS (cal:CB)(O:Oracle)(N:Nat)(f0 f1 f2 f3 f4 f5 f6:FuncId)(v0 v1 v2 v3 v4:IV)(H:Heap):OH :=
 ob (O f0 [v0,v1,(.bool true)] H) fun r1 =>ob (lbin .neq r1.1 (.int .i64 0)) fun t2 =>cnd t2
 (some (r1.1,r1.2))
 (ob (O f1 [v0,v1,v2] r1.2) fun r3 =>ob (iextract r3.1 0) fun t4 =>ob (iextract r3.1 1) fun t5 =>ob (lbin .neq t5 (.int .i64 0)) fun t6 =>cnd t6
 (some (t5,r3.2))
 (ob (O f0 [v0,v3,(.bool true)] r3.2) fun r7 =>jn (fun(j9:IV) (H14:Heap) =>ob (lbin .neq j9 (.int .i64 0)) fun t15 =>cnd t15
 (some (j9,H14))
 (ob (lchk v0) fun t16 =>ob (loff t16 1) fun t17 =>ob (lixa 201 9 t17 t4) fun t18 =>ob (loff t18 0) fun t19 =>ob (lload1 H14 t19) fun t20 =>ob (lbin .eql t20 (.int .i64 2)) fun t21 =>ob (gq (isB t21 true) (some v0)) fun t22 =>ob (gq (isB t21 true) (some v3)) fun t23 =>ob (gq (isB t21 true) (some t4)) fun t24 =>ob (ge (isB t21 true) H14 (O f3 [t22,t23,t24] H14)) fun r25 =>ob (lpick t21 r25.1 (.bool false)) fun t26 =>cnd t26
 (some ((.int .i64 22),r25.2))
 (ob (O f1 [v0,v3,v4] r25.2) fun r27 =>ob (iextract r27.1 0) fun t28 =>ob (iextract r27.1 1) fun t29 =>jn (fun(H79:Heap) =>ob (lchk v0) fun t80 =>ob (loff t80 1) fun t81 =>ob (lixa 201 9 t81 v1) fun t82 =>ob (loff t82 7) fun t83 =>ob (O f4 [t83,v2] H79) fun r84 =>ob (lchk v0) fun t85 =>ob (loff t85 1) fun t86 =>ob (lixa 201 9 t86 v3) fun t87 =>ob (loff t87 7) fun t88 =>ob (O f6 [t88,v4,t4] r84.2) fun r89 =>jn (fun(H99:Heap) =>some ((.int .i64 0),H99)) fun J90 =>cnd t21
 (ob (lchk v0) fun t100 =>ob (loff t100 1) fun t101 =>ob (lixa 201 9 t101 t4) fun t102 =>ob (loff t102 4) fun t103 =>ob (lstV r89.2 1 t103 v3) fun r104 =>J90 r104.2)
 (J90 r89.2)) fun J30 =>ob (lbin .eql t29 (.int .i64 0)) fun t105 =>cnd t105
 (ob (lchk v0) fun t106 =>ob (loff t106 1) fun t107 =>ob (lixa 201 9 t107 t28) fun t108 =>ob (loff t108 0) fun t109 =>ob (lload1 r27.2 t109) fun t110 =>ob (lbin .eql t110 (.int .i64 2)) fun t111 =>ob (lbin .eql t28 t4) fun t112 =>cnd t112
 (some ((.int .i64 0),r27.2))
 (ob (gq (isB t111 true) (some t21)) fun t113 =>ob (gq (isB t111 true) (iun .not t113)) fun t114 =>ob (lpick t111 t114 (.bool false)) fun t115 =>cnd t115
 (some ((.int .i64 21),r27.2))
 (ob (iun .not t111) fun t116 =>ob (gq (isB t116 true) (some t21)) fun t117 =>ob (lpick t116 t117 (.bool false)) fun t118 =>cnd t118
 (some ((.int .i64 20),r27.2))
 (ob (gq (isB t111 true) (some v0)) fun t119 =>ob (gq (isB t111 true) (some t28)) fun t120 =>ob (gq (isB t111 true) (lchk t119)) fun t121 =>ob (gq (isB t111 true) (loff t121 1)) fun t122 =>ob (gq (isB t111 true) (lixa 201 9 t122 t120)) fun t123 =>ob (gq (isB t111 true) (loff t123 7)) fun t124 =>ob (gq (isB t111 true) (loff t124 0)) fun t125 =>ob (gq (isB t111 true) (lload1 r27.2 t125)) fun t126 =>ob (gq (isB t111 true) (llen r27.2 .slice t126)) fun t127 =>ob (gq (isB t111 true) (lbin .gtr t127 (.int .i64 0))) fun t128 =>ob (lpick t111 t128 (.bool false)) fun t129 =>cnd t129
 (some ((.int .i64 39),r27.2))
 (ob (lchk v0) fun t130 =>ob (loff t130 1) fun t131 =>ob (lixa 201 9 t131 v3) fun t132 =>ob (loff t132 7) fun t133 =>ob (O f4 [t133,v4] r27.2) fun r134 =>ob (O f5 [v0,t28,(.int .i64 1),(.int .i64 0)] r134.2) fun r135 =>J30 r135.2)))))
 (J30 r27.2)))) fun J8 =>ob (lbin .eql r7.1 (.int .i64 0)) fun t136 =>cnd t136
 (ob (O f2 [v4] r7.2) fun r137 =>J8 r137.1 r137.2)
 (J8 r7.1 r7.2)))
def R5FileS (cal:CB)(O:Oracle)(N:Nat)(f0:FuncId)(v0 v1:IV)(H:Heap):OH :=
 ob (O f0 [v0,v1] H) fun r1 =>ob (lbin .eql r1.1 (.int .i64 0)) fun t2 =>cnd t2
 (some ((.int .i64 2),r1.2))
 (ob (lbin .eql r1.1 (.int .i64 2)) fun t3 =>cnd t3
 (some ((.int .i64 21),r1.2))
 (ob (lbin .eql r1.1 (.int .i64 1)) fun t4 =>cnd t4
 (some ((.int .i64 0),r1.2))
 (some ((.int .i64 22),r1.2))))
def R3bThereS (cal:CB)(O:Oracle)(N:Nat)(v0 v1:IV)(H:Heap):OH :=
 ob (lchk v0) fun t1 =>ob (loff t1 1) fun t2 =>ob (lload1 H t2) fun t3 =>ob (llen H .slice t3) fun t4 =>ob (lbin .lss v1 t4) fun t5 =>ob (gq (isB t5 true) (some v0)) fun t6 =>ob (gq (isB t5 true) (lchk t6)) fun t7 =>ob (gq (isB t5 true) (loff t7 1)) fun t8 =>ob (gq (isB t5 true) (lload1 H t8)) fun t9 =>ob (gq (isB t5 true) (some v1)) fun t10 =>ob (gq (isB t5 true) (lix 1 t9 t10)) fun t11 =>ob (gq (isB t5 true) (lload1 H t11)) fun t12 =>ob (lpick t5 t12 (.bool false)) fun t13 =>some (t13,H)
def X13K3 :LC:=.seq (.seq (.reg [ qM 4 0,qO 5 (.chk (.t 4)),qO 6 (.off (.t 5) 1),qO 7 (.ld1 (.t 6)),qO 8 (.len .slice (.t 7)),qM 9 1,qO 10 (.bin .leq (.t 8) (.t 9))]) (.cond (.t 10) .skip (.exit 0))) (.block 1 (.reg [ qM 11 0,qM 12 0,qO 13 (.chk (.t 12)),qO 14 (.off (.t 13) 1),qO 15 (.ld1 (.t 14)),qO 16 (.bldS 1 1 [(.bool false)] [(0,(.k (.bool false)))]),qO 17 (.app 1 1 (.t 15) (.t 16)),qO 18 (.chk (.t 11)),qO 19 (.off (.t 18) 1),⟨none,(.st 1 (.t 19) (.t 17)),none⟩]))
def R3bLayC0 :LC:=.loop X13K3
def R3bLayC1 :LC:=.block 0 R3bLayC0
def X13K8 :LC:=.reg [ qM 20 0,qO 21 (.chk (.t 20)),qO 22 (.off (.t 21) 1),qO 23 (.ld1 (.t 22)),qM 24 1,qO 25 (.ix 1 (.t 23) (.t 24)),⟨none,(.st 1 (.t 25) (.k (.bool true))),none⟩]
def R3bLayC2 :LC:=.seq R3bLayC1 X13K8
def R3bLayC0S (cal:CB)(O:Oracle)(N:Nat)(gE0:IV->IV->Heap->OH):Nat->IV->IV->Heap->OH
 | 0,_,_,_=>none
 | n+1,v0,v1,H =>ob (lchk v0) fun t1 =>ob (loff t1 1) fun t2 =>ob (lload1 H t2) fun t3 =>ob (llen H .slice t3) fun t4 =>ob (lbin .leq t4 v1) fun t5 =>cnd t5
  (ob (lchk v0) fun t6 =>ob (loff t6 1) fun t7 =>ob (lload1 H t7) fun t8 =>ob (lbldS H 1 1 [(.bool false)] [(0,(.bool false))]) fun r9 =>ob (lapp r9.2 1 1 t8 r9.1) fun r10 =>ob (lchk v0) fun t11 =>ob (loff t11 1) fun t12 =>ob (lstV r10.2 1 t12 r10.1) fun r13 =>
   R3bLayC0S cal O N gE0 n v0 v1 r13.2)
  (gE0 v0 v1 H)
theorem R3bLayC0Eq (cal:CB)(O:Oracle)(N:Nat){k:KT (IV×Heap)}(gE0:IV->IV->Heap->OH)(hgE0:∀E H,k (.exit 0) E H=gE0 (lk E 0) (lk E 1) H):∀(n:Nat) (E:Sg) (H:Heap),itK (lxK cal O N X13K3) n E H k=R3bLayC0S cal O N gE0 n (lk E 0) (lk E 1) H:=by
 have hk:k=(kE 0 (fun E H=>gE0 (lk E 0) (lk E 1) H) k):=(kE_mk hgE0 rfl);intro n
 induction n with
 | zero=>intro E H;rfl
 | succ n ih =>
  intro E H;rw[itK_succ,seqK_mk (g:=fun E H=>R3bLayC0S cal O N gE0 n (lk E 0) (lk E 1) H) ih,hk];kernel_rfl
def R3bLayC1S (cal:CB)(O:Oracle)(N:Nat)(gN:IV->IV->Heap->OH)(v0 v1:IV)(H:Heap):OH :=
  R3bLayC0S cal O N (fun v0 v1 H=>gN v0 v1 H) N v0 v1 H
theorem R3bLayC1Eq (cal:CB)(O:Oracle)(N:Nat){k:KT (IV×Heap)}(gN:IV->IV->Heap->OH)(hgN:∀E H,k .normal E H=gN (lk E 0) (lk E 1) H):∀(E:Sg) (H:Heap),lxK cal O N R3bLayC1 E H k=R3bLayC1S cal O N gN (lk E 0) (lk E 1) H:=by
 have hk:k=(kN (fun E H=>gN (lk E 0) (lk E 1) H) k):=(kN_mk hgN rfl);intro E H;rw[hk];show lxK cal O N R3bLayC0 E H (blockK 0 (kN (fun E H=>gN (lk E 0) (lk E 1) H) k))=_;exact R3bLayC0Eq cal O N (k:=(blockK 0 (kN (fun E H=>gN (lk E 0) (lk E 1) H) k))) gN (fun _ _=>by kernel_rfl) N E H
def R3bLayC2S (cal:CB)(O:Oracle)(N:Nat)(gN:Heap->OH)(v0 v1:IV)(H:Heap):OH :=
  R3bLayC1S cal O N (fun v0 v1 H=>ob (lchk v0) fun t1 =>ob (loff t1 1) fun t2 =>ob (lload1 H t2) fun t3 =>ob (lix 1 t3 v1) fun t4 =>ob (lstV H 1 t4 (.bool true)) fun r5 =>
 gN r5.2) v0 v1 H
theorem R3bLayC2Eq (cal:CB)(O:Oracle)(N:Nat){k:KT (IV×Heap)}(gN:Heap->OH)(hgN:∀E H,k .normal E H=gN H):∀(E:Sg) (H:Heap),lxK cal O N R3bLayC2 E H k=R3bLayC2S cal O N gN (lk E 0) (lk E 1) H:=by
 have hk:k=(kN (fun E H=>gN H) k):=(kN_mk hgN rfl);intro E H;rw[hk];show lxK cal O N R3bLayC1 E H (seqK (lxK cal O N X13K8) (kN (fun E H=>gN H) k))=_;exact R3bLayC1Eq cal O N (k:=(seqK (lxK cal O N X13K8) (kN (fun E H=>gN H) k))) (fun v0 v1 H=>ob (lchk v0) fun t1 =>ob (loff t1 1) fun t2 =>ob (lload1 H t2) fun t3 =>ob (lix 1 t3 v1) fun t4 =>ob (lstV H 1 t4 (.bool true)) fun r5 =>
gN r5.2) (fun _ _=>by kernel_rfl) E H
def R3bLay :LFun:=⟨R3bLayC2,[],26⟩
def R3bLayS (cal:CB)(O:Oracle)(N:Nat)(v0 v1:IV)(H:Heap):OH :=
  R3bLayC2S cal O N (fun H=>some ((.tuple []),H)) v0 v1 H
theorem R3bLayEq (cal:CB)(O:Oracle)(N:Nat)(v0 v1:IV)(H:Heap):lrunK cal O N (R3bLay) [v0,v1] H=R3bLayS cal O N v0 v1 H:=by
 show lxK cal O N R3bLayC2 (initFrom 0 [v0,v1]) H (endK [])=_;exact R3bLayC2Eq cal O N (k:=(endK [])) (fun H=>some ((.tuple []),H)) (fun _ _=>by kernel_rfl) (initFrom 0 [v0,v1]) H
def X13K2 :LC:=.seq (.seq (.reg [ qM 57 1,qO 58 (.chk (.t 57)),qO 59 (.off (.t 58) 0),qO 60 (.ld1 (.t 59)),qO 61 (.len .slice (.t 60)),qM 62 11,qO 63 (.bin .leq (.t 61) (.t 62))]) (.cond (.t 63) .skip (.exit 2))) (.block 3 (.reg [ qM 64 1,qM 65 1,qO 66 (.chk (.t 65)),qO 67 (.off (.t 66) 0),qO 68 (.ld1 (.t 67)),qO 69 (.bldS 1 1 [(.int .u8 0)] [(0,(.k (.int .u8 0)))]),qO 70 (.app 1 1 (.t 68) (.t 69)),qO 71 (.chk (.t 64)),qO 72 (.off (.t 71) 0),⟨none,(.st 1 (.t 72) (.t 70)),none⟩]))
def R3sWriteC0 (f0 f1:FuncId):LC:=.loop X13K2
def R3sWriteC1 (f0 f1:FuncId):LC:=.block 2 (R3sWriteC0 f0 f1)
def X13K4 :LC:=.seq (.drw [ qM 73 1,qO 74 (.chk (.t 73)),qO 75 (.off (.t 74) 0),qO 76 (.ld1 (.t 75)),qM 77 11,qM 78 3,qM 79 10,qO 80 (.ix 1 (.t 78) (.t 79)),qO 81 (.ld1 (.t 80)),qO 82 (.ix 1 (.t 76) (.t 77)),⟨none,(.st 1 (.t 82) (.t 81)),none⟩] []) (.reg [ qM 83 10,qO 84 (.bin .add (.t 83) (k6 1)),qM 10 84])
def R3sWriteC2 (f0 f1:FuncId):LC:=.seq (R3sWriteC1 f0 f1) X13K4
def X13K0 (f0 f1:FuncId):LC:=.seq (.reg [ qM 32 1,qM 33 11,qO 34 (.bin .quo (.t 33) (k6 16)),qO 35 (.callF f0 [(.t 32),(.t 34)]),qO 36 (.un .not (.t 35))]) (.cond (.t 36) (.seq (.seq (.drw [ qM 37 0,qO 38 (.chk (.t 37)),qO 39 (.off (.t 38) 1),qO 40 (.ld1 (.t 39)),qM 41 0,qO 42 (.chk (.t 41)),qO 43 (.off (.t 42) 0),qO 44 (.ld1 (.t 43)),qO 45 (.bin .eql (.t 40) (.t 44))] []) (.cond (.t 45) (.exit 0) .skip)) (.seq (.reg [ qM 46 0,qO 47 (.chk (.t 46)),qO 48 (.off (.t 47) 1),qO 49 (.ld1 (.t 48)),qO 50 (.bin .add (.t 49) (k6 1)),qO 51 (.chk (.t 46)),qO 52 (.off (.t 51) 1),⟨none,(.st 1 (.t 52) (.t 50)),none⟩]) (.reg [ qM 53 1,qM 54 11,qO 55 (.bin .quo (.t 54) (k6 16)),qO 56 (.callF f1 [(.t 53),(.t 55)])]))) .skip)
def R3sWriteC3 (f0 f1:FuncId):LC:=.seq (X13K0 f0 f1) (R3sWriteC2 f0 f1)
def X13K11 :LC:=.reg [ qM 29 2,qM 30 10,qO 31 (.bin .add (.t 29) (.t 30)),qM 11 31]
def R3sWriteC4 (f0 f1:FuncId):LC:=.seq X13K11 (R3sWriteC3 f0 f1)
def R3sWriteC5 (f0 f1:FuncId):LC:=.block 1 (R3sWriteC4 f0 f1)
def X13K5 :LC:=.seq (.reg [ qM 19 10,qM 20 3,qO 21 (.len .slice (.t 20)),qO 22 (.bin .lss (.t 19) (.t 21)),qM 23 22,⟨(some 24),(.mv (.t 2)),(some (23,true))⟩,⟨(some 25),(.mv (.t 10)),(some (23,true))⟩,⟨(some 26),(.bin .add (.t 24) (.t 25)),(some (23,true))⟩,⟨(some 27),(.bin .lss (.t 26) (k6 65536)),(some (23,true))⟩,qO 28 (.pick (.t 23) (.t 27) (.k (.bool false)))]) (.cond (.t 28) .skip (.exit 0))
def R3sWriteC6 (f0 f1:FuncId):LC:=.seq X13K5 (R3sWriteC5 f0 f1)
def R3sWriteC7 (f0 f1:FuncId):LC:=.loop (R3sWriteC6 f0 f1)
def R3sWriteC8 (f0 f1:FuncId):LC:=.block 0 (R3sWriteC7 f0 f1)
def X13K6 :LC:=.seq (.seq (.reg [ qM 85 10,qO 86 (.bin .eql (.t 85) (k6 0))]) (.cond (.t 86) (.seq (.reg [ qO 8 (.mv (k6 0)),qO 9 (.mv (k6 28))]) .ret) .skip)) (.seq (.reg [ qM 87 10,qM 8 87,qO 9 (.mv (k6 0))]) .ret)
def R3sWriteC9 (f0 f1:FuncId):LC:=.seq (R3sWriteC8 f0 f1) X13K6
def R3sWriteC10 (f0 f1:FuncId):LC:=.seq (.reg [ qO 10 (.mv (k6 0))]) (R3sWriteC9 f0 f1)
def X13K9 :LC:=.seq (.reg [ qM 17 2,qO 18 (.bin .geq (.t 17) (k6 65536))]) (.cond (.t 18) (.seq (.reg [ qO 8 (.mv (k6 0)),qO 9 (.mv (k6 27))]) .ret) .skip)
def R3sWriteC11 (f0 f1:FuncId):LC:=.seq X13K9 (R3sWriteC10 f0 f1)
def X13K12 :LC:=.reg [ qO 8 (.mv (k6 0)),qO 9 (.mv (k6 0))]
def X13K7 :LC:=.seq (.reg [ qM 14 3,qO 15 (.len .slice (.t 14)),qO 16 (.bin .eql (.t 15) (k6 0))]) (.cond (.t 16) (.seq X13K12 .ret) .skip)
def R3sWriteC12 (f0 f1:FuncId):LC:=.seq X13K7 (R3sWriteC11 f0 f1)
def X13K10 :LC:=.seq (.reg [ qM 12 2,qO 13 (.bin .lss (.t 12) (k6 0))]) (.cond (.t 13) (.seq (.reg [ qO 8 (.mv (k6 0)),qO 9 (.mv (k6 22))]) .ret) .skip)
def R3sWriteC13 (f0 f1:FuncId):LC:=.seq X13K10 (R3sWriteC12 f0 f1)
def R3sWriteC14 (f0 f1:FuncId):LC:=.seq X13K12 (R3sWriteC13 f0 f1)
def R3sWriteC0S (cal:CB)(O:Oracle)(N:Nat)(f0 f1:FuncId)(gE2:IV->IV->IV->IV->IV->IV->Heap->OH):Nat->IV->IV->IV->IV->IV->IV->Heap->OH
 | 0,_,_,_,_,_,_,_=>none
 | n+1,v0,v1,v2,v3,v10,v11,H =>ob (lchk v1) fun t1 =>ob (loff t1 0) fun t2 =>ob (lload1 H t2) fun t3 =>ob (llen H .slice t3) fun t4 =>ob (lbin .leq t4 v11) fun t5 =>cnd t5
  (ob (lchk v1) fun t6 =>ob (loff t6 0) fun t7 =>ob (lload1 H t7) fun t8 =>ob (lbldS H 1 1 [(.int .u8 0)] [(0,(.int .u8 0))]) fun r9 =>ob (lapp r9.2 1 1 t8 r9.1) fun r10 =>ob (lchk v1) fun t11 =>ob (loff t11 0) fun t12 =>ob (lstV r10.2 1 t12 r10.1) fun r13 =>
   R3sWriteC0S cal O N f0 f1 gE2 n v0 v1 v2 v3 v10 v11 r13.2)
  (gE2 v0 v1 v2 v3 v10 v11 H)
theorem R3sWriteC0Eq (cal:CB)(O:Oracle)(N:Nat)(f0 f1:FuncId){k:KT (IV×Heap)}(gE2:IV->IV->IV->IV->IV->IV->Heap->OH)(hgE2:∀E H,k (.exit 2) E H=gE2 (lk E 0) (lk E 1) (lk E 2) (lk E 3) (lk E 10) (lk E 11) H):∀(n:Nat) (E:Sg) (H:Heap),itK (lxK cal O N X13K2) n E H k=R3sWriteC0S cal O N f0 f1 gE2 n (lk E 0) (lk E 1) (lk E 2) (lk E 3) (lk E 10) (lk E 11) H:=by
 have hk:k=(kE 2 (fun E H=>gE2 (lk E 0) (lk E 1) (lk E 2) (lk E 3) (lk E 10) (lk E 11) H) k):=(kE_mk hgE2 rfl);intro n
 induction n with
 | zero=>intro E H;rfl
 | succ n ih =>
  intro E H;rw[itK_succ,seqK_mk (g:=fun E H=>R3sWriteC0S cal O N f0 f1 gE2 n (lk E 0) (lk E 1) (lk E 2) (lk E 3) (lk E 10) (lk E 11) H) ih,hk];kernel_rfl
def R3sWriteC1S (cal:CB)(O:Oracle)(N:Nat)(f0 f1:FuncId)(gN:IV->IV->IV->IV->IV->IV->Heap->OH)(v0 v1 v2 v3 v10 v11:IV)(H:Heap):OH :=
  R3sWriteC0S cal O N f0 f1 (fun v0 v1 v2 v3 v10 v11 H=>gN v0 v1 v2 v3 v10 v11 H) N v0 v1 v2 v3 v10 v11 H
theorem R3sWriteC1Eq (cal:CB)(O:Oracle)(N:Nat)(f0 f1:FuncId){k:KT (IV×Heap)}(gN:IV->IV->IV->IV->IV->IV->Heap->OH)(hgN:∀E H,k .normal E H=gN (lk E 0) (lk E 1) (lk E 2) (lk E 3) (lk E 10) (lk E 11) H):∀(E:Sg) (H:Heap),lxK cal O N (R3sWriteC1 f0 f1) E H k=R3sWriteC1S cal O N f0 f1 gN (lk E 0) (lk E 1) (lk E 2) (lk E 3) (lk E 10) (lk E 11) H:=by
 have hk:k=(kN (fun E H=>gN (lk E 0) (lk E 1) (lk E 2) (lk E 3) (lk E 10) (lk E 11) H) k):=(kN_mk hgN rfl);intro E H;rw[hk];show lxK cal O N (R3sWriteC0 f0 f1) E H (blockK 2 (kN (fun E H=>gN (lk E 0) (lk E 1) (lk E 2) (lk E 3) (lk E 10) (lk E 11) H) k))=_;exact R3sWriteC0Eq cal O N f0 f1 (k:=(blockK 2 (kN (fun E H=>gN (lk E 0) (lk E 1) (lk E 2) (lk E 3) (lk E 10) (lk E 11) H) k))) gN (fun _ _=>by kernel_rfl) N E H
def R3sWriteC2S (cal:CB)(O:Oracle)(N:Nat)(f0 f1:FuncId)(gN:IV->IV->IV->IV->IV->Heap->OH)(v0 v1 v2 v3 v10 v11:IV)(H:Heap):OH :=
  R3sWriteC1S cal O N f0 f1 (fun v0 v1 v2 v3 v10 v11 H=>ob (lchk v1) fun t1 =>ob (loff t1 0) fun t2 =>ob (lload1 H t2) fun t3 =>ob (lix 1 v3 v10) fun t4 =>ob (lload1 H t4) fun t5 =>ob (lix 1 t3 v11) fun t6 =>ob (lstV H 1 t6 t5) fun r7 =>ob (lbin .add v10 (.int .i64 1)) fun t8 =>
 gN v0 v1 v2 v3 t8 r7.2) v0 v1 v2 v3 v10 v11 H
theorem R3sWriteC2Eq (cal:CB)(O:Oracle)(N:Nat)(f0 f1:FuncId){k:KT (IV×Heap)}(gN:IV->IV->IV->IV->IV->Heap->OH)(hgN:∀E H,k .normal E H=gN (lk E 0) (lk E 1) (lk E 2) (lk E 3) (lk E 10) H):∀(E:Sg) (H:Heap),lxK cal O N (R3sWriteC2 f0 f1) E H k=R3sWriteC2S cal O N f0 f1 gN (lk E 0) (lk E 1) (lk E 2) (lk E 3) (lk E 10) (lk E 11) H:=by
 have hk:k=(kN (fun E H=>gN (lk E 0) (lk E 1) (lk E 2) (lk E 3) (lk E 10) H) k):=(kN_mk hgN rfl);intro E H;rw[hk];show lxK cal O N (R3sWriteC1 f0 f1) E H (seqK (lxK cal O N X13K4) (kN (fun E H=>gN (lk E 0) (lk E 1) (lk E 2) (lk E 3) (lk E 10) H) k))=_;exact R3sWriteC1Eq cal O N f0 f1 (k:=(seqK (lxK cal O N X13K4) (kN (fun E H=>gN (lk E 0) (lk E 1) (lk E 2) (lk E 3) (lk E 10) H) k))) (fun v0 v1 v2 v3 v10 v11 H=>ob (lchk v1) fun t1 =>ob (loff t1 0) fun t2 =>ob (lload1 H t2) fun t3 =>ob (lix 1 v3 v10) fun t4 =>ob (lload1 H t4) fun t5 =>ob (lix 1 t3 v11) fun t6 =>ob (lstV H 1 t6 t5) fun r7 =>ob (lbin .add v10 (.int .i64 1)) fun t8 =>
gN v0 v1 v2 v3 t8 r7.2) (fun _ _=>by kernel_rfl) E H
def R3sWriteC3S (cal:CB)(O:Oracle)(N:Nat)(f0 f1:FuncId)(gE0:IV->Heap->OH)(gN:IV->IV->IV->IV->IV->Heap->OH)(v0 v1 v2 v3 v10 v11:IV)(H:Heap):OH :=
 ob (lbin .quo v11 (.int .i64 16)) fun t1 =>ob (O f0 [v1,t1] H) fun r2 =>ob (iun .not r2.1) fun t3 =>cnd t3
 (ob (lchk v0) fun t4 =>ob (loff t4 1) fun t5 =>ob (lload1 r2.2 t5) fun t6 =>ob (lchk v0) fun t7 =>ob (loff t7 0) fun t8 =>ob (lload1 r2.2 t8) fun t9 =>ob (lbin .eql t6 t9) fun t10 =>cnd t10
 (gE0 v10 r2.2)
 (ob (lchk v0) fun t11 =>ob (loff t11 1) fun t12 =>ob (lload1 r2.2 t12) fun t13 =>ob (lbin .add t13 (.int .i64 1)) fun t14 =>ob (lchk v0) fun t15 =>ob (loff t15 1) fun t16 =>ob (lstV r2.2 1 t16 t14) fun r17 =>ob (lbin .quo v11 (.int .i64 16)) fun t18 =>ob (O f1 [v1,t18] r17.2) fun r19 =>
  R3sWriteC2S cal O N f0 f1 (fun v0 v1 v2 v3 v10 H=>gN v0 v1 v2 v3 v10 H) v0 v1 v2 v3 v10 v11 r19.2))
  (R3sWriteC2S cal O N f0 f1 (fun v0 v1 v2 v3 v10 H=>gN v0 v1 v2 v3 v10 H) v0 v1 v2 v3 v10 v11 r2.2)
theorem R3sWriteC3Eq (cal:CB)(O:Oracle)(N:Nat)(f0 f1:FuncId){k:KT (IV×Heap)}(gE0:IV->Heap->OH)(gN:IV->IV->IV->IV->IV->Heap->OH)(hgE0:∀E H,k (.exit 0) E H=gE0 (lk E 10) H)(hgN:∀E H,k .normal E H=gN (lk E 0) (lk E 1) (lk E 2) (lk E 3) (lk E 10) H):∀(E:Sg) (H:Heap),lxK cal O N (R3sWriteC3 f0 f1) E H k=R3sWriteC3S cal O N f0 f1 gE0 gN (lk E 0) (lk E 1) (lk E 2) (lk E 3) (lk E 10) (lk E 11) H:=by
 have hk:k=(kN (fun E H=>gN (lk E 0) (lk E 1) (lk E 2) (lk E 3) (lk E 10) H) (kE 0 (fun E H=>gE0 (lk E 10) H) k)):=(kN_mk hgN (kE_mk hgE0 rfl));intro E H;rw[hk];show lxK cal O N (X13K0 f0 f1) E H (seqK (lxK cal O N (R3sWriteC2 f0 f1)) (kN (fun E H=>gN (lk E 0) (lk E 1) (lk E 2) (lk E 3) (lk E 10) H) (kE 0 (fun E H=>gE0 (lk E 10) H) k)))=_;rw[seqK_mk (g:=fun E H=>R3sWriteC2S cal O N f0 f1 gN (lk E 0) (lk E 1) (lk E 2) (lk E 3) (lk E 10) (lk E 11) H) (R3sWriteC2Eq cal O N f0 f1 (k:=(kN (fun E H=>gN (lk E 0) (lk E 1) (lk E 2) (lk E 3) (lk E 10) H) (kE 0 (fun E H=>gE0 (lk E 10) H) k))) gN (fun _ _=>by kernel_rfl))];kernel_rfl
def R3sWriteC4S (cal:CB)(O:Oracle)(N:Nat)(f0 f1:FuncId)(gE0:IV->Heap->OH)(gN:IV->IV->IV->IV->IV->Heap->OH)(v0 v1 v2 v3 v10:IV)(H:Heap):OH :=
 ob (lbin .add v2 v10) fun t1 =>
  R3sWriteC3S cal O N f0 f1 (fun v10 H=>gE0 v10 H) (fun v0 v1 v2 v3 v10 H=>gN v0 v1 v2 v3 v10 H) v0 v1 v2 v3 v10 t1 H
theorem R3sWriteC4Eq (cal:CB)(O:Oracle)(N:Nat)(f0 f1:FuncId){k:KT (IV×Heap)}(gE0:IV->Heap->OH)(gN:IV->IV->IV->IV->IV->Heap->OH)(hgE0:∀E H,k (.exit 0) E H=gE0 (lk E 10) H)(hgN:∀E H,k .normal E H=gN (lk E 0) (lk E 1) (lk E 2) (lk E 3) (lk E 10) H):∀(E:Sg) (H:Heap),lxK cal O N (R3sWriteC4 f0 f1) E H k=R3sWriteC4S cal O N f0 f1 gE0 gN (lk E 0) (lk E 1) (lk E 2) (lk E 3) (lk E 10) H:=by
 have hk:k=(kN (fun E H=>gN (lk E 0) (lk E 1) (lk E 2) (lk E 3) (lk E 10) H) (kE 0 (fun E H=>gE0 (lk E 10) H) k)):=(kN_mk hgN (kE_mk hgE0 rfl));intro E H;rw[hk];show lxK cal O N X13K11 E H (seqK (lxK cal O N (R3sWriteC3 f0 f1)) (kN (fun E H=>gN (lk E 0) (lk E 1) (lk E 2) (lk E 3) (lk E 10) H) (kE 0 (fun E H=>gE0 (lk E 10) H) k)))=_;rw[seqK_mk (g:=fun E H=>R3sWriteC3S cal O N f0 f1 gE0 gN (lk E 0) (lk E 1) (lk E 2) (lk E 3) (lk E 10) (lk E 11) H) (R3sWriteC3Eq cal O N f0 f1 (k:=(kN (fun E H=>gN (lk E 0) (lk E 1) (lk E 2) (lk E 3) (lk E 10) H) (kE 0 (fun E H=>gE0 (lk E 10) H) k))) gE0 gN (fun _ _=>by kernel_rfl) (fun _ _=>by kernel_rfl))];kernel_rfl
def R3sWriteC5S (cal:CB)(O:Oracle)(N:Nat)(f0 f1:FuncId)(gE0:IV->Heap->OH)(gN:IV->IV->IV->IV->IV->Heap->OH)(v0 v1 v2 v3 v10:IV)(H:Heap):OH :=
  R3sWriteC4S cal O N f0 f1 (fun v10 H=>gE0 v10 H) (fun v0 v1 v2 v3 v10 H=>gN v0 v1 v2 v3 v10 H) v0 v1 v2 v3 v10 H
theorem R3sWriteC5Eq (cal:CB)(O:Oracle)(N:Nat)(f0 f1:FuncId){k:KT (IV×Heap)}(gE0:IV->Heap->OH)(gN:IV->IV->IV->IV->IV->Heap->OH)(hgE0:∀E H,k (.exit 0) E H=gE0 (lk E 10) H)(hgN:∀E H,k .normal E H=gN (lk E 0) (lk E 1) (lk E 2) (lk E 3) (lk E 10) H):∀(E:Sg) (H:Heap),lxK cal O N (R3sWriteC5 f0 f1) E H k=R3sWriteC5S cal O N f0 f1 gE0 gN (lk E 0) (lk E 1) (lk E 2) (lk E 3) (lk E 10) H:=by
 have hk:k=(kN (fun E H=>gN (lk E 0) (lk E 1) (lk E 2) (lk E 3) (lk E 10) H) (kE 0 (fun E H=>gE0 (lk E 10) H) k)):=(kN_mk hgN (kE_mk hgE0 rfl));intro E H;rw[hk];show lxK cal O N (R3sWriteC4 f0 f1) E H (blockK 1 (kN (fun E H=>gN (lk E 0) (lk E 1) (lk E 2) (lk E 3) (lk E 10) H) (kE 0 (fun E H=>gE0 (lk E 10) H) k)))=_;exact R3sWriteC4Eq cal O N f0 f1 (k:=(blockK 1 (kN (fun E H=>gN (lk E 0) (lk E 1) (lk E 2) (lk E 3) (lk E 10) H) (kE 0 (fun E H=>gE0 (lk E 10) H) k)))) gE0 gN (fun _ _=>by kernel_rfl) (fun _ _=>by kernel_rfl) E H
def R3sWriteC6S (cal:CB)(O:Oracle)(N:Nat)(f0 f1:FuncId)(gE0:IV->Heap->OH)(gN:IV->IV->IV->IV->IV->Heap->OH)(v0 v1 v2 v3 v10:IV)(H:Heap):OH :=
 ob (llen H .slice v3) fun t1 =>ob (lbin .lss v10 t1) fun t2 =>ob (gq (isB t2 true) (some v2)) fun t3 =>ob (gq (isB t2 true) (some v10)) fun t4 =>ob (gq (isB t2 true) (lbin .add t3 t4)) fun t5 =>ob (gq (isB t2 true) (lbin .lss t5 (.int .i64 65536))) fun t6 =>ob (lpick t2 t6 (.bool false)) fun t7 =>cnd t7
  (R3sWriteC5S cal O N f0 f1 (fun v10 H=>gE0 v10 H) (fun v0 v1 v2 v3 v10 H=>gN v0 v1 v2 v3 v10 H) v0 v1 v2 v3 v10 H)
 (gE0 v10 H)
theorem R3sWriteC6Eq (cal:CB)(O:Oracle)(N:Nat)(f0 f1:FuncId){k:KT (IV×Heap)}(gE0:IV->Heap->OH)(gN:IV->IV->IV->IV->IV->Heap->OH)(hgE0:∀E H,k (.exit 0) E H=gE0 (lk E 10) H)(hgN:∀E H,k .normal E H=gN (lk E 0) (lk E 1) (lk E 2) (lk E 3) (lk E 10) H):∀(E:Sg) (H:Heap),lxK cal O N (R3sWriteC6 f0 f1) E H k=R3sWriteC6S cal O N f0 f1 gE0 gN (lk E 0) (lk E 1) (lk E 2) (lk E 3) (lk E 10) H:=by
 have hk:k=(kN (fun E H=>gN (lk E 0) (lk E 1) (lk E 2) (lk E 3) (lk E 10) H) (kE 0 (fun E H=>gE0 (lk E 10) H) k)):=(kN_mk hgN (kE_mk hgE0 rfl));intro E H;rw[hk];show lxK cal O N X13K5 E H (seqK (lxK cal O N (R3sWriteC5 f0 f1)) (kN (fun E H=>gN (lk E 0) (lk E 1) (lk E 2) (lk E 3) (lk E 10) H) (kE 0 (fun E H=>gE0 (lk E 10) H) k)))=_;rw[seqK_mk (g:=fun E H=>R3sWriteC5S cal O N f0 f1 gE0 gN (lk E 0) (lk E 1) (lk E 2) (lk E 3) (lk E 10) H) (R3sWriteC5Eq cal O N f0 f1 (k:=(kN (fun E H=>gN (lk E 0) (lk E 1) (lk E 2) (lk E 3) (lk E 10) H) (kE 0 (fun E H=>gE0 (lk E 10) H) k))) gE0 gN (fun _ _=>by kernel_rfl) (fun _ _=>by kernel_rfl))];kernel_rfl
def R3sWriteC7S (cal:CB)(O:Oracle)(N:Nat)(f0 f1:FuncId)(gE0:IV->Heap->OH):Nat->IV->IV->IV->IV->IV->Heap->OH
 | 0,_,_,_,_,_,_=>none
 | n+1,v0,v1,v2,v3,v10,H =>
  R3sWriteC6S cal O N f0 f1 (fun v10 H=>gE0 v10 H) (fun v0 v1 v2 v3 v10 H=>R3sWriteC7S cal O N f0 f1 gE0 n v0 v1 v2 v3 v10 H) v0 v1 v2 v3 v10 H
theorem R3sWriteC7Eq (cal:CB)(O:Oracle)(N:Nat)(f0 f1:FuncId){k:KT (IV×Heap)}(gE0:IV->Heap->OH)(hgE0:∀E H,k (.exit 0) E H=gE0 (lk E 10) H):∀(n:Nat) (E:Sg) (H:Heap),itK (lxK cal O N (R3sWriteC6 f0 f1)) n E H k=R3sWriteC7S cal O N f0 f1 gE0 n (lk E 0) (lk E 1) (lk E 2) (lk E 3) (lk E 10) H:=by
 have hk:k=(kE 0 (fun E H=>gE0 (lk E 10) H) k):=(kE_mk hgE0 rfl);intro n
 induction n with
 | zero=>intro E H;rfl
 | succ n ih =>
  intro E H;rw[itK_succ,seqK_mk (g:=fun E H=>R3sWriteC7S cal O N f0 f1 gE0 n (lk E 0) (lk E 1) (lk E 2) (lk E 3) (lk E 10) H) ih,hk];exact R3sWriteC6Eq cal O N f0 f1 (k:=(kN (fun E H=>R3sWriteC7S cal O N f0 f1 gE0 n (lk E 0) (lk E 1) (lk E 2) (lk E 3) (lk E 10) H) (kE 0 (fun E H=>gE0 (lk E 10) H) k))) gE0 (fun v0 v1 v2 v3 v10 H=>R3sWriteC7S cal O N f0 f1 gE0 n v0 v1 v2 v3 v10 H) (fun _ _=>by kernel_rfl) (fun _ _=>by kernel_rfl) E H
def R3sWriteC8S (cal:CB)(O:Oracle)(N:Nat)(f0 f1:FuncId)(gN:IV->Heap->OH)(v0 v1 v2 v3 v10:IV)(H:Heap):OH :=
  R3sWriteC7S cal O N f0 f1 (fun v10 H=>gN v10 H) N v0 v1 v2 v3 v10 H
theorem R3sWriteC8Eq (cal:CB)(O:Oracle)(N:Nat)(f0 f1:FuncId){k:KT (IV×Heap)}(gN:IV->Heap->OH)(hgN:∀E H,k .normal E H=gN (lk E 10) H):∀(E:Sg) (H:Heap),lxK cal O N (R3sWriteC8 f0 f1) E H k=R3sWriteC8S cal O N f0 f1 gN (lk E 0) (lk E 1) (lk E 2) (lk E 3) (lk E 10) H:=by
 have hk:k=(kN (fun E H=>gN (lk E 10) H) k):=(kN_mk hgN rfl);intro E H;rw[hk];show lxK cal O N (R3sWriteC7 f0 f1) E H (blockK 0 (kN (fun E H=>gN (lk E 10) H) k))=_;exact R3sWriteC7Eq cal O N f0 f1 (k:=(blockK 0 (kN (fun E H=>gN (lk E 10) H) k))) gN (fun _ _=>by kernel_rfl) N E H
def R3sWriteC9S (cal:CB)(O:Oracle)(N:Nat)(f0 f1:FuncId)(v0 v1 v2 v3 v10:IV)(H:Heap):OH :=
  R3sWriteC8S cal O N f0 f1 (fun v10 H=>ob (lbin .eql v10 (.int .i64 0)) fun t1 =>cnd t1
 (some ((.tuple [(.int .i64 0),(.int .i64 28)]),H))
 (some ((.tuple [v10,(.int .i64 0)]),H))) v0 v1 v2 v3 v10 H
theorem R3sWriteC9Eq (cal:CB)(O:Oracle)(N:Nat)(f0 f1:FuncId){k:KT (IV×Heap)}(hR:∀E H,k .ret E H=resK [(.tmp 8),(.tmp 9)] [] E H):∀(E:Sg) (H:Heap),lxK cal O N (R3sWriteC9 f0 f1) E H k=R3sWriteC9S cal O N f0 f1 (lk E 0) (lk E 1) (lk E 2) (lk E 3) (lk E 10) H:=by
 have hk:k=(kR (resK [(.tmp 8),(.tmp 9)] []) k):=(kR_mk hR rfl);intro E H;rw[hk];show lxK cal O N (R3sWriteC8 f0 f1) E H (seqK (lxK cal O N X13K6) (kR (resK [(.tmp 8),(.tmp 9)] []) k))=_;exact R3sWriteC8Eq cal O N f0 f1 (k:=(seqK (lxK cal O N X13K6) (kR (resK [(.tmp 8),(.tmp 9)] []) k))) (fun v10 H=>ob (lbin .eql v10 (.int .i64 0)) fun t1 =>cnd t1
(some ((.tuple [(.int .i64 0),(.int .i64 28)]),H))
(some ((.tuple [v10,(.int .i64 0)]),H))) (fun _ _=>by kernel_rfl) E H
def R3sWriteC10S (cal:CB)(O:Oracle)(N:Nat)(f0 f1:FuncId)(v0 v1 v2 v3:IV)(H:Heap):OH :=
  R3sWriteC9S cal O N f0 f1 v0 v1 v2 v3 (.int .i64 0) H
theorem R3sWriteC10Eq (cal:CB)(O:Oracle)(N:Nat)(f0 f1:FuncId){k:KT (IV×Heap)}(hR:∀E H,k .ret E H=resK [(.tmp 8),(.tmp 9)] [] E H):∀(E:Sg) (H:Heap),lxK cal O N (R3sWriteC10 f0 f1) E H k=R3sWriteC10S cal O N f0 f1 (lk E 0) (lk E 1) (lk E 2) (lk E 3) H:=by
 have hk:k=(kR (resK [(.tmp 8),(.tmp 9)] []) k):=(kR_mk hR rfl);intro E H;rw[hk];show lxK cal O N (.reg [ qO 10 (.mv (k6 0))]) E H (seqK (lxK cal O N (R3sWriteC9 f0 f1)) (kR (resK [(.tmp 8),(.tmp 9)] []) k))=_;rw[seqK_mk (g:=fun E H=>R3sWriteC9S cal O N f0 f1 (lk E 0) (lk E 1) (lk E 2) (lk E 3) (lk E 10) H) (R3sWriteC9Eq cal O N f0 f1 (k:=(kR (resK [(.tmp 8),(.tmp 9)] []) k)) (fun _ _=>by kernel_rfl))];kernel_rfl
def R3sWriteC11S (cal:CB)(O:Oracle)(N:Nat)(f0 f1:FuncId)(v0 v1 v2 v3:IV)(H:Heap):OH :=
 ob (lbin .geq v2 (.int .i64 65536)) fun t1 =>cnd t1
 (some ((.tuple [(.int .i64 0),(.int .i64 27)]),H))
  (R3sWriteC10S cal O N f0 f1 v0 v1 v2 v3 H)
theorem R3sWriteC11Eq (cal:CB)(O:Oracle)(N:Nat)(f0 f1:FuncId){k:KT (IV×Heap)}(hR:∀E H,k .ret E H=resK [(.tmp 8),(.tmp 9)] [] E H):∀(E:Sg) (H:Heap),lxK cal O N (R3sWriteC11 f0 f1) E H k=R3sWriteC11S cal O N f0 f1 (lk E 0) (lk E 1) (lk E 2) (lk E 3) H:=by
 have hk:k=(kR (resK [(.tmp 8),(.tmp 9)] []) k):=(kR_mk hR rfl);intro E H;rw[hk];show lxK cal O N X13K9 E H (seqK (lxK cal O N (R3sWriteC10 f0 f1)) (kR (resK [(.tmp 8),(.tmp 9)] []) k))=_;rw[seqK_mk (g:=fun E H=>R3sWriteC10S cal O N f0 f1 (lk E 0) (lk E 1) (lk E 2) (lk E 3) H) (R3sWriteC10Eq cal O N f0 f1 (k:=(kR (resK [(.tmp 8),(.tmp 9)] []) k)) (fun _ _=>by kernel_rfl))];kernel_rfl
def R3sWriteC12S (cal:CB)(O:Oracle)(N:Nat)(f0 f1:FuncId)(v0 v1 v2 v3:IV)(H:Heap):OH :=
 ob (llen H .slice v3) fun t1 =>ob (lbin .eql t1 (.int .i64 0)) fun t2 =>cnd t2
 (some ((.tuple [(.int .i64 0),(.int .i64 0)]),H))
  (R3sWriteC11S cal O N f0 f1 v0 v1 v2 v3 H)
theorem R3sWriteC12Eq (cal:CB)(O:Oracle)(N:Nat)(f0 f1:FuncId){k:KT (IV×Heap)}(hR:∀E H,k .ret E H=resK [(.tmp 8),(.tmp 9)] [] E H):∀(E:Sg) (H:Heap),lxK cal O N (R3sWriteC12 f0 f1) E H k=R3sWriteC12S cal O N f0 f1 (lk E 0) (lk E 1) (lk E 2) (lk E 3) H:=by
 have hk:k=(kR (resK [(.tmp 8),(.tmp 9)] []) k):=(kR_mk hR rfl);intro E H;rw[hk];show lxK cal O N X13K7 E H (seqK (lxK cal O N (R3sWriteC11 f0 f1)) (kR (resK [(.tmp 8),(.tmp 9)] []) k))=_;rw[seqK_mk (g:=fun E H=>R3sWriteC11S cal O N f0 f1 (lk E 0) (lk E 1) (lk E 2) (lk E 3) H) (R3sWriteC11Eq cal O N f0 f1 (k:=(kR (resK [(.tmp 8),(.tmp 9)] []) k)) (fun _ _=>by kernel_rfl))];kernel_rfl
def R3sWriteC13S (cal:CB)(O:Oracle)(N:Nat)(f0 f1:FuncId)(v0 v1 v2 v3:IV)(H:Heap):OH :=
 ob (lbin .lss v2 (.int .i64 0)) fun t1 =>cnd t1
 (some ((.tuple [(.int .i64 0),(.int .i64 22)]),H))
  (R3sWriteC12S cal O N f0 f1 v0 v1 v2 v3 H)
theorem R3sWriteC13Eq (cal:CB)(O:Oracle)(N:Nat)(f0 f1:FuncId){k:KT (IV×Heap)}(hR:∀E H,k .ret E H=resK [(.tmp 8),(.tmp 9)] [] E H):∀(E:Sg) (H:Heap),lxK cal O N (R3sWriteC13 f0 f1) E H k=R3sWriteC13S cal O N f0 f1 (lk E 0) (lk E 1) (lk E 2) (lk E 3) H:=by
 have hk:k=(kR (resK [(.tmp 8),(.tmp 9)] []) k):=(kR_mk hR rfl);intro E H;rw[hk];show lxK cal O N X13K10 E H (seqK (lxK cal O N (R3sWriteC12 f0 f1)) (kR (resK [(.tmp 8),(.tmp 9)] []) k))=_;rw[seqK_mk (g:=fun E H=>R3sWriteC12S cal O N f0 f1 (lk E 0) (lk E 1) (lk E 2) (lk E 3) H) (R3sWriteC12Eq cal O N f0 f1 (k:=(kR (resK [(.tmp 8),(.tmp 9)] []) k)) (fun _ _=>by kernel_rfl))];kernel_rfl
def R3sWriteC14S (cal:CB)(O:Oracle)(N:Nat)(f0 f1:FuncId)(v0 v1 v2 v3:IV)(H:Heap):OH :=
  R3sWriteC13S cal O N f0 f1 v0 v1 v2 v3 H
theorem R3sWriteC14Eq (cal:CB)(O:Oracle)(N:Nat)(f0 f1:FuncId){k:KT (IV×Heap)}(hR:∀E H,k .ret E H=resK [(.tmp 8),(.tmp 9)] [] E H):∀(E:Sg) (H:Heap),lxK cal O N (R3sWriteC14 f0 f1) E H k=R3sWriteC14S cal O N f0 f1 (lk E 0) (lk E 1) (lk E 2) (lk E 3) H:=by
 have hk:k=(kR (resK [(.tmp 8),(.tmp 9)] []) k):=(kR_mk hR rfl);intro E H;rw[hk];show lxK cal O N X13K12 E H (seqK (lxK cal O N (R3sWriteC13 f0 f1)) (kR (resK [(.tmp 8),(.tmp 9)] []) k))=_;rw[seqK_mk (g:=fun E H=>R3sWriteC13S cal O N f0 f1 (lk E 0) (lk E 1) (lk E 2) (lk E 3) H) (R3sWriteC13Eq cal O N f0 f1 (k:=(kR (resK [(.tmp 8),(.tmp 9)] []) k)) (fun _ _=>by kernel_rfl))];kernel_rfl
def R3sWrite (f0 f1:FuncId):LFun:=⟨(R3sWriteC14 f0 f1),[(.tmp 8),(.tmp 9)],88⟩
def R3sWriteS (cal:CB)(O:Oracle)(N:Nat)(f0 f1:FuncId)(v0 v1 v2 v3:IV)(H:Heap):OH :=
  R3sWriteC14S cal O N f0 f1 v0 v1 v2 v3 H
theorem R3sWriteEq (cal:CB)(O:Oracle)(N:Nat)(f0 f1:FuncId)(v0 v1 v2 v3:IV)(H:Heap):lrunK cal O N (R3sWrite f0 f1) [v0,v1,v2,v3] H=R3sWriteS cal O N f0 f1 v0 v1 v2 v3 H:=by
 show lxK cal O N (R3sWriteC14 f0 f1) (initFrom 0 [v0,v1,v2,v3]) H (endK [(.tmp 8),(.tmp 9)])=_;exact R3sWriteC14Eq cal O N f0 f1 (k:=(endK [(.tmp 8),(.tmp 9)])) (fun _ _=>by kernel_rfl) (initFrom 0 [v0,v1,v2,v3]) H
def R5WriteS (cal:CB)(O:Oracle)(N:Nat)(f0 f1:FuncId)(v0 v1 v2 v3:IV)(H:Heap):OH :=
 ob (O f0 [v0,v1] H) fun r1 =>ob (lbin .neq r1.1 (.int .i64 0)) fun t2 =>cnd t2
 (some ((.tuple [(.int .i64 0),r1.1]),r1.2))
 (ob (lchk v0) fun t3 =>ob (loff t3 0) fun t4 =>ob (lload1 r1.2 t4) fun t5 =>ob (lchk v0) fun t6 =>ob (loff t6 1) fun t7 =>ob (lixa 201 9 t7 v1) fun t8 =>ob (loff t8 5) fun t9 =>ob (O f1 [t5,t9,v2,v3] r1.2) fun r10 =>ob (iextract r10.1 0) fun t11 =>ob (iextract r10.1 1) fun t12 =>some ((.tuple [t11,t12]),r10.2))
end Go.Shade
namespace Go.Shade
variable {H : Heap} {P : Nat -> Prop} {R cs : List IV} {b c i s : Nat} {own : Nat -> Nat} {v : IV}
def TS (s:Nat)(P:Nat->Prop)(H:Heap)(v:IV)(cs:List IV):Prop :=
 (v=.nilSlice/\cs=[])∨∃r n ex,v=.slice r 0 n n ex s/\P r/\H[r]? =some (.row cs false)/\cs.length=n*s
theorem TS.frame {F:Nat->Prop}{H':Heap}(h:TS s P H v cs)(k:Frame F H H')(hf:∀j,P j->¬F j):TS s P H' v cs:=by
 rcases h with h | ⟨r,n,ex,h1,h2,h3,h4⟩
 ·exact .inl h
 ·exact .inr ⟨r,n,ex,h1,h2,k.get (hf r h2) h3,h4⟩
theorem TS.mono {Q:Nat->Prop}(h:TS s P H v cs)(k:∀j,P j->Q j):TS s Q H v cs:=by
 rcases h with h | ⟨r,n,ex,h1,h2,h3,h4⟩
 ·exact .inl h
 ·exact .inr ⟨r,n,ex,h1,k r h2,h3,h4⟩
theorem TS.one {s:Nat}{P:Nat->Prop}{H:Heap}{v:IV}{cs:List IV}(h:TS s P H v cs):v.one=true:=by
 rcases h with⟨rfl,_⟩ | ⟨r,n,ex,rfl,_⟩<;>rfl
theorem TS.len {n:Nat}(h:TS s P H v cs)(hs:0<s)(hn:cs.length=n*s):llen H .slice v=some (.int .i64 (n:Nat)):=by
 rcases h with⟨rfl,rfl⟩ | ⟨r,m,ex,rfl,_,_,h4⟩
 ·have:n=0:=by
   rcases Nat.eq_zero_or_pos n with e | e
   ·exact e
   ·have:=Nat.mul_pos e hs;simp at hn;omega
  subst this;rfl
 ·have:m=n:=Nat.eq_of_mul_eq_mul_right hs (h4.symm.trans hn);subst this;rfl
theorem TS.app {s b:Nat}{P:Nat->Prop}{H:Heap}{v xv:IV}{cs new:List IV}(h:TS s P H v cs)(hs:0<s)(hx:xlen xv=some 1)(hc:lxcells H s xv 1=some new)(hl:new.length=s)(h1:new.all IV.one=true)(hb:(cs.length+s)*b<=140737488355328) :
  Wp (lapp H s b v xv) fun r=>Frame P H r.2/\TS s (fun j=>H.length<=j/\j<r.2.length) r.2 r.1 (cs++new):=by
 have hnew:new.length=1*s:=by omega
 unfold lapp lappend;rw[hx];simp only[Option.bind_some];rw[if_neg (by omega),hc];simp only[Option.bind_some];rw[if_pos ⟨hnew,h1⟩];rcases h with⟨rfl,rfl⟩ | ⟨r,n,ex,rfl,g1,g2,g3⟩
 ·have hk:1*b<=140737488355328:=Nat.le_trans (Nat.mul_le_mul_right b (by simp;omega)) hb;rw[lfresh_eq hk (by simpa using hnew)];exact⟨_,rfl,Frame.push _ _ _,.inr ⟨H.length,1,false,rfl,⟨Nat.le_refl _,by simp⟩,newRow,by simpa using hnew⟩⟩
 ·have hold:lsl H s (.slice r 0 n n ex s) n=some cs:=Buf.cells (B:=0) (.inr ⟨r,n,ex,rfl,by omega,g2,g3⟩) rfl;have hlen:(cs++new).length=(n+1)*s:=by rw[List.length_append,g3,hl,Nat.add_mul,Nat.one_mul]
  have hk:(n+1)*b<=140737488355328:=by
   refine Nat.le_trans (Nat.mul_le_mul_right b ?_) hb;have:n<=cs.length:=by rw[g3];exact Nat.le_mul_of_pos_right n hs
   omega
  simp only;rw[if_neg (by omega),hold];simp only[Option.bind_some]
  cases ex with
  | true =>
   rw[if_pos rfl,lfresh_eq hk hlen];exact⟨_,rfl,Frame.push _ _ _,.inr ⟨H.length,n+1,false,rfl,⟨Nat.le_refl _,by simp⟩,newRow,hlen⟩⟩
  | false =>
   rw[if_neg (by simp),g2];simp only;rw[if_pos trivial,lfresh_eq hk hlen];exact⟨_,rfl,(Frame.set _ _ g1).tr (Frame.push _ _ _),.inr ⟨(H.set r .dead).length,n+1,false,rfl,⟨by simp,by simp⟩,newRow,hlen⟩⟩
def EntR (e:Nam×Int):Prop:=1<=e.2/\e.2<=200/\e.1.length<=60
def RCell (c:Nat)(own:Nat->Nat)(H:Heap)(i k:Nat)(v:IV):Prop :=
 if k<4 then ∃z:Int,v=.int .i64 z
 else if k=4 then ∃z:Int,v=.int .i64 z/\0<=z/\z<=200
 else if k=5 then ∃cs:List IV,TS 1 (fun j=>own j=3*i+1) H v cs/\cs.all IV.one=true/\cs.length<=65536
 else if k=6 then ∃bs:List Bool,TS 1 (fun j=>own j=3*i+2) H v (bs.map .bool)/\bs.length<=4096
 else if k=7 then ∃l:Dr,TS 2 (fun j=>own j=3*i+3) H v (fl (prs l))/\l.length<=c/\∀e∈l,EntR e
 else ∃t:Nam,v=.str t
structure RB (c:Nat)(own:Nat->Nat)(H:Heap)(b:Nat)(s:Nat)(R:List IV):Prop where
 ob:own b=701
 row:H[b]? =some (.row R false)
 len:R.length=1810
 r0:R[0]? =some (.ptr s 0)
 os:own s=700
 sto:∃x y:Int,H[s]? =some (.row [.int .i64 x,.int .i64 y] false)
 cel:∀i k,i<=200->k<9->∃v,R[1+9*i+k]? =some v/\RCell c own H i k v
 lt:∀j,own j≠0->j<H.length
theorem RCell.frame {c c':Nat}{own own':Nat->Nat}{H H':Heap}{i k t:Nat}{v:IV}(h:RCell c own H i k v)(hc:c<=c'){F:Nat->Prop}(hF:Frame F H H')(hf:∀j,own j≠0->own j<700->own j≠t->¬F j)(ho:∀u,u≠0->u≠t->∀j,own j=u↔own' j=u)(ht:t=0∨3*i+k≠t+4∨k<5∨7<k)(hi:i<=200):RCell c' own' H' i k v:=by
 unfold RCell at *;split at h
 ·rw[if_pos ‹_›];exact h
 ·rename_i k4;rw[if_neg k4];split at h
  ·rw[if_pos ‹_›];exact h
  ·rename_i k4';rw[if_neg k4'];split at h
   ·rename_i e;rw[if_pos e];obtain⟨cs,a,b⟩:=h;exact⟨cs,(a.frame hF fun j hj=>hf j (by omega) (by omega) (by omega)).mono fun j hj=>(ho _ (by omega) (by omega) j).1 hj,b⟩
   ·rename_i k5;rw[if_neg k5];split at h
    ·rename_i e;rw[if_pos e];obtain⟨cs,a,b⟩:=h;exact⟨cs,(a.frame hF fun j hj=>hf j (by omega) (by omega) (by omega)).mono fun j hj=>(ho _ (by omega) (by omega) j).1 hj,b⟩
    ·rename_i k6;rw[if_neg k6];split at h
     ·rename_i e;rw[if_pos e];obtain⟨cs,a,b,d⟩:=h;exact⟨cs,(a.frame hF fun j hj=>hf j (by omega) (by omega) (by omega)).mono fun j hj=>(ho _ (by omega) (by omega) j).1 hj,by omega,d⟩
     ·rename_i k7;rw[if_neg k7];exact h
section
variable {c c' : Nat} {own : Nat -> Nat} {H H' : Heap} {b s : Nat} {R R' : List IV}
theorem RB.mono (h:RB c own H b s R)(hc:c<=c'):RB c' own H b s R :=
 ⟨h.ob,h.row,h.len,h.r0,h.os,h.sto,fun i k hi hk=>by
  obtain⟨v,a,d⟩:=h.cel i k hi hk;exact⟨v,a,d.frame (t:=0) hc (Frame.refl NoF H) (fun _ _ _ _ h=>h) (fun u _ _ j=>Iff.rfl) (.inl rfl) hi⟩,h.lt⟩
theorem RB.frame (h:RB c own H b s R){F:Nat->Prop}(hF:Frame F H H')(hf:∀j,own j≠0->¬F j):RB c own H' b s R:=by
 obtain⟨x,y,hs⟩:=h.sto;exact⟨h.ob,hF.get (hf b (by rw[h.ob];decide)) h.row,h.len,h.r0,h.os,⟨x,y,hF.get (hf s (by rw[h.os];decide)) hs⟩,fun i k hi hk=>by
  obtain⟨v,a,d⟩:=h.cel i k hi hk;exact⟨v,a,d.frame (t:=0) (Nat.le_refl c) hF (fun j hj _ _=>hf j hj) (fun u _ _ j=>Iff.rfl) (.inl rfl) hi⟩,fun j hj=>Nat.lt_of_lt_of_le (h.lt j hj) hF.1⟩
theorem RB.kp (h:RB c own H b s R)(hF:Frame NoF H H'):RB c own H' b s R:=h.frame hF fun _ _ h=>h
theorem RB.put (h:RB c own H b s R)(hl:R'.length=1810)(h0:R'[0]? =R[0]?)(hc:∀i k,i<=200->k<9->R'[1+9*i+k]? =R[1+9*i+k]? ∨∃v,R'[1+9*i+k]? =some v/\RCell c own H i k v):RB c own (H.set b (.row R' false)) b s R':=by
 obtain⟨x,y,hs⟩:=h.sto;have hF:Frame (fun j=>j=b) H (H.set b (.row R' false)):=Frame.set _ _ rfl;have hbo:=h.ob;refine⟨h.ob,setAt h.row,hl,h0.trans h.r0,h.os,⟨x,y,hF.get (fun e=>by have:=h.os;rw[e]at this;omega) hs⟩,fun i k hi hk=> ?_,fun j hj=>by rw[List.length_set];exact h.lt j hj⟩;have up:∀v,RCell c own H i k v->RCell c own (H.set b (.row R' false)) i k v:=fun v d=>d.frame (t:=0) (Nat.le_refl c) hF (fun j _ h7 _ e=>by subst e;omega) (fun u _ _ j=>Iff.rfl) (.inl rfl) hi;rcases hc i k hi hk with e | ⟨v,e,d⟩
 ·obtain⟨v,a,d⟩:=h.cel i k hi hk;exact⟨v,e.trans a,up v d⟩
 ·exact⟨v,e,up v d⟩
theorem RB.set (h:RB c own H b s R){i k:Nat}{v:IV}(hi:i<=200)(hk:k<9)(hv:RCell c own H i k v):RB c own (H.set b (.row (R.set (1+9*i+k) v) false)) b s (R.set (1+9*i+k) v):=by
 refine h.put (by rw[List.length_set];exact h.len) (List.getElem?_set_ne (by omega)) fun i' k' hi' hk'=> ?_;by_cases e:1+9*i+k=1+9*i'+k'
 ·have e1:i'=i:=by omega
  have e2:k'=k:=by omega
  subst e1 e2;exact .inr ⟨v,List.getElem?_set_self (by rw[h.len];omega),hv⟩
 ·exact .inl (List.getElem?_set_ne e)
theorem ownSet_ne' {t:Nat}{P':Nat->Prop}(hP:∀j,P' j->own j=t∨own j=0)(u:Nat)(hu0:u≠0)(hu:u≠t)(j:Nat):own j=u↔ownSet own t P' j=u:=ownSet_ne hP hu hu0 j
theorem RB.new0 (h:RB c own H b s R){j:Nat}(hj:H.length<=j):own j=0:=by
 cases e:own j with
 | zero=>rfl
 | succ n=>have:=h.lt j (by omega);omega
theorem RB.upd (h:RB c own H b s R)(hcc:c<=c'){i k:Nat}{v:IV}{P':Nat->Prop}(hi:i<=200)(hk5:5<=k)(hk7:k<=7)(hF:Frame (fun j=>own j=3*i+(k - 4)) H H')(hP:∀j,P' j->own j=3*i+(k - 4)∨H.length<=j)(hPl:∀j,P' j->j<H'.length) (hv:RCell c' (ownSet own (3*i+(k - 4)) P') H' i k v) :
  RB c' (ownSet own (3*i+(k - 4)) P') (H'.set b (.row (R.set (1+9*i+k) v) false)) b s (R.set (1+9*i+k) v):=by
 have hP0:∀j,P' j->own j=3*i+(k - 4)∨own j=0:=fun j hj=>(hP j hj).imp (fun h=>h) fun h'=>h.new0 h';obtain⟨x,y,hs⟩:=h.sto;have h1:RB c' (ownSet own (3*i+(k - 4)) P') H' b s R∨True:=.inr trivial;have hF2:Frame (fun j=>j=b) H' (H'.set b (.row (R.set (1+9*i+k) v) false)):=Frame.set _ _ rfl;have hbo:=h.ob;have hbo':=(ownSet_ne hP0 (u:=701) (by omega) (by decide) b).1 h.ob;have hso':=(ownSet_ne hP0 (u:=700) (by omega) (by decide) s).1 h.os;have hb':H'[b]? =some (.row R false):=hF.get (by omega) h.row;have hs':H'[s]? =some (.row [.int .i64 x,.int .i64 y] false):=hF.get (by have:=h.os;omega) hs;refine⟨hbo',setAt hb',by rw[List.length_set];exact h.len,(List.getElem?_set_ne (by omega)).trans h.r0,hso',⟨x,y,hF2.get (fun e=>by rw[e]at hso';omega) hs'⟩,fun i' k' hi' hk'=> ?_,fun j hj=> ?_⟩
 ·by_cases e:1+9*i+k=1+9*i'+k'
  ·have e1:i'=i:=by omega
   have e2:k'=k:=by omega
   subst e1 e2;refine⟨v,List.getElem?_set_self (by rw[h.len];omega),?_⟩;exact hv.frame (t:=0) (Nat.le_refl _) hF2 (fun j _ h7 _ e=>by subst e;omega) (fun u _ _ j=>Iff.rfl) (.inl rfl) hi'
  ·obtain⟨w,a,d⟩:=h.cel i' k' hi' hk';refine⟨w,(List.getElem?_set_ne e).trans a,?_⟩;have d1:RCell c' (ownSet own (3*i+(k - 4)) P') H' i' k' w:=d.frame (t:=3*i+(k - 4)) hcc hF (fun j _ _ h=>h) (fun u a b j=>ownSet_ne' hP0 u a b j) (by omega) hi';exact d1.frame (t:=0) (Nat.le_refl _) hF2 (fun j _ h7 _ e=>by subst e;omega) (fun u _ _ j=>Iff.rfl) (.inl rfl) hi'
 ·rw[List.length_set];exact ownSet_lt (fun j hj=>Nat.lt_of_lt_of_le (h.lt j hj) hF.1) hPl j hj
theorem RB.ptr (h:RB c own H b s R){i k:Nat}(hi:i<=200)(hk:k<9):∃v,lload1 H (.ptr b (1+i*9+k))=some v/\R[1+9*i+k]? =some v/\RCell c own H i k v:=by
 obtain⟨v,a,d⟩:=h.cel i k hi hk;exact⟨v,by rw[ld1 h.row,show 1+i*9+k=1+9*i+k by omega];exact a,a,d⟩
theorem RB.int (h:RB c own H b s R){i k:Nat}(hi:i<=200)(hk:k<5):∃z:Int,lload1 H (.ptr b (1+i*9+k))=some (.int .i64 z)/\(k=4->0<=z/\z<=200):=by
 obtain⟨v,a,_,d⟩:=h.ptr hi (show k<9 by omega);unfold RCell at d;split at d
 ·obtain⟨z,rfl⟩:=d;exact⟨z,a,fun e=>by omega⟩
 ·rw[if_pos (by omega)]at d;obtain⟨z,rfl,e⟩:=d;exact⟨z,a,fun _=>e⟩
end
theorem RCell.scal {k:Nat}(hk:k<4)(z:Int):RCell c own H i k (.int .i64 z):=by
 unfold RCell;rw[if_pos hk];exact⟨z,rfl⟩
theorem RCell.par {z:Int}(h:0<=z/\z<=200):RCell c own H i 4 (.int .i64 z):=by
 unfold RCell;rw[if_neg (by omega),if_pos rfl];exact⟨z,rfl,h⟩
theorem RCell.list :RCell c own H i 7 v↔∃l:Dr,TS 2 (fun j=>own j=3*i+3) H v (fl (prs l))/\l.length<=c/\∀e∈l,EntR e:=by
 unfold RCell;rw[if_neg (by omega),if_neg (by omega),if_neg (by omega),if_neg (by omega),if_pos rfl]
theorem RCell.body :RCell c own H i 5 v↔∃cs:List IV,TS 1 (fun j=>own j=3*i+1) H v cs/\cs.all IV.one=true/\cs.length<=65536:=by
 unfold RCell;rw[if_neg (by omega),if_neg (by omega),if_pos rfl]
theorem RCell.there :RCell c own H i 6 v↔∃bs:List Bool,TS 1 (fun j=>own j=3*i+2) H v (bs.map .bool)/\bs.length<=4096:=by
 unfold RCell;rw[if_neg (by omega),if_neg (by omega),if_neg (by omega),if_pos rfl]
theorem RCell.targ (t:Nam):RCell c own H i 8 (.str t):=by
 unfold RCell;rw[if_neg (by omega),if_neg (by omega),if_neg (by omega),if_neg (by omega),if_neg (by omega)];exact⟨t,rfl⟩
theorem RCell.nil {k:Nat}(h5:5<=k)(h7:k<=7):RCell c own H i k .nilSlice:=by
 have:k=5∨k=6∨k=7:=by omega
 rcases this with rfl | rfl | rfl
 ·exact RCell.body.2 ⟨[],.inl ⟨rfl,rfl⟩,rfl,by simp⟩
 ·exact RCell.there.2 ⟨[],.inl ⟨rfl,rfl⟩,by simp⟩
 ·exact RCell.list.2 ⟨[],.inl ⟨rfl,rfl⟩,by simp,fun e h=>by cases h⟩
section
variable {cal : FuncId -> Bool} {O : Oracle} {N : Nat}
def RIsOk (O:Oracle)(f:FuncId):Prop:=∀(c:Nat) (own:Nat->Nat) (H:Heap) (b s:Nat) (R:List IV) (i:Int),RB c own H b s R->∃t:Bool,O f [.ptr b 0,.int .i64 i] H=some (.bool t,H)/\(t=true->1<=i/\i<=200)
theorem rixa {o:Nat}(hi:i<=200):lixa 201 9 (.ptr b o) (.int .i64 (i:Nat))=some (.ptr b (o+i*9)):=by
 rw[lixa_ptr,if_pos (by omega),Int.toNat_natCast]
theorem ris_s {i:Int}(h:RB c own H b s R):∃t:Bool,R5IsS cal O N (.ptr b 0) (.int .i64 i) H=some (.bool t,H)/\(t=true->1<=i/\i<=200):=by
 unfold R5IsS;rw[lbin_geq,ob_some];by_cases h1:1<=i
 ·rw[decide_eq_true h1];simp only[isB_tt,gq_true,ob_some,lbin_leq,lpick_true];by_cases h2:i<=200
  ·rw[decide_eq_true h2];obtain⟨n,rfl⟩:∃n:Nat,i=(n:Nat):=⟨i.toNat,by omega⟩;obtain⟨z,e,_⟩:=h.int (i:=n) (k:=0) (by omega) (by omega);simp only[isB_tt,gq_true,ob_some,lchk_ptr,loff_ptr,Nat.zero_add,rixa (show n<=200 by omega),e,lbin_neq,lpick_true];exact⟨_,rfl,fun _=>⟨h1,h2⟩⟩
  ·rw[decide_eq_false h2];simp only[isB_ft,gq_false,ob_some,lpick_false];exact⟨_,rfl,fun e=>by cases e⟩
 ·rw[decide_eq_false h1];simp only[isB_ft,gq_false,ob_some,lpick_false];exact⟨_,rfl,fun e=>by cases e⟩
def RKindOk (O:Oracle)(f:FuncId):Prop:=∀(c:Nat) (own:Nat->Nat) (H:Heap) (b s:Nat) (R:List IV) (i:Int),RB c own H b s R->∃k:Int,O f [.ptr b 0,.int .i64 i] H=some (.int .i64 k,H)/\(k≠0->1<=i/\i<=200)
theorem rkind_s {fi:FuncId}(hi:RIsOk O fi){i:Int}(h:RB c own H b s R):∃k:Int,R5KindS cal O N fi (.ptr b 0) (.int .i64 i) H=some (.int .i64 k,H)/\(k≠0->1<=i/\i<=200):=by
 unfold R5KindS;obtain⟨t,e,ht⟩:=hi c own H b s R i h;rw[e,ob_some]
 cases t with
 | false=>simp only[iun_not,ob_some,Bool.not_false,cnd_true];exact⟨0,rfl,fun e=>absurd rfl e⟩
 | true =>
  obtain⟨a1,a2⟩:=ht rfl;obtain⟨n,rfl⟩:∃n:Nat,i=(n:Nat):=⟨i.toNat,by omega⟩;obtain⟨z,e,_⟩:=h.int (i:=n) (k:=0) (by omega) (by omega);simp only[iun_not,ob_some,Bool.not_true,cnd_false,lchk_ptr,loff_ptr,Nat.zero_add,rixa (show n<=200 by omega),e];exact⟨z,rfl,fun _=>⟨a1,a2⟩⟩
def RDirOk (O:Oracle)(f:FuncId):Prop:=∀(c:Nat) (own:Nat->Nat) (H:Heap) (b s:Nat) (R:List IV) (i:Int) (g:Bool),RB c own H b s R->∃e:Int,O f [.ptr b 0,.int .i64 i,.bool g] H=some (.int .i64 e,H)/\(e=0->1<=i/\i<=200)
theorem rdir_s {fi:FuncId}(hi:RIsOk O fi){i:Int}{g:Bool}(h:RB c own H b s R):∃e:Int,R5DirS cal O N fi (.ptr b 0) (.int .i64 i) (.bool g) H=some (.int .i64 e,H)/\(e=0->1<=i/\i<=200):=by
 unfold R5DirS;obtain⟨t,e,ht⟩:=hi c own H b s R i h;rw[e,ob_some]
 cases t with
 | false=>simp only[iun_not,ob_some,Bool.not_false,cnd_true];exact⟨2,rfl,fun e=>by cases e⟩
 | true =>
  obtain⟨a1,a2⟩:=ht rfl;obtain⟨n,rfl⟩:∃n:Nat,i=(n:Nat):=⟨i.toNat,by omega⟩;obtain⟨z,e,_⟩:=h.int (i:=n) (k:=0) (by omega) (by omega);obtain⟨z1,e1,_⟩:=h.int (i:=n) (k:=1) (by omega) (by omega);simp only[iun_not,ob_some,Bool.not_true,cnd_false,lchk_ptr,loff_ptr,Nat.zero_add,Nat.add_zero,rixa (show n<=200 by omega),e,lbin_neq];have e':lload1 H (.ptr b (1+n*9))=some (.int .i64 z):=e;simp only[e',ob_some,lbin_neq]
  cases decide (z=2)with
  | false=>rw[Bool.not_false,cnd_true];exact⟨20,rfl,fun e=>by cases e⟩
  | true =>
   rw[Bool.not_true,cnd_false]
   cases g with
   | false =>
    simp only[isB_ft,gq_false,ob_some,lpick_false,cnd_false];exact⟨0,rfl,fun _=>⟨a1,a2⟩⟩
   | true =>
    simp only[isB_tt,gq_true,ob_some,lchk_ptr,loff_ptr,Nat.zero_add,rixa (show n<=200 by omega),e1,lbin_eql,lpick_true]
    cases decide (z1=0)with
    | true=>rw[cnd_true];exact⟨2,rfl,fun e=>by cases e⟩
    | false=>rw[cnd_false];exact⟨0,rfl,fun _=>⟨a1,a2⟩⟩
def RErrOk (O:Oracle)(f:FuncId):Prop:=∀(H:Heap) (s:Nam),∃e:Int,O f [.str s] H=some (.int .i64 e,H)/\(e=0->s.length<=60)
def RHasOk (O:Oracle)(f:FuncId):Prop:=∀(H:Heap) (s:Nam) (c:Int),s.length<=60->∃t:Bool,O f [.str s,.int .u8 c] H=some (.bool t,H)
theorem rhas_go {s:Nam}{c:Int}(hs:s.length<=60):∀(m i n:Nat),i+m=s.length->m<n->∃t:Bool,vr01HasC0S cal O N (fun H=>some ((.bool false),H)) n (.str s) (.int .u8 c) (.int .i64 (i:Nat)) H=some (.bool t,H):=by
 intro m
 induction m with
 | zero =>
  intro i n hi hn;obtain⟨n,rfl⟩:∃j,n=j+1:=⟨n - 1,by omega⟩;rw[vr01HasC0S,llen_str,ob_some,lbin_lss,ob_some,decide_eq_false (by omega),cnd_false];exact⟨false,rfl⟩
 | succ m ih =>
  intro i n hi hn;obtain⟨n,rfl⟩:∃j,n=j+1:=⟨n - 1,by omega⟩;rw[vr01HasC0S,llen_str,ob_some,lbin_lss,ob_some,decide_eq_true (by omega),cnd_true,lixs_str,if_pos (by omega),Int.toNat_natCast,List.getElem?_eq_getElem (show i<s.length by omega)];simp only[Option.bind_some,ob_some,lbin_eql]
  cases decide ((s[i].toNat:Int)=c)with
  | true=>rw[cnd_true];exact⟨true,rfl⟩
  | false =>
   rw[cnd_false,lbin_add,ob_some,wrap_i64 (by omega) (by omega),show((i:Nat):Int)+1=((i+1:Nat):Int) by omega];exact ih (i+1) n (by omega) (by omega)
theorem rhas_s (hN:61<N){s:Nam}{c:Int}(hs:s.length<=60):∃t:Bool,vr01HasS cal O N (.str s) (.int .u8 c) H=some (.bool t,H):=by
 unfold vr01HasS vr01HasC4S vr01HasC3S vr01HasC2S vr01HasC1S;exact rhas_go hs s.length 0 N (by omega) (by omega)
theorem rname_s {fh:FuncId}(hh:RHasOk O fh)(H:Heap)(s:Nam):∃e:Int,vr01NameS cal O N fh (.str s) H=some (.int .i64 e,H)/\(e=0->s.length<=60):=by
 unfold vr01NameS;rw[llen_str,ob_some,lbin_eql,ob_some];by_cases h0:((s.length:Nat):Int)=0
 ·rw[decide_eq_true h0,cnd_true];exact⟨2,rfl,fun e=>by cases e⟩
 ·rw[decide_eq_false h0,cnd_false,ob_some,lbin_gtr,ob_some];by_cases h1:(60:Int)<s.length
  ·rw[decide_eq_true h1,cnd_true];exact⟨36,rfl,fun e=>by cases e⟩
  ·rw[decide_eq_false h1,cnd_false];obtain⟨t,e⟩:=hh H s 0 (by omega);obtain⟨t',e'⟩:=hh H s 47 (by omega);rw[e,ob_some]
   cases t with
   | true=>simp only[isB_tf,gq_false,ge_false,ob_some,lpick_true,cnd_true];exact⟨22,rfl,fun e=>by cases e⟩
   | false =>
    simp only[isB_ff,gq_true,ge_true,ob_some,e',lpick_false]
    cases t' with
    | true=>rw[cnd_true];exact⟨22,rfl,fun e=>by cases e⟩
    | false=>rw[cnd_false];exact⟨0,rfl,fun _=>by omega⟩
theorem rset_s {fn:FuncId}(hn:RErrOk O fn)(H:Heap)(s:Nam):∃e:Int,vr05SetS cal O N fn (.str s) H=some (.int .i64 e,H)/\(e=0->s.length<=60):=by
 unfold vr05SetS;obtain⟨e,he,hlen⟩:=hn H s;rw[he,ob_some];simp only;rw[lbin_eql,ob_some]
 cases decide (e=0)with
 | false =>
  simp only[isB_ft,gq_false,ob_some,lpick_false,cnd_false];have:isB (.tuple []) false=false:=rfl;simp only[this,gq_false,ob_some,lpick_false,cnd_false];exact⟨e,rfl,hlen⟩
 | true =>
  simp only[isB_tt,gq_true,ob_some,lbin_seq,lpick_true]
  cases decide (s=[46])with
  | true =>
   simp only[isB_tf,gq_false,ob_some,lpick_true,cnd_true];exact⟨22,rfl,fun e=>by cases e⟩
  | false =>
   simp only[isB_ff,gq_true,ob_some,lbin_seq,lpick_false]
   cases decide (s=[46,46])with
   | true=>rw[cnd_true];exact⟨22,rfl,fun e=>by cases e⟩
   | false=>rw[cnd_false];exact⟨e,rfl,hlen⟩
end
end Go.Shade
namespace Go.Shade
variable {H : Heap} {l : Dr} {v : IV}
def RA (c:Nat)(own:Nat->Nat)(H:Heap)(b s:Nat)(K:Heap):Prop:=∃own' R',RB c own' K b s R'/\Frame (fun j=>own j≠0) H K/\∀j,own' j≠0->own j≠0∨H.length<=j
theorem RA.refl {c:Nat}{own:Nat->Nat}{H:Heap}{b s:Nat}{R:List IV}(h:RB c own H b s R):RA c own H b s H:=⟨own,R,h,Frame.refl _ _,fun _ h=>.inl h⟩
theorem RA.mono {c c':Nat}{own:Nat->Nat}{H K:Heap}{b s:Nat}(h:RA c own H b s K)(hc:c<=c'):RA c' own H b s K:=by
 obtain⟨own1,R1,h1,h2,h3⟩:=h;exact⟨own1,R1,h1.mono hc,h2,h3⟩
theorem TS.ix2 {P:Nat->Prop}(h:TS 2 P H v (fl (prs l))){j:Nat}{e:Nam×Int}(hj:l[j]? =some e):∃r,P r/\lix 2 v (.int .i64 (j:Nat))=some (.ptr r (2*j))/\lload1 H (.ptr r (2*j))=some (.str e.1)/\lload1 H (.ptr r (2*j+1))=some (.int .i64 e.2)/\lloadn H 2 (.ptr r (2*j))=some (.agg [.str e.1,.int .i64 e.2]):=by
 have hlt:=(ges hj).1;rcases h with⟨rfl,h2⟩ | ⟨r,n,ex,rfl,h2,h3,h4⟩
 ·have:=congrArg List.length h2;rw[fl_length,prs_length]at this;simp at this;omega
 ·rw[fl_length,prs_length]at h4;have hn:n=l.length:=by omega
  subst hn;have hg:=prs_get hj;have hl2:=ld2 h3 hg;refine⟨r,h2,by rw[lix_slice,if_pos (by omega)];simp;omega,?_,by rw[ld1 h3];exact fl_get1 hg,hl2⟩;rw[ld1 h3];have:=fl_ld hg;have h5:(((fl (prs l)).drop (2*j)).take 2)[0]? =some (IV.str e.1):=by rw[this];rfl
  rw[List.getElem?_take,if_pos (by omega),List.getElem?_drop]at h5;exact h5
theorem TS.len2 {P:Nat->Prop}(h:TS 2 P H v (fl (prs l))):llen H .slice v=some (.int .i64 (l.length:Nat)):=h.len (by omega) (by rw[fl_length,prs_length];omega)
theorem app_ent {P:Nat->Prop}{K:Heap}{v:IV}{acc:Dr}{e:Nam×Int}(h:TS 2 P K v (fl (prs acc)))(hb:acc.length<=2000000):Wp (lapp (K++[IObj.row [.str e.1,.int .i64 e.2] false]) 2 24 v (.slice K.length 0 1 1 true 2)) fun r=>Frame P K r.2/\TS 2 (fun j=>K.length<=j) r.2 r.1 (fl (prs (acc++[e]))):=by
 have k1:Frame NoF K (K++[IObj.row [.str e.1,.int .i64 e.2] false]):=Frame.push _ _ _;have r1:(K++[IObj.row [.str e.1,.int .i64 e.2] false])[K.length]? =some (.row [.str e.1,.int .i64 e.2] false):=newRow;have l1:(K++[IObj.row [.str e.1,.int .i64 e.2] false]).length=K.length+1:=by simp
 refine((h.frame k1 fun _ _ h=>h).app (b:=24) (new:=[.str e.1,.int .i64 e.2]) (by omega) rfl (by simp[lxcells,lsl,irow,r1]) rfl rfl (by rw[fl_length,prs_length];omega)).mono ?_;rintro⟨w,K2⟩ ⟨g1,g2⟩;refine⟨k1.no.tr g1,?_⟩;have:fl (prs acc)++[IV.str e.1,.int .i64 e.2]=fl (prs (acc++[e])):=by rw[prs_append,fl_append];rfl
 rw[←this];exact g2.mono fun j hj=>by have:=hj.1;omega
theorem RB.newList {c c':Nat}{own:Nat->Nat}{H K:Heap}{b s i:Nat}{R:List IV}{v:IV}{l:Dr}(h:RB c own H b s R)(hc:c<=c')(hi:i<=200)(hK:Frame (fun j=>H.length<=j) H K)(hv:TS 2 (fun j=>H.length<=j) K v (fl (prs l)))(hl:l.length<=c')(he:∀e∈l,EntR e) :
  Wp (lstV K 1 (.ptr b (1+i*9+7)) v) fun r=>RA c' own H b s r.2:=by
 have hK':∀{F:Nat->Prop},Frame F H K:=⟨hK.1,fun j hj _=>hK.2 j hj (by omega)⟩;have hrow:K[b]? =some (.row R false):=(hK' (F:=NoF)).get (fun h=>h) h.row;have hP:∀j,(H.length<=j/\j<K.length)->own j=3*i+(7 - 4)∨H.length<=j:=fun j hj=>.inr hj.1;have hP0:∀j,(H.length<=j/\j<K.length)->own j=3*i+(7 - 4)∨own j=0:=fun j hj=>.inr (h.new0 hj.1);have hvl:TS 2 (fun j=>H.length<=j/\j<K.length) K v (fl (prs l)):=by
  rcases hv with hv | ⟨r,n,ex,h1,h2,h3,h4⟩
  ·exact .inl hv
  ·exact .inr ⟨r,n,ex,h1,⟨h2,(ges h3).1⟩,h3,h4⟩
 have:=h.upd hc hi (by omega) (by omega) hK' hP (fun j hj=>hj.2) (RCell.list.2 ⟨l,hvl.mono fun j hj=>(ownSet_same (own:=own) (by omega) j).1 hj,hl,he⟩);rw[show 1+i*9+7=1+9*i+7 by omega,st1 hrow hv.one (by rw[h.len];omega)];refine⟨_,rfl,_,_,this,?_,fun j hj=>ownSet_ok hP j hj (by omega)⟩;exact hK'.tr (Frame.set _ _ (by rw[h.ob];decide))
section
variable {cal : FuncId -> Bool} {O : Oracle} {N : Nat}
def RGet4Ok (O:Oracle)(f:FuncId):Prop:=∀(c:Nat) (own:Nat->Nat) (H:Heap) (b s:Nat) (R:List IV) (i:Nat) (nm:Nam),RB c own H b s R->c<=1000000->i<=200->∃v e:Int,O f [.ptr b (1+i*9+7),.str nm] H=some (.tuple [.int .i64 v,.int .i64 e],H)/\(e=0->1<=v/\v<=200)
theorem rget4_go {own:Nat->Nat}{b:Nat}{i:Nat}{nm:Nam}(hp:lload1 H (.ptr b (1+i*9+7))=some v)(hv:TS 2 (fun j=>own j=3*i+3) H v (fl (prs l)))(hl:l.length<=1000000)(he:∀e∈l,EntR e) :
  ∀(m j n:Nat),j+m=l.length->m<n->∃v e:Int,R4GetC0S cal O N (fun H=>some ((.tuple [(.int .i64 0),(.int .i64 2)]),H)) n (.ptr b (1+i*9+7)) (.str nm) (.int .i64 (j:Nat)) H=some (.tuple [.int .i64 v,.int .i64 e],H)/\(e=0->1<=v/\v<=200):=by
 intro m
 induction m with
 | zero =>
  intro j n hj hn;obtain⟨n,rfl⟩:∃j,n=j+1:=⟨n - 1,by omega⟩;rw[R4GetC0S];simp only[lchk_ptr,loff_ptr,ob_some,Nat.add_zero,hp,hv.len2,lbin_lss];rw[decide_eq_false (by omega),cnd_false];exact⟨0,2,rfl,fun e=>by cases e⟩
 | succ m ih =>
  intro j n hj hn;obtain⟨n,rfl⟩:∃j,n=j+1:=⟨n - 1,by omega⟩;have hlt:j<l.length:=by omega
  obtain⟨r,_,a1,a2,a3,a4⟩:=hv.ix2 (List.getElem?_eq_getElem hlt);rw[R4GetC0S];simp only[lchk_ptr,loff_ptr,ob_some,Nat.add_zero,hp,hv.len2,lbin_lss];rw[decide_eq_true (by omega),cnd_true];simp only[a1,ob_some,loff_ptr,Nat.add_zero,a2,lbin_seq,a3]
  cases decide (l[j].1=nm)with
  | true =>
   rw[cnd_true];exact⟨_,0,rfl,fun _=>⟨(he _ (List.getElem_mem hlt)).1,(he _ (List.getElem_mem hlt)).2.1⟩⟩
  | false =>
   rw[cnd_false,lbin_add,ob_some,wrap_i64 (by omega) (by omega),show((j:Nat):Int)+1=((j+1:Nat):Int) by omega];exact ih (j+1) n (by omega) (by omega)
theorem rget4_s (hN:1000001<N){c:Nat}{own:Nat->Nat}{b s:Nat}{R:List IV}{i:Nat}{nm:Nam}(h:RB c own H b s R)(hc:c<=1000000)(hi:i<=200):∃v e:Int,R4GetS cal O N (.ptr b (1+i*9+7)) (.str nm) H=some (.tuple [.int .i64 v,.int .i64 e],H)/\(e=0->1<=v/\v<=200):=by
 unfold R4GetS R4GetC4S R4GetC3S R4GetC2S R4GetC1S;obtain⟨v,a1,_,a2⟩:=h.ptr hi (show 7<9 by omega);obtain⟨l,b1,b2,b3⟩:=RCell.list.1 a2;exact rget4_go a1 b1 (by omega) b3 l.length 0 N (by omega) (by omega)
def RLess1Ok (O:Oracle)(f:FuncId):Prop:=∀(H:Heap) (a b:Nam),a.length<=1000000000->b.length<=1000000000->∃t:Bool,O f [.str a,.str b] H=some (.bool t,H)
theorem rless1_go {a b:Nam}(ha:a.length<=1000000000)(hb:b.length<=1000000000):∀(m i n:Nat),i+m=a.length->m<n->∃t:Bool,vr01LessC0S cal O N (fun v0 v1 H=>ob (llen H .str v0) fun t1 =>
  ob (llen H .str v1) fun t2 =>
  ob (lbin .lss t1 t2) fun t3 =>
  some (t3,H)) n (.str a) (.str b) (.int .i64 (i:Nat)) H=some (.bool t,H):=by
 intro m
 induction m with
 | zero =>
  intro i n hi hn;obtain⟨n,rfl⟩:∃j,n=j+1:=⟨n - 1,by omega⟩;rw[vr01LessC0S,llen_str,ob_some,lbin_lss,ob_some,decide_eq_false (by omega)];simp only[isB_ft,gq_false,ob_some,lpick_false,cnd_false,llen_str,lbin_lss];exact⟨_,rfl⟩
 | succ m ih =>
  intro i n hi hn;obtain⟨n,rfl⟩:∃j,n=j+1:=⟨n - 1,by omega⟩;rw[vr01LessC0S,llen_str,ob_some,lbin_lss,ob_some,decide_eq_true (by omega)];simp only[isB_tt,gq_true,ob_some,llen_str,lbin_lss,lpick_true];by_cases hib:(i:Int)<(b.length:Nat)
  ·rw[decide_eq_true hib,cnd_true];have ea:lixs (.str a) (.int .i64 (i:Nat))=some (.int .u8 (a[i]'(by omega)).toNat):=by rw[lixs_str,if_pos (by omega),Int.toNat_natCast,List.getElem?_eq_getElem (show i<a.length by omega)];rfl
   have eb:lixs (.str b) (.int .i64 (i:Nat))=some (.int .u8 (b[i]'(by omega)).toNat):=by rw[lixs_str,if_pos (by omega),Int.toNat_natCast,List.getElem?_eq_getElem (show i<b.length by omega)];rfl
   simp only[ea,eb,ob_some,lbin_neq,lbin_lss]
   cases decide ((((a[i]'(by omega)).toNat:Nat):Int)=(((b[i]'(by omega)).toNat:Nat):Int))with
   | false=>rw[Bool.not_false,cnd_true];exact⟨_,rfl⟩
   | true =>
    rw[Bool.not_true,cnd_false,lbin_add,ob_some,wrap_i64 (by omega) (by omega),show((i:Nat):Int)+1=((i+1:Nat):Int) by omega];exact ih (i+1) n (by omega) (by omega)
  ·rw[decide_eq_false hib,cnd_false];exact⟨_,rfl⟩
theorem rless1_s {a b:Nam}(ha:a.length<=1000000000)(hb:b.length<=1000000000):∃t:Bool,vr01LessS cal O (a.length+1) (.str a) (.str b) H=some (.bool t,H):=by
 unfold vr01LessS vr01LessC4S vr01LessC3S vr01LessC2S vr01LessC1S;exact rless1_go ha hb a.length 0 (a.length+1) (by omega) (by omega)
end
end Go.Shade
namespace Go.Shade
variable {H : Heap} {b i : Nat} {nm : Nam} {own : Nat -> Nat}
section
variable {cal : FuncId -> Bool} {O : Oracle} {N : Nat}
def RSet4Ok (O:Oracle)(f:FuncId):Prop:=∀(c:Nat) (own:Nat->Nat) (H:Heap) (b s:Nat) (R:List IV) (i:Nat) (nm:Nam) (w:Int),RB c own H b s R->c<1000000->i<=200->1<=w->w<=200->Wp (O f [.ptr b (1+i*9+7),.str nm,.int .i64 w] H) fun r=>(∃e:Int,r.1=.int .i64 e)/\RA (c+1) own H b s r.2
theorem bld1e {K:Heap}{e:Nam×Int}:lbldS K 2 1 [(.str []),(.int .i64 0)] [(0,.agg [.str e.1,.int .i64 e.2])]=some (.slice K.length 0 1 1 true 2,K++[.row [.str e.1,.int .i64 e.2] false]):=rfl
theorem rset4_go {fn fle:FuncId}(hl:RLess1Ok O fle){w:Int}{v:IV}{l:Dr}(hp:lload1 H (.ptr b (1+i*9+7))=some v)(hv:TS 2 (fun j=>own j=3*i+3) H v (fl (prs l)))(hlt:∀j,own j=3*i+3->j<H.length)(hb:b<H.length)(hle:l.length<=1000000)(he:∀e∈l,EntR e)(hnm:nm.length<=60)(hw:1<=w/\w<=200){gE0:IV->IV->IV->IV->IV->Heap->Option (IV×Heap)}{Q:Out->Prop}
  (hk:∀(K:Heap) (bv:IV) (done:Bool) (acc:Dr),Frame (fun j=>H.length<=j) H K->TS 2 (fun j=>H.length<=j) K bv (fl (prs acc))->(∀e∈acc,EntR e)->acc.length<=l.length+(if done=true then 1 else 0)->Wp (gE0 (.ptr b (1+i*9+7)) (.str nm) (.int .i64 w) bv (.bool done) K) Q) :
  ∀(m j n:Nat) (K:Heap) (bv:IV) (done:Bool) (acc:Dr),j+m=l.length->m<n->Frame (fun j=>H.length<=j) H K->TS 2 (fun j=>H.length<=j) K bv (fl (prs acc))->(∀e∈acc,EntR e)->acc.length<=j+(if done=true then 1 else 0) ->
   Wp (R4SetC0S cal O N fn fle gE0 n (.ptr b (1+i*9+7)) (.str nm) (.int .i64 w) bv (.bool done) (.int .i64 (j:Nat)) K) Q:=by
 intro m
 induction m with
 | zero =>
  intro j n K bv done acc hj hn hF hT hA hL;obtain⟨n,rfl⟩:∃j,n=j+1:=⟨n - 1,by omega⟩;have hv':=hv.frame hF fun j hj h=>by have:=hlt j hj;omega
  have hp':lload1 K (.ptr b (1+i*9+7))=some v:=by
   rw[lload1_ptr]at hp ⊢;rw[hF.2 b hb (by omega)];exact hp
  rw[R4SetC0S];simp only[lchk_ptr,loff_ptr,ob_some,Nat.add_zero,hp',hv'.len2,lbin_lss];rw[decide_eq_false (by omega),cnd_false];exact hk K bv done acc hF hT hA (by omega)
 | succ m ih =>
  intro j n K bv done acc hj hn hF hT hA hL;obtain⟨n,rfl⟩:∃j,n=j+1:=⟨n - 1,by omega⟩;have hlt':j<l.length:=by omega
  have old:∀(K:Heap),Frame (fun j=>H.length<=j) H K->lload1 K (.ptr b (1+i*9+7))=some v/\TS 2 (fun j=>own j=3*i+3) K v (fl (prs l)):=fun K hF=>⟨by rw[lload1_ptr]at hp ⊢;rw[hF.2 b hb (by omega)];exact hp,hv.frame hF fun j hj h=>by have:=hlt j hj;omega⟩;obtain⟨hp',hv'⟩:=old K hF;obtain⟨r,_,a1,a2,a3,a4⟩:=hv'.ix2 (List.getElem?_eq_getElem hlt');have hej:=he _ (List.getElem_mem hlt');rw[R4SetC0S];simp only[lchk_ptr,loff_ptr,ob_some,Nat.add_zero,hp',hv'.len2,lbin_lss];rw[decide_eq_true (by omega),cnd_true];simp only[jn_eq];have tail:∀(K2:Heap) (bv2:IV) (done2:Bool) (acc2:Dr),Frame (fun j=>H.length<=j) H K2->TS 2 (fun j=>H.length<=j) K2 bv2 (fl (prs acc2))->(∀e∈acc2,EntR e)->acc2.length<=j+(if done2=true then 1 else 0) ->
    Wp (ob (lload1 K2 (.ptr b (1+i*9+7))) fun t74 =>
     ob (lix 2 t74 (.int .i64 (j:Nat))) fun t75 =>
     ob (loff t75 0) fun t76 =>
     ob (lload1 K2 t76) fun t77 =>
     ob (lbin .neq t77 (.str nm)) fun t78 =>
     cnd t78
     (ob (lload1 K2 (.ptr b (1+i*9+7))) fun t81 =>
     ob (lix 2 t81 (.int .i64 (j:Nat))) fun t82 =>
     ob (lloadn K2 2 t82) fun t83 =>
     ob (lbldS K2 2 1 [(.str []),(.int .i64 0)] [(0,t83)]) fun r84 =>
     ob (lapp r84.2 2 24 bv2 r84.1) fun r85 =>
     ob (lbin .add (.int .i64 (j:Nat)) (.int .i64 1)) fun t47 =>
     R4SetC0S cal O N fn fle gE0 n (.ptr b (1+i*9+7)) (.str nm) (.int .i64 w) r85.1 (.bool done2) t47 r85.2)
     (ob (lbin .add (.int .i64 (j:Nat)) (.int .i64 1)) fun t47 =>
     R4SetC0S cal O N fn fle gE0 n (.ptr b (1+i*9+7)) (.str nm) (.int .i64 w) bv2 (.bool done2) t47 K2)) Q:=by
   intro K2 bv2 done2 acc2 q1 q2 q3 q4;obtain⟨hp2,hv2⟩:=old K2 q1;obtain⟨r2,_,c1,c2,c3,c4⟩:=hv2.ix2 (List.getElem?_eq_getElem hlt');have enx:lbin .add (.int .i64 (j:Nat)) (.int .i64 1)=some (.int .i64 ((j+1:Nat):Int)):=by rw[lbin_add,wrap_i64 (by omega) (by omega)];rfl
   simp only[hp2,ob_some,c1,loff_ptr,Nat.add_zero,c2,lbin_sneq,enx];refine Wp.ndec (fun _=> ?_) (fun _=> ?_)
   ·rw[c4,ob_some,bld1e,ob_some];refine Wp.call (app_ent q2 (by split at q4<;>omega)) ?_;rintro⟨bv3,K3⟩ ⟨u1,u2⟩;simp only at u1 u2 ⊢;refine ih (j+1) n K3 bv3 done2 (acc2++[l[j]]) (by omega) (by omega) (q1.tr u1) (u2.mono fun j' hj'=>Nat.le_trans q1.1 hj') (fun e hem=> ?_) (by simp;omega);rcases List.mem_append.1 hem with h | h
    ·exact q3 e h
    ·rw[List.mem_singleton]at h;subst h;exact hej
   ·exact ih (j+1) n K2 bv2 done2 acc2 (by omega) (by omega) q1 q2 q3 (by omega)
  cases done with
  | true =>
   simp only[iun_not,ob_some,Bool.not_true,isB_ft,gq_false,ge_false,lpick_false,cnd_false];exact tail K bv true acc hF hT hA hL
  | false =>
   obtain⟨t,ht⟩:=hl K l[j].1 nm (by have:=hej.2.2;omega) (by omega);simp only[iun_not,ob_some,Bool.not_false,isB_tt,gq_true,ge_true,lchk_ptr,hp',a1,loff_ptr,Nat.add_zero,a2,ht,lpick_true]
   cases t with
   | true =>
    rw[Bool.not_true,cnd_false];have:=tail K bv false acc hF hT hA hL;simp only[hp',ob_some,a1,loff_ptr,Nat.add_zero,a2]at this;exact this
   | false =>
    rw[Bool.not_false,cnd_true];have e2:lbld [(.str []),(.int .i64 0)] [(0,1,.str nm),(1,1,.int .i64 w)]=some (.agg [.str nm,.int .i64 w]):=rfl;rw[e2,ob_some,show lbldS K 2 1 [(.str []),(.int .i64 0)] [(0,.agg [.str nm,.int .i64 w])]=some (.slice K.length 0 1 1 true 2,K++[.row [.str nm,.int .i64 w] false])from rfl,ob_some];have hL':acc.length<=j:=by simpa using hL
    refine Wp.call (app_ent (e:=(nm,w)) hT (by omega)) ?_;rintro⟨bv3,K3⟩ ⟨u1,u2⟩;simp only at u1 u2 ⊢;refine tail K3 bv3 true (acc++[(nm,w)]) (hF.tr u1) (u2.mono fun j' hj'=>Nat.le_trans hF.1 hj') (fun e hem=> ?_) (by simp;omega);rcases List.mem_append.1 hem with h | h
    ·exact hA e h
    ·rw[List.mem_singleton]at h;subst h;exact⟨hw.1,hw.2,hnm⟩
theorem rset4_s (hN:1000001<N){fn fle:FuncId}(hn:RErrOk O fn)(hl:RLess1Ok O fle){c:Nat}{s:Nat}{R:List IV}{w:Int}(h:RB c own H b s R)(hc:c<1000000)(hi:i<=200)(hw1:1<=w)(hw2:w<=200) :
  Wp (R4SetS cal O N fn fle (.ptr b (1+i*9+7)) (.str nm) (.int .i64 w) H) fun r=>(∃e:Int,r.1=.int .i64 e)/\RA (c+1) own H b s r.2:=by
 have bad:∀e:Int,Wp (some ((IV.int .i64 e),H)) fun r=>(∃e:Int,r.1=.int .i64 e)/\RA (c+1) own H b s r.2:=fun e=>Wp.ret ⟨⟨e,rfl⟩,(RA.refl h).mono (by omega)⟩;unfold R4SetS R4SetC9S R4SetC8S R4SetC7S;obtain⟨e,he,hlen⟩:=hn H nm;rw[he,ob_some];simp only;rw[lbin_neq,ob_some];refine Wp.ndec (fun _=>bad e) (fun h0=> ?_);unfold R4SetC6S;rw[lbin_seq,ob_some];have rest:Wp (R4SetC5S cal O N fn fle (.ptr b (1+i*9+7)) (.str nm) (.int .i64 w) H) fun r=>(∃e:Int,r.1=.int .i64 e)/\RA (c+1) own H b s r.2:=by
  unfold R4SetC5S;have e1:lbldS H 2 0 [(.str []),(.int .i64 0)] []=some (.slice H.length 0 0 0 true 2,H++[.row [] false]):=rfl;rw[e1,ob_some];simp only;obtain⟨v,a1,_,a2⟩:=h.ptr hi (show 7<9 by omega);obtain⟨l,b1,b2,b3⟩:=RCell.list.1 a2;have hbl:=(ges h.row).1;unfold R4SetC4S R4SetC3S R4SetC2S R4SetC1S;have k1:Frame (fun j=>H.length<=j) H (H++[IObj.row [] false]):=Frame.push _ _ _;refine rset4_go hl a1 b1 (fun j hj=>h.lt j (by omega)) hbl (by omega) b3 (hlen h0) ⟨hw1,hw2⟩ ?_ l.length 0 N _ _ false [] (by omega) (by omega) k1 (.inr ⟨H.length,0,true,rfl,Nat.le_refl _,newRow,rfl⟩) (fun e h=>by cases h) (by simp);intro K bv done acc q1 q2 q3 q4;simp only[jn_eq];have fin:∀(K:Heap) (bv:IV) (acc:Dr),Frame (fun j=>H.length<=j) H K->TS 2 (fun j=>H.length<=j) K bv (fl (prs acc))->(∀e∈acc,EntR e)->acc.length<=l.length+1->Wp (ob (lchk (.ptr b (1+i*9+7))) fun t11 =>
    ob (loff t11 0) fun t12 =>
    ob (lstV K 1 t12 bv) fun r13 =>
    some ((IV.int .i64 0),r13.2)) fun r=>(∃e:Int,r.1=.int .i64 e)/\RA (c+1) own H b s r.2:=by
   intro K bv acc q1 q2 q3 q4;rw[lchk_ptr,ob_some,loff_ptr,ob_some,Nat.add_zero];refine Wp.call (h.newList (c':=c+1) (by omega) hi q1 q2 (by omega) q3) ?_;rintro⟨x,K2⟩ hRA;exact Wp.ret ⟨⟨0,rfl⟩,hRA⟩
  cases done with
  | true =>
   simp only[iun_not,ob_some,Bool.not_true,cnd_false];exact fin K bv acc q1 q2 q3 q4
  | false =>
   simp only[iun_not,ob_some,Bool.not_false,cnd_true];have e2:lbld [(.str []),(.int .i64 0)] [(0,1,.str nm),(1,1,.int .i64 w)]=some (.agg [.str nm,.int .i64 w]):=rfl;rw[e2,ob_some,show lbldS K 2 1 [(.str []),(.int .i64 0)] [(0,.agg [.str nm,.int .i64 w])]=some (.slice K.length 0 1 1 true 2,K++[.row [.str nm,.int .i64 w] false])from rfl,ob_some];have q4':acc.length<=l.length:=by simpa using q4
   refine Wp.call (app_ent (e:=(nm,w)) q2 (by omega)) ?_;rintro⟨bv3,K3⟩ ⟨u1,u2⟩;simp only at u1 u2 ⊢;refine fin K3 bv3 (acc++[(nm,w)]) (q1.tr u1) (u2.mono fun j' hj'=>Nat.le_trans q1.1 hj') (fun e hem=> ?_) (by simp;omega);rcases List.mem_append.1 hem with h' | h'
   ·exact q3 e h'
   ·rw[List.mem_singleton]at h';subst h';exact⟨hw1,hw2,hlen h0⟩
 cases decide (nm=[46])with
 | true=>simp only[isB_tf,gq_false,ob_some,lpick_true,cnd_true];exact bad 22
 | false =>
  simp only[isB_ff,gq_true,ob_some,lbin_seq,lpick_false]
  cases decide (nm=[46,46])with
  | true=>simp only[isB_tf,gq_false,ob_some,lpick_true,cnd_true];exact bad 22
  | false =>
   simp only[isB_ff,gq_true,ob_some,lbin_lss,lpick_false];rw[decide_eq_false (by omega),cnd_false];exact rest
def RDel4Ok (O:Oracle)(f:FuncId):Prop:=∀(c:Nat) (own:Nat->Nat) (H:Heap) (b s:Nat) (R:List IV) (i:Nat) (nm:Nam),RB c own H b s R->c<=1000000->i<=200->Wp (O f [.ptr b (1+i*9+7),.str nm] H) fun r=>RA c own H b s r.2
theorem rdel4_go {fg:FuncId}{v x6 x7:IV}{l:Dr}(hp:lload1 H (.ptr b (1+i*9+7))=some v)(hv:TS 2 (fun j=>own j=3*i+3) H v (fl (prs l)))(hlt:∀j,own j=3*i+3->j<H.length)(hb:b<H.length)(hle:l.length<=1000000)(he:∀e∈l,EntR e){gE0:IV->IV->IV->IV->Heap->Option (IV×Heap)}{Q:Out->Prop}
  (hk:∀(K:Heap) (bv:IV) (acc:Dr),Frame (fun j=>H.length<=j) H K->TS 2 (fun j=>H.length<=j) K bv (fl (prs acc))->(∀e∈acc,EntR e)->acc.length<=l.length->Wp (gE0 (.ptr b (1+i*9+7)) x6 x7 bv K) Q) :
  ∀(m j n:Nat) (K:Heap) (bv:IV) (acc:Dr),j+m=l.length->m<n->Frame (fun j=>H.length<=j) H K->TS 2 (fun j=>H.length<=j) K bv (fl (prs acc))->(∀e∈acc,EntR e)->acc.length<=j ->
   Wp (R4DelC0S cal O N fg gE0 n (.ptr b (1+i*9+7)) (.str nm) x6 x7 bv (.int .i64 (j:Nat)) K) Q:=by
 intro m
 induction m with
 | zero =>
  intro j n K bv acc hj hn hF hT hA hL;obtain⟨n,rfl⟩:∃j,n=j+1:=⟨n - 1,by omega⟩;have hv':=hv.frame hF fun j hj h=>by have:=hlt j hj;omega
  have hp':lload1 K (.ptr b (1+i*9+7))=some v:=by
   rw[lload1_ptr]at hp ⊢;rw[hF.2 b hb (by omega)];exact hp
  rw[R4DelC0S];simp only[lchk_ptr,loff_ptr,ob_some,Nat.add_zero,hp',hv'.len2,lbin_lss];rw[decide_eq_false (by omega),cnd_false];exact hk K bv acc hF hT hA (by omega)
 | succ m ih =>
  intro j n K bv acc hj hn hF hT hA hL;obtain⟨n,rfl⟩:∃j,n=j+1:=⟨n - 1,by omega⟩;have hlt':j<l.length:=by omega
  have hv':=hv.frame hF fun j hj h=>by have:=hlt j hj;omega
  have hp':lload1 K (.ptr b (1+i*9+7))=some v:=by
   rw[lload1_ptr]at hp ⊢;rw[hF.2 b hb (by omega)];exact hp
  obtain⟨r,_,a1,a2,a3,a4⟩:=hv'.ix2 (List.getElem?_eq_getElem hlt');have hej:=he _ (List.getElem_mem hlt');have enx:lbin .add (.int .i64 (j:Nat)) (.int .i64 1)=some (.int .i64 ((j+1:Nat):Int)):=by rw[lbin_add,wrap_i64 (by omega) (by omega)];rfl
  rw[R4DelC0S];simp only[lchk_ptr,loff_ptr,ob_some,Nat.add_zero,hp',hv'.len2,lbin_lss];rw[decide_eq_true (by omega),cnd_true];simp only[jn_eq,a1,ob_some,loff_ptr,Nat.add_zero,a2,lbin_sneq,enx];refine Wp.ndec (fun _=> ?_) (fun _=> ?_)
  ·rw[a4,ob_some,bld1e,ob_some];refine Wp.call (app_ent hT (by omega)) ?_;rintro⟨bv3,K3⟩ ⟨u1,u2⟩;simp only at u1 u2 ⊢;refine ih (j+1) n K3 bv3 (acc++[l[j]]) (by omega) (by omega) (hF.tr u1) (u2.mono fun j' hj'=>Nat.le_trans hF.1 hj') (fun e hem=> ?_) (by simp;omega);rcases List.mem_append.1 hem with h | h
   ·exact hA e h
   ·rw[List.mem_singleton]at h;subst h;exact hej
  ·exact ih (j+1) n K bv acc (by omega) (by omega) hF hT hA (by omega)
theorem rdel4_s (hN:1000001<N){fg:FuncId}(hg:RGet4Ok O fg){c:Nat}{s:Nat}{R:List IV}(h:RB c own H b s R)(hc:c<=1000000)(hi:i<=200) :
  Wp (R4DelS cal O N fg (.ptr b (1+i*9+7)) (.str nm) H) fun r=>RA c own H b s r.2:=by
 unfold R4DelS R4DelC6S R4DelC5S;obtain⟨x,e,he,_⟩:=hg c own H b s R i nm h hc hi;rw[he,ob_some,iextract_tuple,iextract_tuple];simp only[List.getElem?_cons_zero,List.getElem?_cons_succ,ob_some];unfold R4DelC4S;have e1:lbldS H 2 0 [(.str []),(.int .i64 0)] []=some (.slice H.length 0 0 0 true 2,H++[.row [] false]):=rfl;rw[e1,ob_some];simp only;obtain⟨v,a1,_,a2⟩:=h.ptr hi (show 7<9 by omega);obtain⟨l,b1,b2,b3⟩:=RCell.list.1 a2;have hbl:=(ges h.row).1;unfold R4DelC3S R4DelC2S R4DelC1S;have k1:Frame (fun j=>H.length<=j) H (H++[IObj.row [] false]):=Frame.push _ _ _;refine rdel4_go a1 b1 (fun j hj=>h.lt j (by omega)) hbl (by omega) b3 ?_ l.length 0 N _ _ [] (by omega) (by omega) k1 (.inr ⟨H.length,0,true,rfl,Nat.le_refl _,newRow,rfl⟩) (fun e h=>by cases h) (by simp);intro K bv acc q1 q2 q3 q4;simp only;rw[lchk_ptr,ob_some,loff_ptr,ob_some,Nat.add_zero];refine Wp.call (h.newList (c':=c) (Nat.le_refl _) hi q1 q2 (by omega) q3) ?_;rintro⟨y,K2⟩ hRA;exact Wp.ret hRA
end
end Go.Shade
namespace Go.Shade
variable {H : Heap} {R : List IV} {b c s : Nat} {fs : FuncId} {i : Int} {nm : Nam} {own : Nat -> Nat}
section
variable {cal : FuncId -> Bool} {O : Oracle} {N : Nat}
def RGetOk (O:Oracle)(f:FuncId):Prop:=∀(c:Nat) (own:Nat->Nat) (H:Heap) (b s:Nat) (R:List IV) (i:Int) (nm:Nam),RB c own H b s R->c<=1000000->∃v e:Int,O f [.ptr b 0,.int .i64 i,.str nm] H=some (.tuple [.int .i64 v,.int .i64 e],H)/\(e=0->(1<=v/\v<=200)/\1<=i/\i<=200)
theorem rget_s {fd fg:FuncId}(hd:RDirOk O fd)(hg:RGet4Ok O fg)(h:RB c own H b s R)(hc:c<=1000000):∃v e:Int,R5GetS cal O N fd fg (.ptr b 0) (.int .i64 i) (.str nm) H=some (.tuple [.int .i64 v,.int .i64 e],H)/\(e=0->(1<=v/\v<=200)/\1<=i/\i<=200):=by
 unfold R5GetS;obtain⟨e,he,hi⟩:=hd c own H b s R i false h;rw[he,ob_some];simp only;rw[lbin_neq,ob_some];by_cases h0:e=0
 ·rw[decide_eq_true h0,Bool.not_true,cnd_false];obtain⟨i1,i2⟩:=hi h0;obtain⟨n,rfl⟩:∃n:Nat,i=(n:Nat):=⟨i.toNat,by omega⟩;obtain⟨v,e',he',hv⟩:=hg c own H b s R n nm h hc (by omega);simp only[lchk_ptr,loff_ptr,ob_some,Nat.zero_add,rixa (show n<=200 by omega),he',iextract_tuple,List.getElem?_cons_zero,List.getElem?_cons_succ];exact⟨v,e',rfl,fun h=>⟨hv h,i1,i2⟩⟩
 ·rw[decide_eq_false h0,Bool.not_false,cnd_true];exact⟨0,e,rfl,fun h=>absurd h h0⟩
def RVacOk (O:Oracle)(f:FuncId):Prop:=∀(c:Nat) (own:Nat->Nat) (H:Heap) (b s:Nat) (R:List IV) (i:Int) (nm:Nam),RB c own H b s R->c<=1000000->∃e:Int,O f [.ptr b 0,.int .i64 i,.str nm] H=some (.int .i64 e,H)/\(e=0->1<=i/\i<=200)
theorem rvac_s {fd fg:FuncId}(hd:RDirOk O fd)(hs:RErrOk O fs)(hg:RGet4Ok O fg)(h:RB c own H b s R)(hc:c<=1000000):∃e:Int,R5VacantS cal O N fd fs fg (.ptr b 0) (.int .i64 i) (.str nm) H=some (.int .i64 e,H)/\(e=0->1<=i/\i<=200):=by
 unfold R5VacantS;obtain⟨e,he,hi⟩:=hd c own H b s R i true h;rw[he,ob_some];simp only;rw[lbin_neq,ob_some];by_cases h0:e=0
 ·rw[decide_eq_true h0,Bool.not_true,cnd_false];obtain⟨i1,i2⟩:=hi h0;obtain⟨n,rfl⟩:∃n:Nat,i=(n:Nat):=⟨i.toNat,by omega⟩;obtain⟨e2,he2,_⟩:=hs H nm;rw[he2,ob_some];simp only;rw[lbin_neq,ob_some];by_cases h2:e2=0
  ·rw[decide_eq_true h2,Bool.not_true,cnd_false];obtain⟨v,e',he',hv⟩:=hg c own H b s R n nm h hc (by omega);simp only[lchk_ptr,loff_ptr,ob_some,Nat.zero_add,rixa (show n<=200 by omega),he',iextract_tuple,List.getElem?_cons_zero,List.getElem?_cons_succ,lbin_eql]
   cases decide (e'=0)with
   | true=>rw[cnd_true];exact⟨17,rfl,fun e=>by cases e⟩
   | false=>rw[cnd_false];exact⟨0,rfl,fun _=>⟨i1,i2⟩⟩
  ·rw[decide_eq_false h2,Bool.not_false,cnd_true];exact⟨e2,rfl,fun h=>absurd h h2⟩
 ·rw[decide_eq_false h0,Bool.not_false,cnd_true];exact⟨e,rfl,fun h=>absurd h h0⟩
def RMarkOk (O:Oracle)(f:FuncId):Prop:=∀(c:Nat) (own:Nat->Nat) (H:Heap) (b s:Nat) (R:List IV) (i v:Int),RB c own H b s R->Wp (O f [.ptr b 0,.int .i64 i,.int .i64 v] H) fun r=>RA c own H b s r.2
theorem RB.ints (h:RB c own H b s R){i k:Nat}{v:Int}(hi:i<=200)(hk:k<4):lstV H 1 (.ptr b (1+i*9+k)) (.int .i64 v)=some (.tuple [],H.set b (.row (R.set (1+9*i+k) (.int .i64 v)) false))/\RB c own (H.set b (.row (R.set (1+9*i+k) (.int .i64 v)) false)) b s (R.set (1+9*i+k) (.int .i64 v))/\Frame (fun j=>own j≠0) H (H.set b (.row (R.set (1+9*i+k) (.int .i64 v)) false)):=by
 refine⟨?_,h.set hi (by omega) (RCell.scal hk v),Frame.set _ _ (by rw[h.ob];decide)⟩;rw[show 1+i*9+k=1+9*i+k by omega,st1 h.row (by simp only[one_int]) (by rw[h.len];omega)]
theorem rmark_s {fi:FuncId}(hi:RIsOk O fi){v:Int}(h:RB c own H b s R):Wp (R5MarkS cal O N fi (.ptr b 0) (.int .i64 i) (.int .i64 v) H) fun r=>RA c own H b s r.2:=by
 unfold R5MarkS;obtain⟨t,e,ht⟩:=hi c own H b s R i h;rw[e,ob_some]
 cases t with
 | false=>simp only[iun_not,ob_some,Bool.not_false,cnd_true];exact Wp.ret (RA.refl h)
 | true =>
  obtain⟨a1,a2⟩:=ht rfl;obtain⟨n,rfl⟩:∃n:Nat,i=(n:Nat):=⟨i.toNat,by omega⟩;obtain⟨q1,q2,q3⟩:=h.ints (i:=n) (k:=3) (v:=v) (by omega) (by omega);simp only[iun_not,ob_some,Bool.not_true,cnd_false,lchk_ptr,loff_ptr,Nat.zero_add,rixa (show n<=200 by omega),q1];exact Wp.ret ⟨own,_,q2,q3,fun _ h=>.inl h⟩
def RMakeOk (O:Oracle)(f:FuncId):Prop:=∀(c:Nat) (own:Nat->Nat) (H:Heap) (b s:Nat) (R:List IV) (i:Int) (nm:Nam) (k:Int) (t:Nam),RB c own H b s R->c<1000000->Wp (O f [.ptr b 0,.int .i64 i,.str nm,.int .i64 k,.str t] H) fun r=>RA (c+1) own H b s r.2
theorem rmake_go {fv:FuncId}{v1 v2 v3 v4:IV}(h:RB c own H b s R){gE0:IV->IV->IV->IV->IV->IV->Heap->Option (IV×Heap)}{Q:Out->Prop} (hk:∀n:Nat,1<=n->n<=201->Wp (gE0 (.ptr b 0) v1 v2 v3 v4 (.int .i64 (n:Nat)) H) Q) :
  ∀(m j n:Nat),j+m=201->1<=j->m<n->Wp (R5MakeC0S cal O N fv fs gE0 n (.ptr b 0) v1 v2 v3 v4 (.int .i64 (j:Nat)) H) Q:=by
 intro m
 induction m with
 | zero =>
  intro j n hj h1 hn;obtain⟨n,rfl⟩:∃j,n=j+1:=⟨n - 1,by omega⟩;rw[R5MakeC0S,lbin_leq,ob_some,decide_eq_false (by omega)];simp only[isB_ft,gq_false,ob_some,lpick_false,cnd_false];exact hk j h1 (by omega)
 | succ m ih =>
  intro j n hj h1 hn;obtain⟨n,rfl⟩:∃j,n=j+1:=⟨n - 1,by omega⟩;obtain⟨z,e,_⟩:=h.int (i:=j) (k:=0) (by omega) (by omega);have e':lload1 H (.ptr b (1+j*9))=some (.int .i64 z):=e;rw[R5MakeC0S,lbin_leq,ob_some,decide_eq_true (by omega)];simp only[isB_tt,gq_true,ob_some,lchk_ptr,loff_ptr,Nat.zero_add,Nat.add_zero,rixa (show j<=200 by omega),e',lbin_neq,lpick_true];refine Wp.ndec (fun _=> ?_) (fun _=>hk j h1 (by omega));rw[lbin_add,ob_some,wrap_i64 (by omega) (by omega),show((j:Nat):Int)+1=((j+1:Nat):Int) by omega];exact ih (j+1) n (by omega) (by omega) (by omega)
theorem RB.node {c:Nat}{own:Nat->Nat}{H:Heap}{b s:Nat}{R:List IV}(h:RB c own H b s R){i:Nat}(hi:i<=200){k p:Int}{l:Int}{t:Nam}(hp:0<=p/\p<=200) :
  ∃H' R',lstV H 9 (.ptr b (1+i*9)) (.agg [.int .i64 k,.int .i64 l,.int .i64 0,.int .i64 0,.int .i64 p,.nilSlice,.nilSlice,.nilSlice,.str t])=some (.tuple [],H')/\RB c own H' b s R'/\Frame (fun j=>own j≠0) H H':=by
 let cs:List IV:=[.int .i64 k,.int .i64 l,.int .i64 0,.int .i64 0,.int .i64 p,.nilSlice,.nilSlice,.nilSlice,.str t]
 have hst:lstV H 9 (.ptr b (1+i*9)) (.agg cs)=some (.tuple [],H.set b (.row (putAt R (1+i*9) cs) false)):=by
  rw[lstV_ptr,h.row];unfold putO;simp only[IV.cells,isTuple];rw[if_pos ⟨trivial,rfl,by rw[h.len];show 1+i*9+9<=1810;omega,rfl⟩];rfl
 have hle:1+i*9+cs.length<=R.length:=by rw[h.len];show 1+i*9+9<=1810;omega
 refine⟨_,putAt R (1+i*9) cs,hst,h.put (by rw[putAt_length hle];exact h.len) (by rw[putAt_get hle,if_neg (by omega)]) fun i' k' hi' hk'=> ?_,Frame.set _ _ (by rw[h.ob];decide)⟩;rw[putAt_get hle];by_cases e:i'=i
 ·subst e;right;have hcl:cs.length=9:=rfl;rw[hcl,if_pos (show 1+i'*9<=1+9*i'+k'/\1+9*i'+k'<1+i'*9+9 by omega),show 1+9*i'+k' - (1+i'*9)=k' by omega]
  match k',hk' with
  | 0,_=>exact⟨_,rfl,RCell.scal (by omega) _⟩
  | 1,_=>exact⟨_,rfl,RCell.scal (by omega) _⟩
  | 2,_=>exact⟨_,rfl,RCell.scal (by omega) _⟩
  | 3,_=>exact⟨_,rfl,RCell.scal (by omega) _⟩
  | 4,_=>exact⟨_,rfl,RCell.par hp⟩
  | 5,_=>exact⟨_,rfl,RCell.nil (by omega) (by omega)⟩
  | 6,_=>exact⟨_,rfl,RCell.nil (by omega) (by omega)⟩
  | 7,_=>exact⟨_,rfl,RCell.nil (by omega) (by omega)⟩
  | 8,_=>exact⟨_,rfl,RCell.targ t⟩
 ·left;have hcl:cs.length=9:=rfl;rw[hcl,if_neg (show ¬(1+i*9<=1+9*i'+k'/\1+9*i'+k'<1+i*9+9) by omega)]
theorem rmake_s (hN:202<N){fv:FuncId}(hv:RVacOk O fv)(hs:RSet4Ok O fs){k:Int}{t:Nam}(h:RB c own H b s R)(hc:c<1000000) :
  Wp (R5MakeS cal O N fv fs (.ptr b 0) (.int .i64 i) (.str nm) (.int .i64 k) (.str t) H) fun r=>RA (c+1) own H b s r.2:=by
 have bad:∀v:IV,Wp (some (v,H)) fun r=>RA (c+1) own H b s r.2:=fun v=>Wp.ret ((RA.refl h).mono (by omega));unfold R5MakeS R5MakeC7S R5MakeC6S R5MakeC5S;obtain⟨e,he,hi⟩:=hv c own H b s R i nm h (by omega);rw[he,ob_some];simp only;rw[lbin_neq,ob_some];refine Wp.ndec (fun _=>bad _) (fun h0=> ?_);obtain⟨i1,i2⟩:=hi h0;obtain⟨d,rfl⟩:∃n:Nat,i=(n:Nat):=⟨i.toNat,by omega⟩;have rest:Wp (R5MakeC3S cal O N fv fs (.ptr b 0) (.int .i64 (d:Nat)) (.str nm) (.int .i64 k) (.str t) H) fun r=>RA (c+1) own H b s r.2:=by
  unfold R5MakeC3S R5MakeC2S R5MakeC1S;refine rmake_go h ?_ 200 1 N (by omega) (by omega) (by omega);intro n n1 n201;simp only;rw[lbin_gtr,ob_some];refine Wp.dec (fun _=>bad _) (fun hn=> ?_);have e1:lbld [(.int .i64 0),(.int .i64 0),(.int .i64 0),(.int .i64 0),(.int .i64 0),.nilSlice,.nilSlice,.nilSlice,(.str [])] [(0,1,.int .i64 k),(1,1,(.int .i64 1)),(8,1,.str t)]=some (.agg [.int .i64 k,.int .i64 1,.int .i64 0,.int .i64 0,.int .i64 0,.nilSlice,.nilSlice,.nilSlice,.str t]):=rfl;rw[e1,ob_some,lzbox_eq,ob_some];simp only[cells_agg];rw[stn (n:=9) newRow rfl rfl rfl,ob_some,setRow];simp only[jn_eq];have k1:Frame NoF H (H++[IObj.row [.int .i64 k,.int .i64 1,.int .i64 0,.int .i64 0,.int .i64 0,.nilSlice,.nilSlice,.nilSlice,.str t] false]):=Frame.push _ _ _;have r1:(H++[IObj.row [.int .i64 k,.int .i64 1,.int .i64 0,.int .i64 0,.int .i64 0,.nilSlice,.nilSlice,.nilSlice,.str t] false])[H.length]? =some (.row [.int .i64 k,.int .i64 1,.int .i64 0,.int .i64 0,.int .i64 0,.nilSlice,.nilSlice,.nilSlice,.str t] false):=newRow;generalize H++[IObj.row [.int .i64 k,.int .i64 1,.int .i64 0,.int .i64 0,.int .i64 0,.nilSlice,.nilSlice,.nilSlice,.str t] false]=K at *;have fin:∀(K:Heap) (p:Int),Frame NoF H K->K[H.length]? =some (.row [.int .i64 k,.int .i64 1,.int .i64 0,.int .i64 0,.int .i64 p,.nilSlice,.nilSlice,.nilSlice,.str t] false)->0<=p/\p<=200->Wp (ob (lloadn K 9 (.ptr H.length 0)) fun t10 =>
    ob (lchk (.ptr b 0)) fun t11 =>
    ob (loff t11 1) fun t12 =>
    ob (lixa 201 9 t12 (.int .i64 (n:Nat))) fun t13 =>
    ob (lstV K 9 t13 t10) fun r14 =>
    ob (lchk (.ptr b 0)) fun t15 =>
    ob (loff t15 1) fun t16 =>
    ob (lixa 201 9 t16 (.int .i64 (d:Nat))) fun t17 =>
    ob (loff t17 7) fun t18 =>
    ob (O fs [t18,.str nm,.int .i64 (n:Nat)] r14.2) fun r19 =>
    some ((IV.tuple [.int .i64 (n:Nat),(.int .i64 0)]),r19.2)) fun r=>RA (c+1) own H b s r.2:=by
   intro K p q1 q2 q3;obtain⟨H',R',u1,u2,u3⟩:=(h.kp q1).node (i:=n) (by omega) (k:=k) (l:=1) (p:=p) (t:=t) q3;rw[ldn (n:=9) q2 rfl];simp only[ob_some,lchk_ptr,loff_ptr,Nat.zero_add,rixa (show n<=200 by omega),rixa (show d<=200 by omega),u1];refine Wp.call (hs c own H' b s R' d nm (n:Nat) u2 hc (by omega) (by omega) (by omega)) ?_;rintro⟨w,K2⟩ ⟨_,hRA⟩;have hA:RA c own H b s H':=⟨own,R',u2,q1.no.tr u3,fun _ h=>.inl h⟩;obtain⟨own2,R2,g1,g2,g3⟩:=hRA;exact Wp.ret ⟨own2,R2,g1,(q1.no.tr u3).tr g2,fun j hj=>(g3 j hj).imp (fun h=>h) fun h=>by have:=(q1.no.tr u3:Frame (fun j=>own j≠0) H H').1;omega⟩
  rw[lbin_eql,ob_some];refine Wp.dec (fun hk=> ?_) (fun _=>fin K 0 k1 r1 (by omega));rw[loff_ptr,ob_some,Nat.zero_add,st1 r1 (by simp only[one_int]) (by simp),ob_some];exact fin _ (d:Nat) (k1.setNew _ (Nat.le_refl _)) (by rw[setAt r1];rfl) (by omega)
 unfold R5MakeC4S;have hb:∀x:Bool,Wp (cnd (.bool x) (some ((IV.tuple [(.int .i64 0),(.int .i64 22)]),H)) (R5MakeC3S cal O N fv fs (.ptr b 0) (.int .i64 (d:Nat)) (.str nm) (.int .i64 k) (.str t) H)) fun r=>RA (c+1) own H b s r.2:=by
  intro x
  cases x with
  | true=>rw[cnd_true];exact bad _
  | false=>rw[cnd_false];exact rest
 rw[lbin_lss,ob_some];have hut:isB (.tuple []) true=false:=rfl;have huf:isB (.tuple []) false=false:=rfl;have tail:∀x:Bool,Wp (ob (gq (isB (.bool x) false) (some (.int .i64 k))) fun t12 =>
  ob (gq (isB (.bool x) false) (lbin .eql t12 (.int .i64 3))) fun t13 =>
  ob (gq (isB (.bool x) false) (some t13)) fun t14 =>
  ob (gq (isB t14 true) (some (.str t))) fun t15 =>
  ob (gq (isB t14 true) (lbin .eql t15 (.str []))) fun t16 =>
  ob (gq (isB t14 true) (some t16)) fun t17 =>
  ob (gq (isB t17 false) (some (.str t))) fun t18 =>
  ob (gq (isB t17 false) (llen H .str t18)) fun t19 =>
  ob (gq (isB t17 false) (lbin .gtr t19 (.int .i64 400))) fun t20 =>
  ob (gq (isB t14 true) (lpick t17 (.bool true) t20)) fun t21 =>
  ob (gq (isB (.bool x) false) (lpick t14 t21 (.bool false))) fun t22 =>
  ob (lpick (.bool x) (.bool true) t22) fun t23 =>
  cnd t23
  (some ((IV.tuple [(.int .i64 0),(.int .i64 22)]),H))
  (R5MakeC3S cal O N fv fs (.ptr b 0) (.int .i64 (d:Nat)) (.str nm) (.int .i64 k) (.str t) H)) fun r=>RA (c+1) own H b s r.2:=by
  intro x
  cases x with
  | true =>
   simp only[isB_tf,gq_false,ob_some,hut,huf,lpick_true];exact hb true
  | false =>
   simp only[isB_ff,gq_true,ob_some,lbin_eql]
   cases decide (k=3)with
   | false =>
    simp only[isB_ft,gq_false,ob_some,hut,huf,lpick_false];exact hb false
   | true =>
    simp only[isB_tt,gq_true,ob_some,lbin_seq]
    cases decide (t=[])with
    | true =>
     simp only[isB_tf,gq_false,ob_some,lpick_true,lpick_false];exact hb true
    | false =>
     simp only[isB_ff,gq_true,ob_some,llen_str,lbin_gtr,lpick_true,lpick_false];exact hb _
 cases decide (k<1)with
 | true =>
  simp only[isB_tf,gq_false,ob_some,lpick_true,hut,huf];have:=tail true;simp only[isB_tf,gq_false,ob_some,lpick_true,hut,huf]at this;exact this
 | false =>
  simp only[isB_ff,gq_true,ob_some,lbin_gtr,lpick_false]
  cases decide (4<k)with
  | true =>
   simp only[isB_tf,gq_false,ob_some,lpick_true,hut,huf];have:=tail true;simp only[isB_tf,gq_false,ob_some,lpick_true,hut,huf]at this;exact this
  | false =>
   simp only[isB_ff,gq_true,ob_some,lbin_neq,lpick_false]
   cases decide (k=3)with
   | true =>
    simp only[Bool.not_true,isB_ft,gq_false,ob_some,lpick_false];exact tail false
   | false =>
    simp only[Bool.not_false,isB_tt,gq_true,ob_some,lbin_sneq,lpick_true];exact tail _
end
end Go.Shade
namespace Go.Shade
variable {R : List IV} {b c s : Nat} {own : Nat -> Nat}
section
variable {c c' : Nat} {own : Nat -> Nat} {H H' K : Heap} {b s i k : Nat} {R : List IV}
theorem RB.newCell (h:RB c own H b s R)(hc:c<=c')(hi:i<=200)(hk5:5<=k)(hk7:k<=7){v:IV}(hv1:v.one=true)(hK:Frame (fun j=>H.length<=j) H K)(hv:∀own':Nat->Nat,(∀j,H.length<=j->j<K.length->own' j=3*i+(k - 4))->RCell c' own' K i k v) :
  Wp (lstV K 1 (.ptr b (1+i*9+k)) v) fun r=>RA c' own H b s r.2:=by
 have hK':∀{F:Nat->Prop},Frame F H K:=⟨hK.1,fun j hj _=>hK.2 j hj (by omega)⟩;have hrow:K[b]? =some (.row R false):=(hK' (F:=NoF)).get (fun h=>h) h.row;have hP:∀j,(H.length<=j/\j<K.length)->own j=3*i+(k - 4)∨H.length<=j:=fun j hj=>.inr hj.1;have:=h.upd hc hi hk5 hk7 hK' hP (fun j hj=>hj.2) (hv _ fun j h1 h2=>(ownSet_same (own:=own) (by omega) j).1 ⟨h1,h2⟩);rw[show 1+i*9+k=1+9*i+k by omega,st1 hrow hv1 (by rw[h.len];omega)];refine⟨_,rfl,_,_,this,?_,fun j hj=>ownSet_ok hP j hj (by omega)⟩;exact hK'.tr (Frame.set _ _ (by rw[h.ob];decide))
theorem RB.inpl (h:RB c own H b s R)(hi:i<=200)(hk5:5<=k)(hk7:k<=7)(hF:Frame (fun j=>own j=3*i+(k - 4)) H H')(hv:∀v,R[1+9*i+k]? =some v->RCell c own H' i k v):RB c own H' b s R:=by
 obtain⟨x,y,hs⟩:=h.sto;have hbo:=h.ob;have hso:=h.os;refine⟨h.ob,hF.get (by omega) h.row,h.len,h.r0,h.os,⟨x,y,hF.get (by omega) hs⟩,fun i' k' hi' hk'=> ?_,fun j hj=>Nat.lt_of_lt_of_le (h.lt j hj) hF.1⟩;obtain⟨w,a,d⟩:=h.cel i' k' hi' hk';by_cases e:1+9*i+k=1+9*i'+k'
 ·have e1:i'=i:=by omega
  have e2:k'=k:=by omega
  subst e1 e2;exact⟨w,a,hv w a⟩
 ·exact⟨w,a,d.frame (t:=3*i+(k - 4)) (Nat.le_refl c) hF (fun j _ _ h=>h) (fun u _ _ j=>Iff.rfl) (by omega) hi'⟩
theorem RB.stoSet (h:RB c own H b s R)(x y:Int):RB c own (H.set s (.row [.int .i64 x,.int .i64 y] false)) b s R:=by
 obtain⟨x',y',hs⟩:=h.sto;have hF:Frame (fun j=>j=s) H (H.set s (.row [.int .i64 x,.int .i64 y] false)):=Frame.set _ _ rfl;have hbo:=h.ob;have hso:=h.os;refine⟨h.ob,hF.get (fun e=>by subst e;omega) h.row,h.len,h.r0,h.os,⟨x,y,setAt hs⟩,fun i k hi hk=> ?_,fun j hj=>by rw[List.length_set];exact h.lt j hj⟩;obtain⟨w,a,d⟩:=h.cel i k hi hk;exact⟨w,a,d.frame (t:=0) (Nat.le_refl c) hF (fun j _ h7 _ e=>by subst e;omega) (fun u _ _ j=>Iff.rfl) (.inl rfl) hi⟩
end
section
variable {cal : FuncId -> Bool} {O : Oracle} {N : Nat}
def RLinkOk (O:Oracle)(f:FuncId):Prop:=∀(c:Nat) (own:Nat->Nat) (H:Heap) (b s:Nat) (R:List IV) (i:Int) (nm:Nam) (t:Int),RB c own H b s R->c<1000000->Wp (O f [.ptr b 0,.int .i64 i,.str nm,.int .i64 t] H) fun r=>RA (c+1) own H b s r.2
theorem rlink_s {fv fi fs:FuncId}(hv:RVacOk O fv)(hi:RIsOk O fi)(hs:RSet4Ok O fs){H:Heap}{i:Int}{nm:Nam}{t:Int}(h:RB c own H b s R)(hc:c<1000000) :
  Wp (R5LinkS cal O N fv fi fs (.ptr b 0) (.int .i64 i) (.str nm) (.int .i64 t) H) fun r=>RA (c+1) own H b s r.2:=by
 have bad:∀v:IV,Wp (some (v,H)) fun r=>RA (c+1) own H b s r.2:=fun v=>Wp.ret ((RA.refl h).mono (by omega));unfold R5LinkS;obtain⟨e,he,hi'⟩:=hv c own H b s R i nm h (by omega);rw[he,ob_some];simp only;rw[lbin_neq,ob_some];refine Wp.ndec (fun _=>bad _) (fun h0=> ?_);obtain⟨i1,i2⟩:=hi' h0;obtain⟨d,rfl⟩:∃n:Nat,i=(n:Nat):=⟨i.toNat,by omega⟩;obtain⟨x,ex,hx⟩:=hi c own H b s R t h;rw[ex,ob_some]
 cases x with
 | false =>
  simp only[iun_not,ob_some,Bool.not_false,isB_tf,gq_false,lpick_true,cnd_true];exact bad _
 | true =>
  obtain⟨t1,t2⟩:=hx rfl;obtain⟨n,rfl⟩:∃n:Nat,t=(n:Nat):=⟨t.toNat,by omega⟩;obtain⟨z1,e1,_⟩:=h.int (i:=n) (k:=1) (by omega) (by omega);obtain⟨z0,e0,_⟩:=h.int (i:=n) (k:=0) (by omega) (by omega);have e0':lload1 H (.ptr b (1+n*9))=some (.int .i64 z0):=e0;simp only[iun_not,ob_some,Bool.not_true,isB_ff,gq_true,lchk_ptr,loff_ptr,Nat.zero_add,Nat.add_zero,rixa (show n<=200 by omega),rixa (show d<=200 by omega),e1,e0',lbin_eql,lpick_false,lbin_geq,lbin_add];refine Wp.dec (fun _=>bad _) (fun _=> ?_);refine Wp.dec (fun _=>bad _) (fun _=> ?_);refine Wp.dec (fun _=>bad _) (fun _=> ?_);obtain⟨q1,q2,q3⟩:=h.ints (i:=n) (k:=1) (v:=IntKind.wrap .i64 (z1+1)) (by omega) (by omega);rw[q1,ob_some];simp only;refine Wp.call (hs c own _ b s _ d nm (n:Nat) q2 hc (by omega) (by omega) (by omega)) ?_;rintro⟨w,K2⟩ ⟨_,own2,R2,g1,g2,g3⟩;exact Wp.ret ⟨own2,R2,g1,q3.tr g2,fun j hj=>(g3 j hj).imp (fun h=>h) fun h=>by rw[List.length_set]at h;exact h⟩
def RCutOk (O:Oracle)(f:FuncId):Prop:=∀(c:Nat) (own:Nat->Nat) (H:Heap) (b s:Nat) (R:List IV) (i:Nat),RB c own H b s R->i<=200->Wp (O f [.ptr s 0,.ptr b (1+i*9+5),.int .i64 0] H) fun r=>RA c own H b s r.2
theorem rcut_go {H0:Heap}{i:Nat}{w7:IV}(hi:i<=200)(hw:∀H,llen H .slice w7=some (.int .i64 0)) :
  ∀(m j n:Nat) (H:Heap) (bs:List Bool) (v:IV),j+m=bs.length->m<n->RB c own H b s R->Frame (fun j=>own j≠0) H0 H->R[1+9*i+6]? =some v->TS 1 (fun j=>own j=3*i+2) H v (bs.map .bool)->bs.length<=4096 ->
   Wp (R3sCutC3S cal O N (fun H=>some ((.int .i64 0),H)) n (.ptr s 0) (.ptr b (1+i*9+5)) w7 (.int .i64 (j:Nat)) H) fun r=>RB c own r.2 b s R/\Frame (fun j=>own j≠0) H0 r.2:=by
 intro m
 induction m with
 | zero =>
  intro j n H bs v hj hn h hF hv hT hb;obtain⟨n,rfl⟩:∃j,n=j+1:=⟨n - 1,by omega⟩;have e6:lload1 H (.ptr b (1+i*9+5+1))=some v:=by rw[ld1 h.row,show 1+i*9+5+1=1+9*i+6 by omega];exact hv
  have hl:=hT.len (n:=bs.length) (by omega) (by simp);rw[R3sCutC3S];simp only[lchk_ptr,loff_ptr,ob_some,e6,hl,lbin_lss];rw[decide_eq_false (by omega),cnd_false];exact Wp.ret ⟨h,hF⟩
 | succ m ih =>
  intro j n H bs v hj hn h hF hv hT hb;obtain⟨n,rfl⟩:∃j,n=j+1:=⟨n - 1,by omega⟩;have e6:lload1 H (.ptr b (1+i*9+5+1))=some v:=by rw[ld1 h.row,show 1+i*9+5+1=1+9*i+6 by omega];exact hv
  have hl:=hT.len (n:=bs.length) (by omega) (by simp);have hlt:j<bs.length:=by omega
  have hT':=hT;rcases hT with⟨_,he⟩ | ⟨r,n',ex,rfl,t1,t2,t3⟩
  ·have he':bs=[]:=List.map_eq_nil_iff.1 he;subst he';simp at hlt
  ·have hn':n'=bs.length:=by have h':=t3;rw[List.length_map]at h';omega
   have ex1:lix 1 (.slice r 0 n' n' ex 1) (.int .i64 (j:Nat))=some (.ptr r j):=by rw[lix_slice,if_pos (by omega)];simp
   have ex2:lload1 H (.ptr r j)=some (.bool bs[j]):=by rw[ld1 t2];simp[hlt]
   have enx:lbin .add (.int .i64 (j:Nat)) (.int .i64 1)=some (.int .i64 ((j+1:Nat):Int)):=by rw[lbin_add,wrap_i64 (by omega) (by omega)];rfl
   rw[R3sCutC3S];simp only[lchk_ptr,loff_ptr,ob_some,e6,hl,lbin_lss];rw[decide_eq_true (by omega),cnd_true];simp only[jn_eq,ex1,ob_some,ex2,hw,enx];have stay:=ih (j+1) n H bs _ (by omega) (by omega) h hF hv hT' hb
   cases hbj:bs[j]with
   | false =>
    simp only[isB_ft,gq_false,ob_some,lpick_false,cnd_false];exact stay
   | true =>
    have em:lbin .mul (.int .i64 (j:Nat)) (.int .i64 16)=some (.int .i64 ((j*16:Nat):Int)):=by rw[lbin_mul,wrap_i64 (by omega) (by omega)];rfl
    simp only[isB_tt,gq_true,ob_some,em,hw,lbin_geq,lpick_true,Nat.zero_add];refine Wp.dec (fun _=> ?_) (fun _=>stay);rw[st1 t2 (by simp only[one_bool]) (by simpa using hlt),ob_some];simp only;have hset:(bs.map IV.bool).set j (.bool false)=(bs.set j false).map .bool:=by rw[List.map_set]
    rw[hset];have kF:Frame (fun x=>own x=3*i+(6 - 4)) H (H.set r (.row ((bs.set j false).map .bool) false)):=Frame.set _ _ t1;have hT2:TS 1 (fun j=>own j=3*i+2) (H.set r (.row ((bs.set j false).map .bool) false)) (.slice r 0 n' n' ex 1) ((bs.set j false).map .bool):=.inr ⟨r,n',ex,rfl,t1,setAt t2,by simp;omega⟩;have h2:=h.inpl hi (k:=6) (by omega) (by omega) kF (fun v' hv'=>by
     rw[hv]at hv';cases hv'
     exact RCell.there.2 ⟨bs.set j false,hT2,by simpa using hb⟩)
    obtain⟨x,y,hs⟩:=h2.sto;have es:lload1 (H.set r (.row ((bs.set j false).map .bool) false)) (.ptr s 1)=some (.int .i64 y):=ld1 hs;rw[es,ob_some,lbin_sub,ob_some,st1 hs (by simp only[one_int]) (by simp),ob_some];have h3:=h2.stoSet x (IntKind.wrap .i64 (y - 1));have hso:=h.os;have kS:Frame (fun x=>x=s) (H.set r (.row ((bs.set j false).map .bool) false)) ((H.set r (.row ((bs.set j false).map .bool) false)).set s (.row [.int .i64 x,.int .i64 (IntKind.wrap .i64 (y - 1))] false)):=Frame.set _ _ rfl;have hT3:=hT2.frame kS fun j hj e=>by subst e;omega
    exact ih (j+1) n _ (bs.set j false) _ (by simp;omega) (by omega) h3 ((hF.tr (kF.mono fun j hj=>by omega)).tr (kS.mono fun j hj=>by subst hj;omega)) hv hT3 (by simpa using hb)
theorem rcut_s (hN:4097<N){H:Heap}{i:Nat}(h:RB c own H b s R)(hi:i<=200):Wp (R3sCutS cal O N (.ptr s 0) (.ptr b (1+i*9+5)) (.int .i64 0) H) fun r=>RA c own H b s r.2:=by
 unfold R3sCutS R3sCutC12S R3sCutC11S R3sCutC10S R3sCutC9S;have e1:lbin .lss (.int .i64 0) (.int .i64 0)=some (.bool false):=rfl;have e2:lbin .gtr (.int .i64 0) (.int .i64 65536)=some (.bool false):=rfl;have e3:lmkS H 1 1 [(.int .u8 0)] (.int .i64 0) (.int .i64 0)=some (.slice H.length 0 0 0 true 1,H++[.row [] false]):=rfl;rw[e1,ob_some,cnd_false,e2,ob_some,cnd_false,e3,ob_some];unfold R3sCutC8S R3sCutC2S R3sCutC1S;obtain⟨N,rfl⟩:∃j,N=j+1:=⟨N - 1,by omega⟩;have hw':∀K:Heap,llen K .slice (.slice H.length 0 0 0 true 1)=some (.int .i64 0):=fun _=>rfl;simp only;rw[R3sCutC0S,hw',ob_some,e1,ob_some];simp only[isB_ft,gq_false,ob_some,lpick_false,cnd_false];unfold R3sCutC7S;rw[lchk_ptr,ob_some,loff_ptr,ob_some,Nat.add_zero];have k1:Frame (fun j=>H.length<=j) H (H++[IObj.row [] false]):=Frame.push _ _ _;refine Wp.call (h.newCell (c':=c) (k:=5) (v:=.slice H.length 0 0 0 true 1) (Nat.le_refl _) hi (by omega) (by omega) rfl k1 (fun own' ho=>RCell.body.2 ⟨[],.inr ⟨H.length,0,true,rfl,ho _ (Nat.le_refl _) (by simp),newRow,rfl⟩,rfl,by simp⟩)) ?_;rintro⟨x,K⟩ ⟨own1,R1,g1,g2,g3⟩;simp only at g1 g2 ⊢;unfold R3sCutC6S R3sCutC5S R3sCutC4S;obtain⟨v,a1,a3,a2⟩:=g1.ptr hi (show 6<9 by omega);obtain⟨bs,b1,b2⟩:=RCell.there.1 a2;refine(rcut_go hi hw' bs.length 0 (N+1) K bs v (by omega) (by omega) g1 (Frame.refl _ _) a3 b1 b2).mono ?_;rintro⟨y,K2⟩ ⟨u1,u2⟩;exact⟨own1,R1,u1,g2.trans u2 fun j hj hw=>by rcases g3 j hw with h | h;exact h;omega,g3⟩
end
end Go.Shade
namespace Go.Shade
variable {H : Heap} {R : List IV} {b c s : Nat} {own : Nat -> Nat}
theorem RA.of {c':Nat}{own':Nat->Nat}{K K2:Heap}(hF:Frame (fun j=>own j≠0) H K)(hu:∀j,own' j≠0->own j≠0∨H.length<=j)(k:RA c' own' K b s K2):RA c' own H b s K2:=by
 obtain⟨own2,R2,k1,k2,k3⟩:=k;exact⟨own2,R2,k1,hF.trans k2 fun j hj hw=>by rcases hu j hw with h | h;exact h;omega,fun j hj=>by
  rcases k3 j hj with h | h
  ·exact hu j h
  ·exact .inr (Nat.le_trans hF.1 h)⟩
section
variable {cal : FuncId -> Bool} {O : Oracle} {N : Nat}
def RGoneOk (O:Oracle)(f:FuncId):Prop:=∀(c:Nat) (own:Nat->Nat) (H:Heap) (b s:Nat) (R:List IV) (n:Nat) (x y:Int),RB c own H b s R->n<=200->Wp (O f [.ptr b 0,.int .i64 (n:Nat),.int .i64 x,.int .i64 y] H) fun r=>RA c own H b s r.2
theorem rgone_s {fc:FuncId}(hc:RCutOk O fc){n:Nat}{x y:Int}(h:RB c own H b s R)(hn:n<=200):Wp (R5LessS cal O N fc (.ptr b 0) (.int .i64 (n:Nat)) (.int .i64 x) (.int .i64 y) H) fun r=>RA c own H b s r.2:=by
 unfold R5LessS;obtain⟨z1,e1,_⟩:=h.int (i:=n) (k:=1) hn (by omega);simp only[lchk_ptr,loff_ptr,ob_some,Nat.zero_add,rixa hn,e1,lbin_sub];obtain⟨q1,q2,q3⟩:=h.ints (i:=n) (k:=1) (v:=IntKind.wrap .i64 (z1 - x)) hn (by omega);rw[q1,ob_some];simp only;generalize H.set b (.row (R.set (1+9*n+1) (.int .i64 (IntKind.wrap .i64 (z1 - x)))) false)=K at *;generalize R.set (1+9*n+1) (.int .i64 (IntKind.wrap .i64 (z1 - x)))=R1 at *;obtain⟨z2,e2,_⟩:=q2.int (i:=n) (k:=2) hn (by omega);rw[e2,ob_some,lbin_sub,ob_some];obtain⟨p1,p2,p3⟩:=q2.ints (i:=n) (k:=2) (v:=IntKind.wrap .i64 (z2 - y)) hn (by omega);rw[p1,ob_some];simp only;have kF:=q3.tr p3;generalize K.set b (.row (R1.set (1+9*n+2) (.int .i64 (IntKind.wrap .i64 (z2 - y)))) false)=K2 at *;generalize R1.set (1+9*n+2) (.int .i64 (IntKind.wrap .i64 (z2 - y)))=R2 at *;obtain⟨z3,e3,_⟩:=p2.int (i:=n) (k:=1) hn (by omega);obtain⟨z4,e4,_⟩:=p2.int (i:=n) (k:=2) hn (by omega);have stay:Wp (some ((IV.tuple []),K2)) fun r=>RA c own H b s r.2:=Wp.ret ⟨own,R2,p2,kF,fun _ h=>.inl h⟩;rw[e3,ob_some,lbin_eql,ob_some];have hgo:Wp (ob (lload1 K2 (.ptr b 0)) fun t40 =>
  ob (O fc [t40,.ptr b (1+n*9+5),(.int .i64 0)] K2) fun r45 =>
  ob (lbld [(.int .i64 0),(.int .i64 0),(.int .i64 0),(.int .i64 0),(.int .i64 0),.nilSlice,.nilSlice,.nilSlice,(.str [])] []) fun t46 =>
  ob (lstV r45.2 9 (.ptr b (1+n*9)) t46) fun r50 =>
  some ((IV.tuple []),r50.2)) fun r=>RA c own H b s r.2:=by
  have e0:lload1 K2 (.ptr b 0)=some (.ptr s 0):=by rw[ld1 p2.row];exact p2.r0
  rw[e0,ob_some];refine Wp.call (hc c own K2 b s R2 n p2 hn) ?_;rintro⟨w,K3⟩ ⟨own3,R3,g1,g2,g3⟩;simp only at g1 g2 ⊢;have e5:lbld [(.int .i64 0),(.int .i64 0),(.int .i64 0),(.int .i64 0),(.int .i64 0),.nilSlice,.nilSlice,.nilSlice,(.str [])] []=some (.agg [.int .i64 0,.int .i64 0,.int .i64 0,.int .i64 0,.int .i64 0,.nilSlice,.nilSlice,.nilSlice,.str []]):=rfl;obtain⟨H',R',u1,u2,u3⟩:=g1.node (i:=n) hn (k:=0) (l:=0) (p:=0) (t:=[]) (by omega);rw[e5,ob_some,u1,ob_some];refine Wp.ret (RA.of kF (fun j h=>.inl h) (RA.of g2 g3 ⟨own3,R',u2,u3,fun _ h=>.inl h⟩))
 by_cases hz:z3=0
 ·rw[decide_eq_true hz];simp only[isB_tt,gq_true,ob_some,lchk_ptr,loff_ptr,Nat.zero_add,rixa hn,e4,lbin_eql,lpick_true];exact Wp.dec (fun _=>hgo) (fun _=>stay)
 ·rw[decide_eq_false hz];simp only[isB_ft,gq_false,ob_some,lpick_false,cnd_false];exact stay
def RUnlOk (O:Oracle)(f:FuncId):Prop:=∀(c:Nat) (own:Nat->Nat) (H:Heap) (b s:Nat) (R:List IV) (i:Int) (nm:Nam),RB c own H b s R->c<1000000->Wp (O f [.ptr b 0,.int .i64 i,.str nm] H) fun r=>RA c own H b s r.2
theorem runl_s {fd fg fe fl:FuncId}(hd:RDirOk O fd)(hg:RGetOk O fg)(hde:RDel4Ok O fe)(hl:RGoneOk O fl){i:Int}{nm:Nam}(h:RB c own H b s R)(hc:c<1000000):Wp (R5UnlinkS cal O N fd fg fe fl (.ptr b 0) (.int .i64 i) (.str nm) H) fun r=>RA c own H b s r.2:=by
 have bad:∀v:IV,Wp (some (v,H)) fun r=>RA c own H b s r.2:=fun v=>Wp.ret (RA.refl h);unfold R5UnlinkS;obtain⟨e,he,hi⟩:=hd c own H b s R i true h;rw[he,ob_some];simp only;rw[lbin_neq,ob_some];refine Wp.ndec (fun _=>bad _) (fun h0=> ?_);obtain⟨i1,i2⟩:=hi h0;obtain⟨d,rfl⟩:∃n:Nat,i=(n:Nat):=⟨i.toNat,by omega⟩;obtain⟨v,e2,he2,hv⟩:=hg c own H b s R (d:Nat) nm h (by omega);simp only[he2,ob_some,iextract_tuple,List.getElem?_cons_zero,List.getElem?_cons_succ,lbin_neq];refine Wp.ndec (fun _=>bad _) (fun h2=> ?_);obtain⟨⟨v1,v2⟩,_⟩:=hv h2;obtain⟨n,rfl⟩:∃n:Nat,v=(n:Nat):=⟨v.toNat,by omega⟩;obtain⟨z0,e0,_⟩:=h.int (i:=n) (k:=0) (by omega) (by omega);have e0':lload1 H (.ptr b (1+n*9))=some (.int .i64 z0):=e0;simp only[lchk_ptr,loff_ptr,ob_some,Nat.zero_add,Nat.add_zero,rixa (show n<=200 by omega),rixa (show d<=200 by omega),e0',lbin_eql];refine Wp.dec (fun _=>bad _) (fun _=> ?_);refine Wp.call (hde c own H b s R d nm h (by omega) (by omega)) ?_;rintro⟨w,K⟩ ⟨own1,R1,g1,g2,g3⟩;simp only at g1 g2 ⊢;refine Wp.call (hl c own1 K b s R1 n 1 0 g1 (by omega)) ?_;rintro⟨w,K2⟩ hRA;exact Wp.ret (RA.of g2 g3 hRA)
def RBelOk (O:Oracle)(f:FuncId):Prop:=∀(c:Nat) (own:Nat->Nat) (H:Heap) (b s:Nat) (R:List IV) (i:Nat) (t:Int),RB c own H b s R->i<=200->∃x:Bool,O f [.ptr b 0,.int .i64 (i:Nat),.int .i64 t] H=some (.bool x,H)
theorem rbel_go {t:Int}(h:RB c own H b s R):∀(m j n i:Nat),j+m=300->m<n->i<=200->∃x:Bool,R5BelowC0S cal O N (fun H=>some ((.bool false),H)) n (.ptr b 0) (.int .i64 (i:Nat)) (.int .i64 t) (.int .i64 (j:Nat)) H=some (.bool x,H):=by
 intro m
 induction m with
 | zero =>
  intro j n i hj hn hi;obtain⟨n,rfl⟩:∃j,n=j+1:=⟨n - 1,by omega⟩;rw[R5BelowC0S,lbin_lss,ob_some,decide_eq_false (by omega),cnd_false];exact⟨false,rfl⟩
 | succ m ih =>
  intro j n i hj hn hi;obtain⟨n,rfl⟩:∃j,n=j+1:=⟨n - 1,by omega⟩;rw[R5BelowC0S,lbin_lss,ob_some,decide_eq_true (by omega),cnd_true,lbin_eql,ob_some]
  cases decide ((i:Int)=t)with
  | true=>rw[cnd_true];exact⟨true,rfl⟩
  | false =>
   obtain⟨z,e,hz⟩:=h.int (i:=i) (k:=4) hi (by omega);obtain⟨z1,z2⟩:=hz rfl;obtain⟨p,rfl⟩:∃n:Nat,z=(n:Nat):=⟨z.toNat,by omega⟩;rw[cnd_false];simp only[lchk_ptr,loff_ptr,ob_some,Nat.zero_add,rixa hi,e,lbin_add];rw[wrap_i64 (by omega) (by omega),show((j:Nat):Int)+1=((j+1:Nat):Int) by omega];exact ih (j+1) n p (by omega) (by omega) (by omega)
theorem rbel_s (hN:301<N){i:Nat}{t:Int}(h:RB c own H b s R)(hi:i<=200):∃x:Bool,R5BelowS cal O N (.ptr b 0) (.int .i64 (i:Nat)) (.int .i64 t) H=some (.bool x,H):=by
 unfold R5BelowS R5BelowC4S R5BelowC3S R5BelowC2S R5BelowC1S;exact rbel_go h 300 0 N i (by omega) (by omega) hi
def RRenOk (O:Oracle)(f:FuncId):Prop:=∀(c:Nat) (own:Nat->Nat) (H:Heap) (b s:Nat) (R:List IV) (i:Int) (nm:Nam) (to:Int) (s2:Nam),RB c own H b s R->c<1000000->Wp (O f [.ptr b 0,.int .i64 i,.str nm,.int .i64 to,.str s2] H) fun r=>RA (c+1) own H b s r.2
theorem rren_s {fd fg fs fb fe fl fse:FuncId}(hd:RDirOk O fd)(hg:RGetOk O fg)(hs:RErrOk O fs)(hb:RBelOk O fb)(hde:RDel4Ok O fe)(hl:RGoneOk O fl)(hse:RSet4Ok O fse){i:Int}{nm:Nam}{to:Int}{s2:Nam}(h:RB c own H b s R)(hc:c<1000000) :
  Wp (R5RenameS cal O N fd fg fs fb fe fl fse (.ptr b 0) (.int .i64 i) (.str nm) (.int .i64 to) (.str s2) H) fun r=>RA (c+1) own H b s r.2:=by
 have bad:∀v:IV,Wp (some (v,H)) fun r=>RA (c+1) own H b s r.2:=fun v=>Wp.ret ((RA.refl h).mono (by omega));unfold R5RenameS;obtain⟨e,he,hi⟩:=hd c own H b s R i true h;rw[he,ob_some];simp only;rw[lbin_neq,ob_some];refine Wp.ndec (fun _=>bad _) (fun h0=> ?_);obtain⟨i1,i2⟩:=hi h0;obtain⟨d,rfl⟩:∃n:Nat,i=(n:Nat):=⟨i.toNat,by omega⟩;obtain⟨v,e2,he2,hv⟩:=hg c own H b s R (d:Nat) nm h (by omega);simp only[he2,ob_some,iextract_tuple,List.getElem?_cons_zero,List.getElem?_cons_succ,lbin_neq];refine Wp.ndec (fun _=>bad _) (fun h2=> ?_);obtain⟨⟨v1,v2⟩,_⟩:=hv h2;obtain⟨n,rfl⟩:∃n:Nat,v=(n:Nat):=⟨v.toNat,by omega⟩;obtain⟨e3,he3,hi3⟩:=hd c own H b s R to true h;rw[he3,ob_some,jn_eq];simp only;obtain⟨z0,e0,_⟩:=h.int (i:=n) (k:=0) (by omega) (by omega);have e0':lload1 H (.ptr b (1+n*9))=some (.int .i64 z0):=e0;have go:∀x:Int,(x=0->1<=to/\to<=200)->Wp (ob (lbin .neq (.int .i64 x) (.int .i64 0)) fun t15 =>
  cnd t15
  (some ((.int .i64 x),H))
  (ob (lchk (.ptr b 0)) fun t16 =>
  ob (loff t16 1) fun t17 =>
  ob (lixa 201 9 t17 (.int .i64 (n:Nat))) fun t18 =>
  ob (loff t18 0) fun t19 =>
  ob (lload1 H t19) fun t20 =>
  ob (lbin .eql t20 (.int .i64 2)) fun t21 =>
  ob (gq (isB t21 true) (some (.ptr b 0))) fun t22 =>
  ob (gq (isB t21 true) (some (.int .i64 to))) fun t23 =>
  ob (gq (isB t21 true) (some (.int .i64 (n:Nat)))) fun t24 =>
  ob (ge (isB t21 true) H (O fb [t22,t23,t24] H)) fun r25 =>
  ob (lpick t21 r25.1 (.bool false)) fun t26 =>
  cnd t26
  (some ((.int .i64 22),r25.2))
  (ob (O fg [(.ptr b 0),(.int .i64 to),(.str s2)] r25.2) fun r27 =>
  ob (iextract r27.1 0) fun t28 =>
  ob (iextract r27.1 1) fun t29 =>
  jn (fun(H79:Heap) =>
  ob (lchk (.ptr b 0)) fun t80 =>
  ob (loff t80 1) fun t81 =>
  ob (lixa 201 9 t81 (.int .i64 (d:Nat))) fun t82 =>
  ob (loff t82 7) fun t83 =>
  ob (O fe [t83,(.str nm)] H79) fun r84 =>
  ob (lchk (.ptr b 0)) fun t85 =>
  ob (loff t85 1) fun t86 =>
  ob (lixa 201 9 t86 (.int .i64 to)) fun t87 =>
  ob (loff t87 7) fun t88 =>
  ob (O fse [t88,(.str s2),(.int .i64 (n:Nat))] r84.2) fun r89 =>
  jn (fun(H99:Heap) =>
  some ((IV.int .i64 0),H99)) fun J90 =>
  cnd t21
  (ob (lchk (.ptr b 0)) fun t100 =>
  ob (loff t100 1) fun t101 =>
  ob (lixa 201 9 t101 (.int .i64 (n:Nat))) fun t102 =>
  ob (loff t102 4) fun t103 =>
  ob (lstV r89.2 1 t103 (.int .i64 to)) fun r104 =>
  J90 r104.2)
  (J90 r89.2)) fun J30 =>
  ob (lbin .eql t29 (.int .i64 0)) fun t105 =>
  cnd t105
  (ob (lchk (.ptr b 0)) fun t106 =>
  ob (loff t106 1) fun t107 =>
  ob (lixa 201 9 t107 t28) fun t108 =>
  ob (loff t108 0) fun t109 =>
  ob (lload1 r27.2 t109) fun t110 =>
  ob (lbin .eql t110 (.int .i64 2)) fun t111 =>
  ob (lbin .eql t28 (.int .i64 (n:Nat))) fun t112 =>
  cnd t112
  (some ((.int .i64 0),r27.2))
  (ob (gq (isB t111 true) (some t21)) fun t113 =>
  ob (gq (isB t111 true) (iun .not t113)) fun t114 =>
  ob (lpick t111 t114 (.bool false)) fun t115 =>
  cnd t115
  (some ((.int .i64 21),r27.2))
  (ob (iun .not t111) fun t116 =>
  ob (gq (isB t116 true) (some t21)) fun t117 =>
  ob (lpick t116 t117 (.bool false)) fun t118 =>
  cnd t118
  (some ((.int .i64 20),r27.2))
  (ob (gq (isB t111 true) (some (.ptr b 0))) fun t119 =>
  ob (gq (isB t111 true) (some t28)) fun t120 =>
  ob (gq (isB t111 true) (lchk t119)) fun t121 =>
  ob (gq (isB t111 true) (loff t121 1)) fun t122 =>
  ob (gq (isB t111 true) (lixa 201 9 t122 t120)) fun t123 =>
  ob (gq (isB t111 true) (loff t123 7)) fun t124 =>
  ob (gq (isB t111 true) (loff t124 0)) fun t125 =>
  ob (gq (isB t111 true) (lload1 r27.2 t125)) fun t126 =>
  ob (gq (isB t111 true) (llen r27.2 .slice t126)) fun t127 =>
  ob (gq (isB t111 true) (lbin .gtr t127 (.int .i64 0))) fun t128 =>
  ob (lpick t111 t128 (.bool false)) fun t129 =>
  cnd t129
  (some ((.int .i64 39),r27.2))
  (ob (lchk (.ptr b 0)) fun t130 =>
  ob (loff t130 1) fun t131 =>
  ob (lixa 201 9 t131 (.int .i64 to)) fun t132 =>
  ob (loff t132 7) fun t133 =>
  ob (O fe [t133,(.str s2)] r27.2) fun r134 =>
  ob (O fl [(.ptr b 0),t28,(.int .i64 1),(.int .i64 0)] r134.2) fun r135 =>
  J30 r135.2)))))
  (J30 r27.2)))) fun r=>RA (c+1) own H b s r.2:=by
  intro x hx;rw[lbin_neq,ob_some];refine Wp.ndec (fun _=>bad _) (fun hx0=> ?_);obtain⟨t1,t2⟩:=hx hx0;obtain⟨m,rfl⟩:∃n:Nat,to=(n:Nat):=⟨to.toNat,by omega⟩;simp only[lchk_ptr,loff_ptr,ob_some,Nat.zero_add,Nat.add_zero,rixa (show n<=200 by omega),rixa (show d<=200 by omega),rixa (show m<=200 by omega),e0',lbin_eql];have hD:∀isd:Bool,Wp (ob (O fg [(.ptr b 0),(.int .i64 (m:Nat)),(.str s2)] H) fun r27 =>
  ob (iextract r27.1 0) fun t28 =>
  ob (iextract r27.1 1) fun t29 =>
  jn (fun(H79:Heap) =>
  ob (O fe [.ptr b (1+d*9+7),(.str nm)] H79) fun r84 =>
  ob (O fse [.ptr b (1+m*9+7),(.str s2),(.int .i64 (n:Nat))] r84.2) fun r89 =>
  jn (fun(H99:Heap) =>
  some ((IV.int .i64 0),H99)) fun J90 =>
  cnd (.bool isd)
  (ob (lstV r89.2 1 (.ptr b (1+n*9+4)) (.int .i64 (m:Nat))) fun r104 =>
  J90 r104.2)
  (J90 r89.2)) fun J30 =>
  ob (lbin .eql t29 (.int .i64 0)) fun t105 =>
  cnd t105
  (ob (lixa 201 9 (.ptr b 1) t28) fun t108 =>
  ob (loff t108 0) fun t109 =>
  ob (lload1 r27.2 t109) fun t110 =>
  ob (lbin .eql t110 (.int .i64 2)) fun t111 =>
  ob (lbin .eql t28 (.int .i64 (n:Nat))) fun t112 =>
  cnd t112
  (some ((.int .i64 0),r27.2))
  (ob (gq (isB t111 true) (some (.bool isd))) fun t113 =>
  ob (gq (isB t111 true) (iun .not t113)) fun t114 =>
  ob (lpick t111 t114 (.bool false)) fun t115 =>
  cnd t115
  (some ((.int .i64 21),r27.2))
  (ob (iun .not t111) fun t116 =>
  ob (gq (isB t116 true) (some (.bool isd))) fun t117 =>
  ob (lpick t116 t117 (.bool false)) fun t118 =>
  cnd t118
  (some ((.int .i64 20),r27.2))
  (ob (gq (isB t111 true) (some (.ptr b 0))) fun t119 =>
  ob (gq (isB t111 true) (some t28)) fun t120 =>
  ob (gq (isB t111 true) (lchk t119)) fun t121 =>
  ob (gq (isB t111 true) (loff t121 1)) fun t122 =>
  ob (gq (isB t111 true) (lixa 201 9 t122 t120)) fun t123 =>
  ob (gq (isB t111 true) (loff t123 7)) fun t124 =>
  ob (gq (isB t111 true) (loff t124 0)) fun t125 =>
  ob (gq (isB t111 true) (lload1 r27.2 t125)) fun t126 =>
  ob (gq (isB t111 true) (llen r27.2 .slice t126)) fun t127 =>
  ob (gq (isB t111 true) (lbin .gtr t127 (.int .i64 0))) fun t128 =>
  ob (lpick t111 t128 (.bool false)) fun t129 =>
  cnd t129
  (some ((.int .i64 39),r27.2))
  (ob (O fe [.ptr b (1+m*9+7),(.str s2)] r27.2) fun r134 =>
  ob (O fl [(.ptr b 0),t28,(.int .i64 1),(.int .i64 0)] r134.2) fun r135 =>
  J30 r135.2)))))
  (J30 r27.2)) fun r=>RA (c+1) own H b s r.2:=by
   intro isd;obtain⟨v3,e4,he4,hv3⟩:=hg c own H b s R (m:Nat) s2 h (by omega);rw[he4,ob_some];simp only[iextract_tuple,List.getElem?_cons_zero,List.getElem?_cons_succ,ob_some,jn_eq,lbin_eql];have fin:∀(own1:Nat->Nat) (K:Heap) (R1:List IV),RB c own1 K b s R1->Frame (fun j=>own j≠0) H K->(∀j,own1 j≠0->own j≠0∨H.length<=j)->Wp (ob (O fe [.ptr b (1+d*9+7),(.str nm)] K) fun r84 =>
     ob (O fse [.ptr b (1+m*9+7),(.str s2),(.int .i64 (n:Nat))] r84.2) fun r89 =>
     cnd (.bool isd)
     (ob (lstV r89.2 1 (.ptr b (1+n*9+4)) (.int .i64 (m:Nat))) fun r104 =>
     some ((IV.int .i64 0),r104.2))
     (some ((IV.int .i64 0),r89.2))) fun r=>RA (c+1) own H b s r.2:=by
    intro own1 K R1 k1 k2 k3;refine Wp.call (hde c own1 K b s R1 d nm k1 (by omega) (by omega)) ?_;rintro⟨w,K2⟩ ⟨own2,R2,g1,g2,g3⟩;simp only at g1 g2 ⊢;refine Wp.call (hse c own2 K2 b s R2 m s2 (n:Nat) g1 hc (by omega) (by omega) (by omega)) ?_;rintro⟨w,K3⟩ ⟨_,own3,R3,u1,u2,u3⟩;simp only at u1 u2 ⊢;have lead:∀K4,RA (c+1) own3 K3 b s K4->RA (c+1) own H b s K4:=fun K4 k=>RA.of k2 k3 (RA.of g2 g3 (RA.of u2 u3 k))
    cases isd with
    | false=>rw[cnd_false];exact Wp.ret (lead K3 (RA.refl u1))
    | true =>
     rw[cnd_true,show 1+n*9+4=1+9*n+4 by omega,st1 u1.row (by simp only[one_int]) (by rw[u1.len];omega),ob_some];exact Wp.ret (lead _ ⟨own3,_,u1.set (by omega) (by omega) (RCell.par (by omega)),Frame.set _ _ (by rw[u1.ob];decide),fun _ h=>.inl h⟩)
   by_cases hz:e4=0
   ·rw[decide_eq_true hz,cnd_true];obtain⟨⟨w1,w2⟩,_⟩:=hv3 hz;obtain⟨o,rfl⟩:∃n:Nat,v3=(n:Nat):=⟨v3.toNat,by omega⟩;obtain⟨zo,eo,_⟩:=h.int (i:=o) (k:=0) (by omega) (by omega);have eo':lload1 H (.ptr b (1+o*9))=some (.int .i64 zo):=eo;simp only[rixa (show o<=200 by omega),ob_some,loff_ptr,Nat.add_zero,eo',lbin_eql];refine Wp.dec (fun _=>bad _) (fun _=> ?_);have del:Wp (ob (O fe [.ptr b (1+m*9+7),(.str s2)] H) fun r134 =>
      ob (O fl [(.ptr b 0),(.int .i64 (o:Nat)),(.int .i64 1),(.int .i64 0)] r134.2) fun r135 =>
      ob (O fe [.ptr b (1+d*9+7),(.str nm)] r135.2) fun r84 =>
      ob (O fse [.ptr b (1+m*9+7),(.str s2),(.int .i64 (n:Nat))] r84.2) fun r89 =>
      cnd (.bool isd)
      (ob (lstV r89.2 1 (.ptr b (1+n*9+4)) (.int .i64 (m:Nat))) fun r104 =>
      some ((IV.int .i64 0),r104.2))
      (some ((IV.int .i64 0),r89.2))) fun r=>RA (c+1) own H b s r.2:=by
     refine Wp.call (hde c own H b s R m s2 h (by omega) (by omega)) ?_;rintro⟨w,K2⟩ ⟨own2,R2,g1,g2,g3⟩;simp only at g1 g2 ⊢;refine Wp.call (hl c own2 K2 b s R2 o 1 0 g1 (by omega)) ?_;rintro⟨w,K3⟩ hRA;obtain⟨own3,R3,u1,u2,u3⟩:=RA.of g2 g3 hRA;exact fin own3 K3 R3 u1 u2 u3
    cases decide (zo=2)with
    | true =>
     simp only[isB_tt,gq_true,ob_some,iun_not,lpick_true]
     cases isd with
     | false=>rw[Bool.not_false,cnd_true];exact bad _
     | true =>
      obtain⟨vl,a1,_,a2⟩:=h.ptr (i:=o) (by omega) (show 7<9 by omega);obtain⟨l,b1,b2,b3⟩:=RCell.list.1 a2;simp only[Bool.not_true,cnd_false,isB_ft,gq_false,lpick_false,ob_some,lchk_ptr,loff_ptr,Nat.zero_add,Nat.add_zero,rixa (show o<=200 by omega),a1,b1.len2,lbin_gtr];exact Wp.dec (fun _=>bad _) (fun _=>del)
    | false =>
     simp only[isB_ft,gq_false,ob_some,iun_not,lpick_false,cnd_false,Bool.not_false,isB_tt,gq_true,lpick_true]
     cases isd with
     | true=>rw[cnd_true];exact bad _
     | false=>rw[cnd_false];exact del
   ·rw[decide_eq_false hz,cnd_false];exact fin own H R h (Frame.refl _ _) (fun _ h=>.inl h)
  cases decide (z0=2)with
  | false =>
   simp only[isB_ft,gq_false,ge_false,ob_some,lpick_false,cnd_false];exact hD false
  | true =>
   obtain⟨x,ex⟩:=hb c own H b s R m (n:Nat) h (by omega);simp only[isB_tt,gq_true,ge_true,ob_some,ex,lpick_true]
   cases x with
   | true=>rw[cnd_true];exact bad _
   | false=>rw[cnd_false];exact hD true
 rw[lbin_eql,ob_some];by_cases hz:e3=0
 ·rw[decide_eq_true hz,cnd_true];obtain⟨e5,he5,_⟩:=hs H s2;rw[he5,ob_some];exact go e5 fun _=>hi3 hz
 ·rw[decide_eq_false hz,cnd_false];exact go e3 hi3
end
end Go.Shade
