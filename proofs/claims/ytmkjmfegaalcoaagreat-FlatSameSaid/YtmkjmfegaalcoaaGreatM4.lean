/- The law FlatSame, part 4. -/
import Derived.Test.YtmkjmfegaalcoaaGreatM2
import Derived.KernelRfl
import Derived.Test.YtmkjmfegaalcoaaGreatM3
set_option linter.all false
namespace Go.Shade
def veneerlaw11FlatSame (f0 f1 f2 f3 f4:FuncId):LFun:=⟨(.seq (.reg [ qO 4 (.mv (.k (.bool false)))]) (.seq (.seq (.reg [ qO 6 (.callF f0 []),qO 7 (.un .not (.t 6))]) (.cond (.t 7) (.seq (.reg [ qO 4 (.mv (.k (.bool false)))]) .ret) .skip)) (.seq (.seq (.reg [ qM 8 0,qO 9 (.callF f1 [(.t 8)]),qM 10 9,⟨(some 11),(.mv (.t 1)),(some (10,false))⟩,⟨(some 12),(.callF f1 [(.t 11)]),(some (10,false))⟩,qO 13 (.pick (.t 10) (.k (.bool true)) (.t 12))]) (.cond (.t 13) (.seq (.reg [ qO 4 (.mv (.k (.bool true)))]) .ret) .skip)) (.seq (.reg [ qM 14 0,qM 15 1,qO 16 (.callF f2 [(.t 14),(.t 15)]),qM 5 16]) (.seq (.seq (.reg [ qM 17 5,qM 18 0,qM 19 1,qO 20 (.callF f3 [(.t 18),(.t 19)]),qO 21 (.eqv true .bool (.t 17) (.t 20)),qM 22 21,⟨(some 23),(.mv (.t 5)),(some (22,false))⟩,⟨(some 24),(.mv (.t 1)),(some (22,false))⟩,⟨(some 25),(.mv (.t 0)),(some (22,false))⟩,⟨(some 26),(.callF f2 [(.t 24),(.t 25)]),(some (22,false))⟩,⟨(some 27),(.eqv true .bool (.t 23) (.t 26)),(some (22,false))⟩,qO 28 (.pick (.t 22) (.k (.bool true)) (.t 27)),qM 29 28,⟨(some 30),(.mv (.t 0)),(some (29,false))⟩,⟨(some 31),(.mv (.t 0)),(some (29,false))⟩,⟨(some 32),(.callF f2 [(.t 30),(.t 31)]),(some (29,false))⟩,⟨(some 33),(.un .not (.t 32)),(some (29,false))⟩,qO 34 (.pick (.t 29) (.k (.bool true)) (.t 33))]) (.cond (.t 34) (.seq (.reg [ qO 4 (.mv (.k (.bool false)))]) .ret) .skip)) (.seq (.reg [ qM 35 5,qO 36 (.un .not (.t 35)),qM 37 36,⟨(some 38),(.mv (.t 0)),(some (37,false))⟩,⟨(some 39),(.callF f4 [(.t 38)]),(some (37,false))⟩,⟨(some 40),(.mv (.t 1)),(some (37,false))⟩,⟨(some 41),(.callF f4 [(.t 40)]),(some (37,false))⟩,⟨(some 42),(.bin .eql (.t 39) (.t 41)),(some (37,false))⟩,qO 43 (.pick (.t 37) (.k (.bool true)) (.t 42)),qM 4 43]) .ret)))))),[(.tmp 4)],44⟩
def veneerlaw11FlatSameS (cal:CB)(O:Oracle)(N:Nat)(f0 f1 f2 f3 f4:FuncId)(v0 v1:IV)(H:Heap):OH :=
 ob (O f0 [] H) fun r1 =>ob (iun .not r1.1) fun t2 =>cnd t2
 (some ((.bool false),r1.2))
 (ob (O f1 [v0] r1.2) fun r3 =>ob (gq (isB r3.1 false) (some v1)) fun t4 =>ob (ge (isB r3.1 false) r3.2 (O f1 [t4] r3.2)) fun r5 =>ob (lpick r3.1 (.bool true) r5.1) fun t6 =>cnd t6
 (some ((.bool true),r5.2))
 (ob (O f2 [v0,v1] r5.2) fun r7 =>ob (O f3 [v0,v1] r7.2) fun r8 =>ob (leqv true (leq .bool r7.1 r8.1)) fun t9 =>ob (gq (isB t9 false) (some r7.1)) fun t10 =>ob (gq (isB t9 false) (some v1)) fun t11 =>ob (gq (isB t9 false) (some v0)) fun t12 =>ob (ge (isB t9 false) r8.2 (O f2 [t11,t12] r8.2)) fun r13 =>ob (gq (isB t9 false) (leqv true (leq .bool t10 r13.1))) fun t14 =>ob (lpick t9 (.bool true) t14) fun t15 =>ob (gq (isB t15 false) (some v0)) fun t16 =>ob (gq (isB t15 false) (some v0)) fun t17 =>ob (ge (isB t15 false) r13.2 (O f2 [t16,t17] r13.2)) fun r18 =>ob (gq (isB t15 false) (iun .not r18.1)) fun t19 =>ob (lpick t15 (.bool true) t19) fun t20 =>cnd t20
 (some ((.bool false),r18.2))
 (ob (iun .not r7.1) fun t21 =>ob (gq (isB t21 false) (some v0)) fun t22 =>ob (ge (isB t21 false) r18.2 (O f4 [t22] r18.2)) fun r23 =>ob (gq (isB t21 false) (some v1)) fun t24 =>ob (ge (isB t21 false) r23.2 (O f4 [t24] r23.2)) fun r25 =>ob (gq (isB t21 false) (lbin .eql r23.1 r25.1)) fun t26 =>ob (lpick t21 (.bool true) t26) fun t27 =>some (t27,r25.2))))
theorem veneerlaw11FlatSameEq (cal:CB)(O:Oracle)(N:Nat)(f0 f1 f2 f3 f4:FuncId)(v0 v1:IV)(H:Heap):lrunK cal O N (veneerlaw11FlatSame f0 f1 f2 f3 f4) [v0,v1] H=veneerlaw11FlatSameS cal O N f0 f1 f2 f3 f4 v0 v1 H:=by
 kernel_rfl
def X4K0 :LC:=.seq (.reg [ qO 8 (.bin .lss (.t 7) (.t 6))]) (.seq (.cond (.t 8) .skip (.exit 0)) (.seq (.block 1 (.seq (.reg [ qM 9 7,qM 4 9]) (.seq (.drw [ qM 10 3,qM 11 0,qM 12 4,qO 13 (.ix 3 (.t 11) (.t 12)),qO 14 (.off (.t 13) 2),qO 15 (.ld1 (.t 14)),qO 16 (.len .str (.t 15)),qO 17 (.fold false (.t 16) [(k6 262144)]),qM 18 0,qM 19 4,qO 20 (.ix 3 (.t 18) (.t 19)),qO 21 (.off (.t 20) 0),qO 22 (.ld1 (.t 21)),qO 23 (.len .str (.t 22)),qO 24 (.fold false (.t 23) [(k6 262144)]),qO 25 (.bin .add (.t 17) (.t 24)),qO 26 (.bin .add (.t 10) (.t 25)),qM 3 26] []) (.seq (.reg [ qM 27 3,qO 28 (.bin .gtr (.t 27) (k6 131072)),qM 29 28,⟨(some 30),(.mv (.t 4)),(some (29,false))⟩,⟨(some 31),(.bin .gtr (.t 30) (k6 300)),(some (29,false))⟩,qO 32 (.pick (.t 29) (.k (.bool true)) (.t 31))]) (.cond (.t 32) (.seq (.reg [ qO 2 (.mv (.k (.bool true)))]) .ret) .skip))))) (.reg [ qO 33 (.bin .add (.t 7) (k6 1)),qM 7 33])))
def veneerlaw11LargeC0 :LC:=.loop X4K0
def veneerlaw11LargeC1 :LC:=.block 0 veneerlaw11LargeC0
def X4K5 :LC:=.reg [ qM 5 0,qO 6 (.len .slice (.t 5)),qO 7 (.mv (k6 0))]
def veneerlaw11LargeC2 :LC:=.seq X4K5 veneerlaw11LargeC1
def veneerlaw11LargeC3 :LC:=.seq veneerlaw11LargeC2 (.seq (.reg [ qO 2 (.mv (.k (.bool false)))]) .ret)
def veneerlaw11LargeC4 :LC:=.seq (.reg [ qO 3 (.mv (k6 0))]) veneerlaw11LargeC3
def veneerlaw11LargeC5 :LC:=.seq (.reg [ qO 2 (.mv (.k (.bool false)))]) veneerlaw11LargeC4
def veneerlaw11LargeC0S (cal:CB)(O:Oracle)(N:Nat)(gE0:Heap->OH):Nat->IV->IV->IV->IV->Heap->OH
 | 0,_,_,_,_,_=>none
 | n+1,v0,v3,v6,v7,H =>ob (lbin .lss v7 v6) fun t1 =>cnd t1
  (ob (lix 3 v0 v7) fun t2 =>ob (loff t2 2) fun t3 =>ob (lload1 H t3) fun t4 =>ob (llen H .str t4) fun t5 =>ob (ifold imin2 t5 [(.int .i64 262144)]) fun t6 =>ob (lix 3 v0 v7) fun t7 =>ob (loff t7 0) fun t8 =>ob (lload1 H t8) fun t9 =>ob (llen H .str t9) fun t10 =>ob (ifold imin2 t10 [(.int .i64 262144)]) fun t11 =>ob (lbin .add t6 t11) fun t12 =>ob (lbin .add v3 t12) fun t13 =>ob (lbin .gtr t13 (.int .i64 131072)) fun t14 =>ob (gq (isB t14 false) (some v7)) fun t15 =>ob (gq (isB t14 false) (lbin .gtr t15 (.int .i64 300))) fun t16 =>ob (lpick t14 (.bool true) t16) fun t17 =>cnd t17
  (some ((.bool true),H))
  (ob (lbin .add v7 (.int .i64 1)) fun t18 =>
   veneerlaw11LargeC0S cal O N gE0 n v0 t13 v6 t18 H))
  (gE0 H)
theorem veneerlaw11LargeC0Eq (cal:CB)(O:Oracle)(N:Nat){k:KT (IV×Heap)}(gE0:Heap->OH)(hgE0:∀E H,k (.exit 0) E H=gE0 H)(hR:∀E H,k .ret E H=resK [(.tmp 2)] [] E H):∀(n:Nat) (E:Sg) (H:Heap),itK (lxK cal O N X4K0) n E H k=veneerlaw11LargeC0S cal O N gE0 n (lk E 0) (lk E 3) (lk E 6) (lk E 7) H:=by
 have hk:k=(kE 0 (fun E H=>gE0 H) (kR (resK [(.tmp 2)] []) k)):=(kE_mk hgE0 (kR_mk hR rfl));intro n
 induction n with
 | zero=>intro E H;rfl
 | succ n ih =>
  intro E H;rw[itK_succ,seqK_mk (g:=fun E H=>veneerlaw11LargeC0S cal O N gE0 n (lk E 0) (lk E 3) (lk E 6) (lk E 7) H) ih,hk];kernel_rfl
def veneerlaw11LargeC1S (cal:CB)(O:Oracle)(N:Nat)(gN:Heap->OH)(v0 v3 v6 v7:IV)(H:Heap):OH :=
  veneerlaw11LargeC0S cal O N (fun H=>gN H) N v0 v3 v6 v7 H
theorem veneerlaw11LargeC1Eq (cal:CB)(O:Oracle)(N:Nat){k:KT (IV×Heap)}(gN:Heap->OH)(hgN:∀E H,k .normal E H=gN H)(hR:∀E H,k .ret E H=resK [(.tmp 2)] [] E H):∀(E:Sg) (H:Heap),lxK cal O N veneerlaw11LargeC1 E H k=veneerlaw11LargeC1S cal O N gN (lk E 0) (lk E 3) (lk E 6) (lk E 7) H:=by
 have hk:k=(kN (fun E H=>gN H) (kR (resK [(.tmp 2)] []) k)):=(kN_mk hgN (kR_mk hR rfl));intro E H;rw[hk];show lxK cal O N veneerlaw11LargeC0 E H (blockK 0 (kN (fun E H=>gN H) (kR (resK [(.tmp 2)] []) k)))=_;exact(veneerlaw11LargeC0Eq cal O N (k:=(blockK 0 (kN (fun E H=>gN H) (kR (resK [(.tmp 2)] []) k)))) gN (fun _ _=>by kernel_rfl) (fun _ _=>by kernel_rfl) N E H).trans (by kernel_rfl)
def veneerlaw11LargeC2S (cal:CB)(O:Oracle)(N:Nat)(gN:Heap->OH)(v0 v3:IV)(H:Heap):OH :=
 ob (llen H .slice v0) fun t1 =>
  veneerlaw11LargeC1S cal O N (fun H=>gN H) v0 v3 t1 (.int .i64 0) H
theorem veneerlaw11LargeC2Eq (cal:CB)(O:Oracle)(N:Nat){k:KT (IV×Heap)}(gN:Heap->OH)(hgN:∀E H,k .normal E H=gN H)(hR:∀E H,k .ret E H=resK [(.tmp 2)] [] E H):∀(E:Sg) (H:Heap),lxK cal O N veneerlaw11LargeC2 E H k=veneerlaw11LargeC2S cal O N gN (lk E 0) (lk E 3) H:=by
 have hk:k=(kN (fun E H=>gN H) (kR (resK [(.tmp 2)] []) k)):=(kN_mk hgN (kR_mk hR rfl));intro E H;rw[hk];show lxK cal O N X4K5 E H (seqK (lxK cal O N veneerlaw11LargeC1) (kN (fun E H=>gN H) (kR (resK [(.tmp 2)] []) k)))=_;rw[seqK_mk (g:=fun E H=>veneerlaw11LargeC1S cal O N gN (lk E 0) (lk E 3) (lk E 6) (lk E 7) H) (veneerlaw11LargeC1Eq cal O N (k:=(kN (fun E H=>gN H) (kR (resK [(.tmp 2)] []) k))) gN (fun _ _=>by kernel_rfl) (fun _ _=>by kernel_rfl))];kernel_rfl
def veneerlaw11LargeC3S (cal:CB)(O:Oracle)(N:Nat)(v0 v3:IV)(H:Heap):OH :=
  veneerlaw11LargeC2S cal O N (fun H=>some ((.bool false),H)) v0 v3 H
theorem veneerlaw11LargeC3Eq (cal:CB)(O:Oracle)(N:Nat){k:KT (IV×Heap)}(hR:∀E H,k .ret E H=resK [(.tmp 2)] [] E H):∀(E:Sg) (H:Heap),lxK cal O N veneerlaw11LargeC3 E H k=veneerlaw11LargeC3S cal O N (lk E 0) (lk E 3) H:=by
 have hk:k=(kR (resK [(.tmp 2)] []) k):=(kR_mk hR rfl);intro E H;rw[hk];show lxK cal O N veneerlaw11LargeC2 E H (seqK (lxK cal O N (.seq (.reg [ qO 2 (.mv (.k (.bool false)))]) .ret)) (kR (resK [(.tmp 2)] []) k))=_;exact(veneerlaw11LargeC2Eq cal O N (k:=(seqK (lxK cal O N (.seq (.reg [ qO 2 (.mv (.k (.bool false)))]) .ret)) (kR (resK [(.tmp 2)] []) k))) (fun H=>some ((.bool false),H)) (fun _ _=>by kernel_rfl) (fun _ _=>by kernel_rfl) E H).trans (by kernel_rfl)
def veneerlaw11LargeC4S (cal:CB)(O:Oracle)(N:Nat)(v0:IV)(H:Heap):OH :=
  veneerlaw11LargeC3S cal O N v0 (.int .i64 0) H
theorem veneerlaw11LargeC4Eq (cal:CB)(O:Oracle)(N:Nat){k:KT (IV×Heap)}(hR:∀E H,k .ret E H=resK [(.tmp 2)] [] E H):∀(E:Sg) (H:Heap),lxK cal O N veneerlaw11LargeC4 E H k=veneerlaw11LargeC4S cal O N (lk E 0) H:=by
 have hk:k=(kR (resK [(.tmp 2)] []) k):=(kR_mk hR rfl);intro E H;rw[hk];show lxK cal O N (.reg [ qO 3 (.mv (k6 0))]) E H (seqK (lxK cal O N veneerlaw11LargeC3) (kR (resK [(.tmp 2)] []) k))=_;rw[seqK_mk (g:=fun E H=>veneerlaw11LargeC3S cal O N (lk E 0) (lk E 3) H) (veneerlaw11LargeC3Eq cal O N (k:=(kR (resK [(.tmp 2)] []) k)) (fun _ _=>by kernel_rfl))];kernel_rfl
def veneerlaw11LargeC5S (cal:CB)(O:Oracle)(N:Nat)(v0:IV)(H:Heap):OH :=
  veneerlaw11LargeC4S cal O N v0 H
theorem veneerlaw11LargeC5Eq (cal:CB)(O:Oracle)(N:Nat){k:KT (IV×Heap)}(hR:∀E H,k .ret E H=resK [(.tmp 2)] [] E H):∀(E:Sg) (H:Heap),lxK cal O N veneerlaw11LargeC5 E H k=veneerlaw11LargeC5S cal O N (lk E 0) H:=by
 have hk:k=(kR (resK [(.tmp 2)] []) k):=(kR_mk hR rfl);intro E H;rw[hk];show lxK cal O N (.reg [ qO 2 (.mv (.k (.bool false)))]) E H (seqK (lxK cal O N veneerlaw11LargeC4) (kR (resK [(.tmp 2)] []) k))=_;rw[seqK_mk (g:=fun E H=>veneerlaw11LargeC4S cal O N (lk E 0) H) (veneerlaw11LargeC4Eq cal O N (k:=(kR (resK [(.tmp 2)] []) k)) (fun _ _=>by kernel_rfl))];kernel_rfl
def veneerlaw11Large :LFun:=⟨veneerlaw11LargeC5,[(.tmp 2)],34⟩
def veneerlaw11LargeS (cal:CB)(O:Oracle)(N:Nat)(v0:IV)(H:Heap):OH :=
  veneerlaw11LargeC5S cal O N v0 H
theorem veneerlaw11LargeEq (cal:CB)(O:Oracle)(N:Nat)(v0:IV)(H:Heap):lrunK cal O N (veneerlaw11Large) [v0] H=veneerlaw11LargeS cal O N v0 H:=by
 show lxK cal O N veneerlaw11LargeC5 (initFrom 0 [v0]) H (endK [(.tmp 2)])=_;exact veneerlaw11LargeC5Eq cal O N (k:=(endK [(.tmp 2)])) (fun _ _=>by kernel_rfl) (initFrom 0 [v0]) H
def flatSame (f0:FuncId):LFun:=⟨(.seq (.reg [ qO 4 (.mv (.k (.bool false)))]) (.seq (.reg [ qM 5 0,qM 6 1,qO 7 (.callF f0 [(.t 5),(.t 6)]),qM 4 7]) .ret)),[(.tmp 4)],8⟩
def flatSameS (cal:CB)(O:Oracle)(N:Nat)(f0:FuncId)(v0 v1:IV)(H:Heap):OH :=
 ob (O f0 [v0,v1] H) fun r1 =>some (r1.1,r1.2)
theorem flatSameEq (cal:CB)(O:Oracle)(N:Nat)(f0:FuncId)(v0 v1:IV)(H:Heap):lrunK cal O N (flatSame f0) [v0,v1] H=flatSameS cal O N f0 v0 v1 H:=by
 kernel_rfl
def X4K1 :LC:=.seq (.seq (.reg [ qM 11 5,qM 12 0,qO 13 (.len .slice (.t 12)),qO 14 (.bin .lss (.t 11) (.t 13))]) (.cond (.t 14) .skip (.exit 0))) (.seq (.block 1 (.seq (.drw [ qM 17 0,qM 18 5,qO 19 (.ix 3 (.t 17) (.t 18)),qO 20 (.ldn 3 (.t 19)),qM 21 1,qM 22 5,qO 23 (.ix 3 (.t 21) (.t 22)),qO 24 (.ldn 3 (.t 23)),qO 25 (.eqv true (.struct [(0,.str),(1,.int),(2,.str)]) (.t 20) (.t 24))] []) (.cond (.t 25) (.seq (.reg [ qO 4 (.mv (.k (.bool false)))]) .ret) .skip))) (.reg [ qM 15 5,qO 16 (.bin .add (.t 15) (k6 1)),qM 5 16]))
def vr11SameC0 :LC:=.loop X4K1
def vr11SameC1 :LC:=.block 0 vr11SameC0
def vr11SameC2 :LC:=.seq (.reg [ qO 5 (.mv (k6 0))]) vr11SameC1
def vr11SameC3 :LC:=.seq vr11SameC2 (.seq (.reg [ qO 4 (.mv (.k (.bool true)))]) .ret)
def X4K3 :LC:=.seq (.reg [ qM 6 0,qO 7 (.len .slice (.t 6)),qM 8 1,qO 9 (.len .slice (.t 8)),qO 10 (.bin .neq (.t 7) (.t 9))]) (.cond (.t 10) (.seq (.reg [ qO 4 (.mv (.k (.bool false)))]) .ret) .skip)
def vr11SameC4 :LC:=.seq X4K3 vr11SameC3
def vr11SameC5 :LC:=.seq (.reg [ qO 4 (.mv (.k (.bool false)))]) vr11SameC4
def vr11SameC0S (cal:CB)(O:Oracle)(N:Nat)(gE0:Heap->OH):Nat->IV->IV->IV->Heap->OH
 | 0,_,_,_,_=>none
 | n+1,v0,v1,v5,H =>ob (llen H .slice v0) fun t1 =>ob (lbin .lss v5 t1) fun t2 =>cnd t2
  (ob (lix 3 v0 v5) fun t3 =>ob (lloadn H 3 t3) fun t4 =>ob (lix 3 v1 v5) fun t5 =>ob (lloadn H 3 t5) fun t6 =>ob (leqv true (leq (.struct [(0,.str),(1,.int),(2,.str)]) t4 t6)) fun t7 =>cnd t7
  (some ((.bool false),H))
  (ob (lbin .add v5 (.int .i64 1)) fun t8 =>
   vr11SameC0S cal O N gE0 n v0 v1 t8 H))
  (gE0 H)
theorem vr11SameC0Eq (cal:CB)(O:Oracle)(N:Nat){k:KT (IV×Heap)}(gE0:Heap->OH)(hgE0:∀E H,k (.exit 0) E H=gE0 H)(hR:∀E H,k .ret E H=resK [(.tmp 4)] [] E H):∀(n:Nat) (E:Sg) (H:Heap),itK (lxK cal O N X4K1) n E H k=vr11SameC0S cal O N gE0 n (lk E 0) (lk E 1) (lk E 5) H:=by
 have hk:k=(kE 0 (fun E H=>gE0 H) (kR (resK [(.tmp 4)] []) k)):=(kE_mk hgE0 (kR_mk hR rfl));intro n
 induction n with
 | zero=>intro E H;rfl
 | succ n ih =>
  intro E H;rw[itK_succ,seqK_mk (g:=fun E H=>vr11SameC0S cal O N gE0 n (lk E 0) (lk E 1) (lk E 5) H) ih,hk];kernel_rfl
def vr11SameC1S (cal:CB)(O:Oracle)(N:Nat)(gN:Heap->OH)(v0 v1 v5:IV)(H:Heap):OH :=
  vr11SameC0S cal O N (fun H=>gN H) N v0 v1 v5 H
theorem vr11SameC1Eq (cal:CB)(O:Oracle)(N:Nat){k:KT (IV×Heap)}(gN:Heap->OH)(hgN:∀E H,k .normal E H=gN H)(hR:∀E H,k .ret E H=resK [(.tmp 4)] [] E H):∀(E:Sg) (H:Heap),lxK cal O N vr11SameC1 E H k=vr11SameC1S cal O N gN (lk E 0) (lk E 1) (lk E 5) H:=by
 have hk:k=(kN (fun E H=>gN H) (kR (resK [(.tmp 4)] []) k)):=(kN_mk hgN (kR_mk hR rfl));intro E H;rw[hk];show lxK cal O N vr11SameC0 E H (blockK 0 (kN (fun E H=>gN H) (kR (resK [(.tmp 4)] []) k)))=_;exact(vr11SameC0Eq cal O N (k:=(blockK 0 (kN (fun E H=>gN H) (kR (resK [(.tmp 4)] []) k)))) gN (fun _ _=>by kernel_rfl) (fun _ _=>by kernel_rfl) N E H).trans (by kernel_rfl)
def vr11SameC2S (cal:CB)(O:Oracle)(N:Nat)(gN:Heap->OH)(v0 v1:IV)(H:Heap):OH :=
  vr11SameC1S cal O N (fun H=>gN H) v0 v1 (.int .i64 0) H
theorem vr11SameC2Eq (cal:CB)(O:Oracle)(N:Nat){k:KT (IV×Heap)}(gN:Heap->OH)(hgN:∀E H,k .normal E H=gN H)(hR:∀E H,k .ret E H=resK [(.tmp 4)] [] E H):∀(E:Sg) (H:Heap),lxK cal O N vr11SameC2 E H k=vr11SameC2S cal O N gN (lk E 0) (lk E 1) H:=by
 have hk:k=(kN (fun E H=>gN H) (kR (resK [(.tmp 4)] []) k)):=(kN_mk hgN (kR_mk hR rfl));intro E H;rw[hk];show lxK cal O N (.reg [ qO 5 (.mv (k6 0))]) E H (seqK (lxK cal O N vr11SameC1) (kN (fun E H=>gN H) (kR (resK [(.tmp 4)] []) k)))=_;rw[seqK_mk (g:=fun E H=>vr11SameC1S cal O N gN (lk E 0) (lk E 1) (lk E 5) H) (vr11SameC1Eq cal O N (k:=(kN (fun E H=>gN H) (kR (resK [(.tmp 4)] []) k))) gN (fun _ _=>by kernel_rfl) (fun _ _=>by kernel_rfl))];kernel_rfl
def vr11SameC3S (cal:CB)(O:Oracle)(N:Nat)(v0 v1:IV)(H:Heap):OH :=
  vr11SameC2S cal O N (fun H=>some ((.bool true),H)) v0 v1 H
theorem vr11SameC3Eq (cal:CB)(O:Oracle)(N:Nat){k:KT (IV×Heap)}(hR:∀E H,k .ret E H=resK [(.tmp 4)] [] E H):∀(E:Sg) (H:Heap),lxK cal O N vr11SameC3 E H k=vr11SameC3S cal O N (lk E 0) (lk E 1) H:=by
 have hk:k=(kR (resK [(.tmp 4)] []) k):=(kR_mk hR rfl);intro E H;rw[hk];show lxK cal O N vr11SameC2 E H (seqK (lxK cal O N (.seq (.reg [ qO 4 (.mv (.k (.bool true)))]) .ret)) (kR (resK [(.tmp 4)] []) k))=_;exact(vr11SameC2Eq cal O N (k:=(seqK (lxK cal O N (.seq (.reg [ qO 4 (.mv (.k (.bool true)))]) .ret)) (kR (resK [(.tmp 4)] []) k))) (fun H=>some ((.bool true),H)) (fun _ _=>by kernel_rfl) (fun _ _=>by kernel_rfl) E H).trans (by kernel_rfl)
def vr11SameC4S (cal:CB)(O:Oracle)(N:Nat)(v0 v1:IV)(H:Heap):OH :=
 ob (llen H .slice v0) fun t1 =>ob (llen H .slice v1) fun t2 =>ob (lbin .neq t1 t2) fun t3 =>cnd t3
 (some ((.bool false),H))
  (vr11SameC3S cal O N v0 v1 H)
theorem vr11SameC4Eq (cal:CB)(O:Oracle)(N:Nat){k:KT (IV×Heap)}(hR:∀E H,k .ret E H=resK [(.tmp 4)] [] E H):∀(E:Sg) (H:Heap),lxK cal O N vr11SameC4 E H k=vr11SameC4S cal O N (lk E 0) (lk E 1) H:=by
 have hk:k=(kR (resK [(.tmp 4)] []) k):=(kR_mk hR rfl);intro E H;rw[hk];show lxK cal O N X4K3 E H (seqK (lxK cal O N vr11SameC3) (kR (resK [(.tmp 4)] []) k))=_;rw[seqK_mk (g:=fun E H=>vr11SameC3S cal O N (lk E 0) (lk E 1) H) (vr11SameC3Eq cal O N (k:=(kR (resK [(.tmp 4)] []) k)) (fun _ _=>by kernel_rfl))];kernel_rfl
def vr11SameC5S (cal:CB)(O:Oracle)(N:Nat)(v0 v1:IV)(H:Heap):OH :=
  vr11SameC4S cal O N v0 v1 H
theorem vr11SameC5Eq (cal:CB)(O:Oracle)(N:Nat){k:KT (IV×Heap)}(hR:∀E H,k .ret E H=resK [(.tmp 4)] [] E H):∀(E:Sg) (H:Heap),lxK cal O N vr11SameC5 E H k=vr11SameC5S cal O N (lk E 0) (lk E 1) H:=by
 have hk:k=(kR (resK [(.tmp 4)] []) k):=(kR_mk hR rfl);intro E H;rw[hk];show lxK cal O N (.reg [ qO 4 (.mv (.k (.bool false)))]) E H (seqK (lxK cal O N vr11SameC4) (kR (resK [(.tmp 4)] []) k))=_;rw[seqK_mk (g:=fun E H=>vr11SameC4S cal O N (lk E 0) (lk E 1) H) (vr11SameC4Eq cal O N (k:=(kR (resK [(.tmp 4)] []) k)) (fun _ _=>by kernel_rfl))];kernel_rfl
def vr11Same :LFun:=⟨vr11SameC5,[(.tmp 4)],26⟩
def vr11SameS (cal:CB)(O:Oracle)(N:Nat)(v0 v1:IV)(H:Heap):OH :=
  vr11SameC5S cal O N v0 v1 H
theorem vr11SameEq (cal:CB)(O:Oracle)(N:Nat)(v0 v1:IV)(H:Heap):lrunK cal O N (vr11Same) [v0,v1] H=vr11SameS cal O N v0 v1 H:=by
 show lxK cal O N vr11SameC5 (initFrom 0 [v0,v1]) H (endK [(.tmp 4)])=_;exact vr11SameC5Eq cal O N (k:=(endK [(.tmp 4)])) (fun _ _=>by kernel_rfl) (initFrom 0 [v0,v1]) H
def X4K2 :LC:=.seq (.reg [ qO 14 (.bin .lss (.t 13) (.t 12))]) (.seq (.cond (.t 14) .skip (.exit 0)) (.seq (.block 1 (.seq (.reg [ qM 15 13,qM 5 15]) (.seq (.drw [ qM 16 0,qM 17 5,qO 18 (.ix 3 (.t 16) (.t 17)),qO 19 (.ldn 3 (.t 18)),qM 20 1,qM 21 5,qO 22 (.ix 3 (.t 20) (.t 21)),qO 23 (.ldn 3 (.t 22)),qO 24 (.eqv true (.struct [(0,.str),(1,.int),(2,.str)]) (.t 19) (.t 23))] []) (.cond (.t 24) (.seq (.reg [ qO 4 (.mv (.k (.bool false)))]) .ret) .skip)))) (.reg [ qO 25 (.bin .add (.t 13) (k6 1)),qM 13 25])))
def slicesEqualVeneerApiLineVeneerApiLineC0 :LC:=.loop X4K2
def slicesEqualVeneerApiLineVeneerApiLineC1 :LC:=.block 0 slicesEqualVeneerApiLineVeneerApiLineC0
def X4K4 :LC:=.reg [ qM 11 0,qO 12 (.len .slice (.t 11)),qO 13 (.mv (k6 0))]
def slicesEqualVeneerApiLineVeneerApiLineC2 :LC:=.seq X4K4 slicesEqualVeneerApiLineVeneerApiLineC1
def slicesEqualVeneerApiLineVeneerApiLineC3 :LC:=.seq slicesEqualVeneerApiLineVeneerApiLineC2 (.seq (.reg [ qO 4 (.mv (.k (.bool true)))]) .ret)
def slicesEqualVeneerApiLineVeneerApiLineC4 :LC:=.seq X4K3 slicesEqualVeneerApiLineVeneerApiLineC3
def slicesEqualVeneerApiLineVeneerApiLineC5 :LC:=.seq (.reg [ qO 4 (.mv (.k (.bool false)))]) slicesEqualVeneerApiLineVeneerApiLineC4
def slicesEqualVeneerApiLineVeneerApiLineC0S (cal:CB)(O:Oracle)(N:Nat)(gE0:Heap->OH):Nat->IV->IV->IV->IV->Heap->OH
 | 0,_,_,_,_,_=>none
 | n+1,v0,v1,v12,v13,H =>ob (lbin .lss v13 v12) fun t1 =>cnd t1
  (ob (lix 3 v0 v13) fun t2 =>ob (lloadn H 3 t2) fun t3 =>ob (lix 3 v1 v13) fun t4 =>ob (lloadn H 3 t4) fun t5 =>ob (leqv true (leq (.struct [(0,.str),(1,.int),(2,.str)]) t3 t5)) fun t6 =>cnd t6
  (some ((.bool false),H))
  (ob (lbin .add v13 (.int .i64 1)) fun t7 =>
   slicesEqualVeneerApiLineVeneerApiLineC0S cal O N gE0 n v0 v1 v12 t7 H))
  (gE0 H)
theorem slicesEqualVeneerApiLineVeneerApiLineC0Eq (cal:CB)(O:Oracle)(N:Nat){k:KT (IV×Heap)}(gE0:Heap->OH)(hgE0:∀E H,k (.exit 0) E H=gE0 H)(hR:∀E H,k .ret E H=resK [(.tmp 4)] [] E H):∀(n:Nat) (E:Sg) (H:Heap),itK (lxK cal O N X4K2) n E H k=slicesEqualVeneerApiLineVeneerApiLineC0S cal O N gE0 n (lk E 0) (lk E 1) (lk E 12) (lk E 13) H:=by
 have hk:k=(kE 0 (fun E H=>gE0 H) (kR (resK [(.tmp 4)] []) k)):=(kE_mk hgE0 (kR_mk hR rfl));intro n
 induction n with
 | zero=>intro E H;rfl
 | succ n ih =>
  intro E H;rw[itK_succ,seqK_mk (g:=fun E H=>slicesEqualVeneerApiLineVeneerApiLineC0S cal O N gE0 n (lk E 0) (lk E 1) (lk E 12) (lk E 13) H) ih,hk];kernel_rfl
def slicesEqualVeneerApiLineVeneerApiLineC1S (cal:CB)(O:Oracle)(N:Nat)(gN:Heap->OH)(v0 v1 v12 v13:IV)(H:Heap):OH :=
  slicesEqualVeneerApiLineVeneerApiLineC0S cal O N (fun H=>gN H) N v0 v1 v12 v13 H
theorem slicesEqualVeneerApiLineVeneerApiLineC1Eq (cal:CB)(O:Oracle)(N:Nat){k:KT (IV×Heap)}(gN:Heap->OH)(hgN:∀E H,k .normal E H=gN H)(hR:∀E H,k .ret E H=resK [(.tmp 4)] [] E H):∀(E:Sg) (H:Heap),lxK cal O N slicesEqualVeneerApiLineVeneerApiLineC1 E H k=slicesEqualVeneerApiLineVeneerApiLineC1S cal O N gN (lk E 0) (lk E 1) (lk E 12) (lk E 13) H:=by
 have hk:k=(kN (fun E H=>gN H) (kR (resK [(.tmp 4)] []) k)):=(kN_mk hgN (kR_mk hR rfl));intro E H;rw[hk];show lxK cal O N slicesEqualVeneerApiLineVeneerApiLineC0 E H (blockK 0 (kN (fun E H=>gN H) (kR (resK [(.tmp 4)] []) k)))=_;exact(slicesEqualVeneerApiLineVeneerApiLineC0Eq cal O N (k:=(blockK 0 (kN (fun E H=>gN H) (kR (resK [(.tmp 4)] []) k)))) gN (fun _ _=>by kernel_rfl) (fun _ _=>by kernel_rfl) N E H).trans (by kernel_rfl)
def slicesEqualVeneerApiLineVeneerApiLineC2S (cal:CB)(O:Oracle)(N:Nat)(gN:Heap->OH)(v0 v1:IV)(H:Heap):OH :=
 ob (llen H .slice v0) fun t1 =>
  slicesEqualVeneerApiLineVeneerApiLineC1S cal O N (fun H=>gN H) v0 v1 t1 (.int .i64 0) H
theorem slicesEqualVeneerApiLineVeneerApiLineC2Eq (cal:CB)(O:Oracle)(N:Nat){k:KT (IV×Heap)}(gN:Heap->OH)(hgN:∀E H,k .normal E H=gN H)(hR:∀E H,k .ret E H=resK [(.tmp 4)] [] E H):∀(E:Sg) (H:Heap),lxK cal O N slicesEqualVeneerApiLineVeneerApiLineC2 E H k=slicesEqualVeneerApiLineVeneerApiLineC2S cal O N gN (lk E 0) (lk E 1) H:=by
 have hk:k=(kN (fun E H=>gN H) (kR (resK [(.tmp 4)] []) k)):=(kN_mk hgN (kR_mk hR rfl));intro E H;rw[hk];show lxK cal O N X4K4 E H (seqK (lxK cal O N slicesEqualVeneerApiLineVeneerApiLineC1) (kN (fun E H=>gN H) (kR (resK [(.tmp 4)] []) k)))=_;rw[seqK_mk (g:=fun E H=>slicesEqualVeneerApiLineVeneerApiLineC1S cal O N gN (lk E 0) (lk E 1) (lk E 12) (lk E 13) H) (slicesEqualVeneerApiLineVeneerApiLineC1Eq cal O N (k:=(kN (fun E H=>gN H) (kR (resK [(.tmp 4)] []) k))) gN (fun _ _=>by kernel_rfl) (fun _ _=>by kernel_rfl))];kernel_rfl
def slicesEqualVeneerApiLineVeneerApiLineC3S (cal:CB)(O:Oracle)(N:Nat)(v0 v1:IV)(H:Heap):OH :=
  slicesEqualVeneerApiLineVeneerApiLineC2S cal O N (fun H=>some ((.bool true),H)) v0 v1 H
theorem slicesEqualVeneerApiLineVeneerApiLineC3Eq (cal:CB)(O:Oracle)(N:Nat){k:KT (IV×Heap)}(hR:∀E H,k .ret E H=resK [(.tmp 4)] [] E H):∀(E:Sg) (H:Heap),lxK cal O N slicesEqualVeneerApiLineVeneerApiLineC3 E H k=slicesEqualVeneerApiLineVeneerApiLineC3S cal O N (lk E 0) (lk E 1) H:=by
 have hk:k=(kR (resK [(.tmp 4)] []) k):=(kR_mk hR rfl);intro E H;rw[hk];show lxK cal O N slicesEqualVeneerApiLineVeneerApiLineC2 E H (seqK (lxK cal O N (.seq (.reg [ qO 4 (.mv (.k (.bool true)))]) .ret)) (kR (resK [(.tmp 4)] []) k))=_;exact(slicesEqualVeneerApiLineVeneerApiLineC2Eq cal O N (k:=(seqK (lxK cal O N (.seq (.reg [ qO 4 (.mv (.k (.bool true)))]) .ret)) (kR (resK [(.tmp 4)] []) k))) (fun H=>some ((.bool true),H)) (fun _ _=>by kernel_rfl) (fun _ _=>by kernel_rfl) E H).trans (by kernel_rfl)
def slicesEqualVeneerApiLineVeneerApiLineC4S (cal:CB)(O:Oracle)(N:Nat)(v0 v1:IV)(H:Heap):OH :=
 ob (llen H .slice v0) fun t1 =>ob (llen H .slice v1) fun t2 =>ob (lbin .neq t1 t2) fun t3 =>cnd t3
 (some ((.bool false),H))
  (slicesEqualVeneerApiLineVeneerApiLineC3S cal O N v0 v1 H)
theorem slicesEqualVeneerApiLineVeneerApiLineC4Eq (cal:CB)(O:Oracle)(N:Nat){k:KT (IV×Heap)}(hR:∀E H,k .ret E H=resK [(.tmp 4)] [] E H):∀(E:Sg) (H:Heap),lxK cal O N slicesEqualVeneerApiLineVeneerApiLineC4 E H k=slicesEqualVeneerApiLineVeneerApiLineC4S cal O N (lk E 0) (lk E 1) H:=by
 have hk:k=(kR (resK [(.tmp 4)] []) k):=(kR_mk hR rfl);intro E H;rw[hk];show lxK cal O N X4K3 E H (seqK (lxK cal O N slicesEqualVeneerApiLineVeneerApiLineC3) (kR (resK [(.tmp 4)] []) k))=_;rw[seqK_mk (g:=fun E H=>slicesEqualVeneerApiLineVeneerApiLineC3S cal O N (lk E 0) (lk E 1) H) (slicesEqualVeneerApiLineVeneerApiLineC3Eq cal O N (k:=(kR (resK [(.tmp 4)] []) k)) (fun _ _=>by kernel_rfl))];kernel_rfl
def slicesEqualVeneerApiLineVeneerApiLineC5S (cal:CB)(O:Oracle)(N:Nat)(v0 v1:IV)(H:Heap):OH :=
  slicesEqualVeneerApiLineVeneerApiLineC4S cal O N v0 v1 H
theorem slicesEqualVeneerApiLineVeneerApiLineC5Eq (cal:CB)(O:Oracle)(N:Nat){k:KT (IV×Heap)}(hR:∀E H,k .ret E H=resK [(.tmp 4)] [] E H):∀(E:Sg) (H:Heap),lxK cal O N slicesEqualVeneerApiLineVeneerApiLineC5 E H k=slicesEqualVeneerApiLineVeneerApiLineC5S cal O N (lk E 0) (lk E 1) H:=by
 have hk:k=(kR (resK [(.tmp 4)] []) k):=(kR_mk hR rfl);intro E H;rw[hk];show lxK cal O N (.reg [ qO 4 (.mv (.k (.bool false)))]) E H (seqK (lxK cal O N slicesEqualVeneerApiLineVeneerApiLineC4) (kR (resK [(.tmp 4)] []) k))=_;rw[seqK_mk (g:=fun E H=>slicesEqualVeneerApiLineVeneerApiLineC4S cal O N (lk E 0) (lk E 1) H) (slicesEqualVeneerApiLineVeneerApiLineC4Eq cal O N (k:=(kR (resK [(.tmp 4)] []) k)) (fun _ _=>by kernel_rfl))];kernel_rfl
def slicesEqualVeneerApiLineVeneerApiLine :LFun:=⟨slicesEqualVeneerApiLineVeneerApiLineC5,[(.tmp 4)],26⟩
def slicesEqualVeneerApiLineVeneerApiLineS (cal:CB)(O:Oracle)(N:Nat)(v0 v1:IV)(H:Heap):OH :=
  slicesEqualVeneerApiLineVeneerApiLineC5S cal O N v0 v1 H
theorem slicesEqualVeneerApiLineVeneerApiLineEq (cal:CB)(O:Oracle)(N:Nat)(v0 v1:IV)(H:Heap):lrunK cal O N (slicesEqualVeneerApiLineVeneerApiLine) [v0,v1] H=slicesEqualVeneerApiLineVeneerApiLineS cal O N v0 v1 H:=by
 show lxK cal O N slicesEqualVeneerApiLineVeneerApiLineC5 (initFrom 0 [v0,v1]) H (endK [(.tmp 4)])=_;exact slicesEqualVeneerApiLineVeneerApiLineC5Eq cal O N (k:=(endK [(.tmp 4)])) (fun _ _=>by kernel_rfl) (initFrom 0 [v0,v1]) H
end Go.Shade
namespace Go.Shade
end Go.Shade
namespace Go.Shade
theorem BS.cells {H:Heap}{v:IV}{l:List UInt8}(h:BS H v l):xlen v=some l.length/\lxcells H 1 v l.length=some (bytes l):=by
 rcases h with⟨rfl,rfl⟩ | ⟨b,o,n,lb,ex,sz,rfl,h1,h2,h3,h4⟩
 ·exact⟨rfl,rfl⟩
 ·subst h3;refine⟨rfl,?_⟩;show lsl H 1 (.slice b o l.length lb ex sz) l.length=some (bytes l);simp only[lsl,Nat.le_refl,if_true];by_cases h0:l.length=0
  ·rw[if_pos h0,List.length_eq_zero_iff.1 h0];rfl
  ·rw[if_neg h0];obtain⟨cells,ro,g1,g2⟩:=h4 (by omega);have hlast:=g2 (l.length - 1) (by omega);have hlen:=(ges hlast).1;simp only[irow,g1,Nat.mul_one];rw[if_pos (by omega)]
   congr 1
   apply List.ext_getElem?;intro i;by_cases hi:i<l.length
   ·rw[List.getElem?_take,if_pos hi,List.getElem?_drop,g2 i hi];simp[bytes,hi,List.getD_eq_getElem?_getD]
   ·rw[List.getElem?_eq_none (by simp;omega),List.getElem?_eq_none (by simp[bytes];omega)]
end Go.Shade
namespace Go.Shade
theorem CS.take {H:Heap}{v:IV}{l:List Cl}(h:CS H v l){n:Nat}(hn:n<=l.length):∃v',lslice H (.slice 7) v none (some (.int .i64 (n:Nat))) none=some v'/\CS H v' (l.take n):=by
 rcases h with⟨rfl,rfl⟩ | ⟨b,o,m,lb,ex,sz,rfl,h1,h2,h3,h4⟩
 ·simp at hn;subst hn;exact⟨_,rfl,.inl ⟨rfl,rfl⟩⟩
 ·refine⟨.slice b (o+0*7) (n - 0) (lb - 0) ex sz,?_,.inr ⟨b,o+0*7,n - 0,lb - 0,ex,sz,rfl,by omega,h2,by simp;omega,fun i c hi=> ?_⟩⟩
  ·simp only[lslice,bnd];rw[if_pos (by omega)];simp only[Option.bind_some,Int.toNat_natCast];rw[if_neg (by omega),if_pos (by omega)]
  ·rw[List.getElem?_take]at hi;split at hi
   ·have:=h4 i c hi;simpa using this
   ·cases hi
theorem CS.drop {H:Heap}{v:IV}{l:List Cl}(h:CS H v l){n:Nat}(hn:n<=l.length):∃v',lslice H (.slice 7) v (some (.int .i64 (n:Nat))) none none=some v'/\CS H v' (l.drop n):=by
 rcases h with⟨rfl,rfl⟩ | ⟨b,o,m,lb,ex,sz,rfl,h1,h2,h3,h4⟩
 ·simp at hn;subst hn;exact⟨_,rfl,.inl ⟨rfl,rfl⟩⟩
 ·refine⟨.slice b (o+n*7) (m - n) (lb - n) ex sz,?_,.inr ⟨b,o+n*7,m - n,lb - n,ex,sz,rfl,by omega,h2,by simp;omega,fun i c hi=> ?_⟩⟩
  ·simp only[lslice,bnd];rw[if_pos (by omega)];simp only[Option.bind_some,Int.toNat_natCast];rw[if_neg (by omega),if_pos (by omega)]
  ·rw[List.getElem?_drop]at hi;have:=h4 (n+i) c hi;rw[Nat.add_mul,←Nat.add_assoc]at this;exact this
theorem BS.take {H:Heap}{v:IV}{l:List UInt8}(h:BS H v l){n:Nat}(hn:n<=l.length):∃v',lslice H (.slice 1) v none (some (.int .i64 (n:Nat))) none=some v'/\BS H v' (l.take n):=by
 rcases h with⟨rfl,rfl⟩ | ⟨b,o,m,lb,ex,sz,rfl,h1,h2,h3,h4⟩
 ·simp at hn;subst hn;exact⟨_,rfl,.inl ⟨rfl,rfl⟩⟩
 ·refine⟨.slice b (o+0*1) (n - 0) (lb - 0) ex sz,?_,.inr ⟨b,o+0*1,n - 0,lb - 0,ex,sz,rfl,by omega,h2,by simp;omega,fun hp=> ?_⟩⟩
  ·simp only[lslice,bnd];rw[if_pos (by omega)];simp only[Option.bind_some,Int.toNat_natCast];rw[if_neg (by omega),if_pos (by omega)]
  ·obtain⟨cells,ro,g1,g2⟩:=h4 (by omega);refine⟨cells,ro,g1,fun i hi=> ?_⟩;have:=g2 i (by omega);have e:(l.take n).getD i 0=l.getD i 0:=by simp[List.getD_eq_getElem?_getD,List.getElem?_take,show i<n by omega]
   rw[e];simpa using this
theorem BS.b2s {H:Heap}{v:IV}{l:List UInt8}(h:BS H v l):lb2s H v=some (.str l):=by
 obtain⟨e1,e2⟩:=h.cells;rcases h with⟨rfl,rfl⟩ | ⟨b,o,m,lb,ex,sz,rfl,h1,h2,h3,h4⟩
 ·rfl
 ·have e2':lsl H 1 (.slice b o m lb ex sz) m=some (bytes l):=by rw[h3]at e2;exact e2
  simp only[lb2s,e2',Option.bind_some,ibytes_bytes]
theorem apart {a b:Cl}(ha:a.may=true)(hb:b.may=true)(h:a.enc.length<=b.enc.length)(e:a.enc=b.enc.take a.enc.length):a=b:=by
 obtain⟨r1,_⟩:=rd_enc ha (b.enc.drop a.enc.length);obtain⟨r2,_⟩:=rd_enc hb [];rw[List.append_nil]at r2;have:a.enc++b.enc.drop a.enc.length=b.enc:=by
  have:=List.take_append_drop a.enc.length b.enc;rw[←e]at this;exact this
 rw[this]at r1;exact r1.symm.trans r2
theorem imin_nat (a b:Nat):ifold imin2 (.int .i64 (a:Nat)) [.int .i64 (b:Nat)]=some (.int .i64 ((min a b:Nat):Int)):=by
 have:(if((b:Nat):Int)<((a:Nat):Int)then((b:Nat):Int)else((a:Nat):Int))=((min a b:Nat):Int):=by split<;>omega
 simp only[ifold,imin2,if_true,Option.bind_some,this]
end Go.Shade
namespace Go.Shade
variable {H : Heap} {a b l : List Ln} {v v0 v1 : IV}
theorem line_eq (x y:Ln):leq (.struct [(0,.str),(1,.int),(2,.str)]) (.agg x.cells) (.agg y.cells)=some (decide (x=y)):=by
 have:leq (.struct [(0,.str),(1,.int),(2,.str)]) (.agg x.cells) (.agg y.cells)=some ((x.path==y.path)&&((x.kind==y.kind)&&((x.data==y.data)&&true))):=rfl;rw[this]
 congr 1
 rw[Bool.eq_iff_iff];simp only[Bool.and_eq_true,beq_iff_eq,decide_eq_true_eq,and_true];obtain⟨a1,a2,a3⟩:=x;obtain⟨b1,b2,b3⟩:=y;simp
theorem drop_eqL {α:Type}{T U:List α}{t:Nat}{x y:α}(h:T[t]? =some x)(k:U[t]? =some y):T.drop t=U.drop t↔x=y/\T.drop (t+1)=U.drop (t+1):=by
 obtain⟨h1,h2⟩:=ges h;obtain⟨k1,k2⟩:=ges k;rw[List.drop_eq_getElem_cons h1,List.drop_eq_getElem_cons k1,List.cons.injEq,h2,k2]
def LSameOk (O:Oracle)(f:FuncId):Prop:=∀(H:Heap) (v0 v1:IV) (a b:List Ln),LnS H v0 a->LnS H v1 b->a.length<=1000000->O f [v0,v1] H=some (.bool (decide (a=b)),H)
def LargeOk (O:Oracle)(f:FuncId):Prop:=∀(H:Heap) (v:IV) (l:List Ln),LnS H v l->∃bb,O f [v] H=some (.bool bb,H)/\(bb=false->l.length<=301/\(textOf l).length<=200000)
def TextOk' (O:Oracle)(f:FuncId):Prop:=∀(H:Heap) (v:IV) (l:List Ln),LnS H v l->(textOf l).length<=1000000->O f [v] H=some (.str (textOf l),H)
theorem textT_of (h:LnS H v l)(hl:(textOf l).length<=1000000):textT [v] H=some (.str (textOf l),H):=by
 obtain⟨h1,⟨rfl,h2⟩ | ⟨b,o,lb,ex,sz,rfl,h2,h3,h4⟩⟩:=h
 ·have:l=[]:=List.length_eq_zero_iff.1 h2;subst this;rfl
 ·unfold textT;simp only;by_cases h0:l.length=0
  ·rw[if_pos h0];have:l=[]:=List.length_eq_zero_iff.1 h0;subst this;rfl
  ·rw[if_neg h0];obtain⟨row,ro,g1,g2,g3⟩:=h4 (by omega);rw[g1];simp only[g3,unL_flat];rw[if_pos ⟨trivial,by omega,h2,h3,hl⟩]
def wsum (l:List Ln):Nat:=(l.map fun x=>min x.data.length 262144+min x.path.length 262144).sum
theorem wsum_text :∀(l:List Ln),wsum l<=131072->(textOf l).length<=wsum l+4*l.length
 | [],_=>by simp[textOf]
 | x::l,h=>by
  have e:textOf (x::l)=lnText x++textOf l:=rfl;have e2:wsum (x::l)=min x.data.length 262144+min x.path.length 262144+wsum l:=rfl;have ih:=wsum_text l (by omega);have hx:(lnText x).length=x.path.length+x.data.length+4:=by simp[lnText];omega
  rw[e,List.length_append,hx,List.length_cons];omega
theorem wsum_take {i:Nat}{x:Ln}(h:l[i]? =some x):wsum (l.take (i+1))=wsum (l.take i)+(min x.data.length 262144+min x.path.length 262144):=by
 rw[List.take_add_one,h,Option.toList_some];simp[wsum]
section
variable {cal : FuncId -> Bool} {O : Oracle} {N : Nat}
theorem lsame_go (h0:LnS H v0 a)(h1:LnS H v1 b)(hl:a.length=b.length)(hb:a.length<=1000000) :
  ∀(d i m:Nat),i+d=a.length->d<m->(a.drop i=b.drop i↔a=b)->slicesEqualVeneerApiLineVeneerApiLineC0S cal O N (fun H=>some (.bool true,H)) m v0 v1 (.int .i64 (a.length:Nat)) (.int .i64 (i:Nat)) H=some (.bool (decide (a=b)),H):=by
 intro d
 induction d with
 | zero =>
  intro i m hi hm he;obtain⟨m,rfl⟩:∃j,m=j+1:=⟨m - 1,by omega⟩;rw[slicesEqualVeneerApiLineVeneerApiLineC0S,lbin_lss,ob_some,decide_eq_false (by omega),cnd_false,decide_eq_true (he.1 (by rw[List.drop_of_length_le (by omega),List.drop_of_length_le (by omega)]))]
 | succ d ih =>
  intro i m hi hm he;obtain⟨m,rfl⟩:∃j,m=j+1:=⟨m - 1,by omega⟩;have gx:=List.getElem?_eq_getElem (l:=a) (i:=i) (by omega);have gy:=List.getElem?_eq_getElem (l:=b) (i:=i) (by omega);have hd:=drop_eqL gx gy;obtain⟨b1,o1,x1,x2,_⟩:=h0.at gx;obtain⟨b2,o2,y1,y2,_⟩:=h1.at gy;rw[slicesEqualVeneerApiLineVeneerApiLineC0S,lbin_lss,ob_some,decide_eq_true (by omega),cnd_true];simp only[x1,x2,y1,y2,ob_some,line_eq,leqv_t];by_cases c:a[i]'(by omega)=b[i]'(by omega)
  ·have wi:IntKind.wrap .i64 ((i:Int)+1)=((i+1:Nat):Int):=by rw[wrap_i64 (by omega) (by omega)];omega
   rw[decide_eq_true c,Bool.not_true,cnd_false,lbin_add,ob_some,wi];exact ih (i+1) m (by omega) (by omega) ⟨fun h=>he.1 (hd.2 ⟨c,h⟩),fun h=>by rw[h]⟩
  ·rw[decide_eq_false c,Bool.not_false,cnd_true,decide_eq_false fun h=>c (hd.1 (by rw[h])).1]
theorem lsame_s (h0:LnS H v0 a)(h1:LnS H v1 b)(hb:a.length<=1000000)(hN:a.length<N):slicesEqualVeneerApiLineVeneerApiLineS cal O N v0 v1 H=some (.bool (decide (a=b)),H):=by
 unfold slicesEqualVeneerApiLineVeneerApiLineS slicesEqualVeneerApiLineVeneerApiLineC5S slicesEqualVeneerApiLineVeneerApiLineC4S;rw[h0.len,ob_some,h1.len,ob_some,lbin_neq,ob_some];by_cases c:a.length=b.length
 ·rw[decide_eq_true (by omega),Bool.not_true,cnd_false];unfold slicesEqualVeneerApiLineVeneerApiLineC3S slicesEqualVeneerApiLineVeneerApiLineC2S slicesEqualVeneerApiLineVeneerApiLineC1S;rw[h0.len,ob_some];exact lsame_go h0 h1 c hb _ 0 N (Nat.zero_add _) hN (by simp)
 ·rw[decide_eq_false (by omega),Bool.not_false,cnd_true,decide_eq_false fun h=>c (by rw[h])]
theorem rsame_go (h0:LnS H v0 a)(h1:LnS H v1 b)(hl:a.length=b.length)(hb:a.length<=1000000) :
  ∀(d i m:Nat),i+d=a.length->d<m->(a.drop i=b.drop i↔a=b)->vr11SameC0S cal O N (fun H=>some (.bool true,H)) m v0 v1 (.int .i64 (i:Nat)) H=some (.bool (decide (a=b)),H):=by
 intro d
 induction d with
 | zero =>
  intro i m hi hm he;obtain⟨m,rfl⟩:∃j,m=j+1:=⟨m - 1,by omega⟩;rw[vr11SameC0S,h0.len,ob_some,lbin_lss,ob_some,decide_eq_false (by omega),cnd_false,decide_eq_true (he.1 (by rw[List.drop_of_length_le (by omega),List.drop_of_length_le (by omega)]))]
 | succ d ih =>
  intro i m hi hm he;obtain⟨m,rfl⟩:∃j,m=j+1:=⟨m - 1,by omega⟩;have gx:=List.getElem?_eq_getElem (l:=a) (i:=i) (by omega);have gy:=List.getElem?_eq_getElem (l:=b) (i:=i) (by omega);have hd:=drop_eqL gx gy;obtain⟨b1,o1,x1,x2,_⟩:=h0.at gx;obtain⟨b2,o2,y1,y2,_⟩:=h1.at gy;rw[vr11SameC0S,h0.len,ob_some,lbin_lss,ob_some,decide_eq_true (by omega),cnd_true];simp only[x1,x2,y1,y2,ob_some,line_eq,leqv_t];by_cases c:a[i]'(by omega)=b[i]'(by omega)
  ·have wi:IntKind.wrap .i64 ((i:Int)+1)=((i+1:Nat):Int):=by rw[wrap_i64 (by omega) (by omega)];omega
   rw[decide_eq_true c,Bool.not_true,cnd_false,lbin_add,ob_some,wi];exact ih (i+1) m (by omega) (by omega) ⟨fun h=>he.1 (hd.2 ⟨c,h⟩),fun h=>by rw[h]⟩
  ·rw[decide_eq_false c,Bool.not_false,cnd_true,decide_eq_false fun h=>c (hd.1 (by rw[h])).1]
theorem rsame_s (h0:LnS H v0 a)(h1:LnS H v1 b)(hb:a.length<=1000000)(hN:a.length<N):vr11SameS cal O N v0 v1 H=some (.bool (decide (a=b)),H):=by
 unfold vr11SameS vr11SameC5S vr11SameC4S;rw[h0.len,ob_some,h1.len,ob_some,lbin_neq,ob_some];by_cases c:a.length=b.length
 ·rw[decide_eq_true (by omega),Bool.not_true,cnd_false];unfold vr11SameC3S vr11SameC2S vr11SameC1S;exact rsame_go h0 h1 c hb _ 0 N (Nat.zero_add _) hN (by simp)
 ·rw[decide_eq_false (by omega),Bool.not_false,cnd_true,decide_eq_false fun h=>c (by rw[h])]
theorem large_go (h:LnS H v l) :
  ∀(d i m:Nat),i+d=301->d<m->wsum (l.take i)<=131072->i<=l.length->∃bb,veneerlaw11LargeC0S cal O N (fun H=>some (.bool false,H)) m v (.int .i64 (wsum (l.take i):Nat)) (.int .i64 (l.length:Nat)) (.int .i64 (i:Nat)) H=some (.bool bb,H)/\(bb=false->l.length<=301/\(textOf l).length<=200000):=by
 have fin:∀i,i<=301->¬i<l.length->i<=l.length->wsum (l.take i)<=131072->l.length<=301/\(textOf l).length<=200000:=fun i h1 h2 h3 h4=>by
  rw[List.take_of_length_le (by omega)]at h4;have:=wsum_text l h4;omega
 intro d
 induction d with
 | zero =>
  intro i m hi hm hs hil;obtain⟨m,rfl⟩:∃j,m=j+1:=⟨m - 1,by omega⟩;rw[veneerlaw11LargeC0S,lbin_lss,ob_some];by_cases c:i<l.length
  ·have gx:=List.getElem?_eq_getElem c;obtain⟨b,o,x1,x2,x3⟩:=h.at gx;have e2:=x3 2 (by omega);have e0:=x3 0 (by omega);have hst:=wsum_take gx;generalize l[i]=x at *;have e2:lload1 H (.ptr b (o+2))=some (.str x.data):=e2;have e0:lload1 H (.ptr b (o+0))=some (.str x.path):=e0;have m1:ifold imin2 (.int .i64 (x.data.length:Nat)) [.int .i64 262144]=some (.int .i64 ((min x.data.length 262144:Nat):Int)):=imin_nat x.data.length 262144;have m2:ifold imin2 (.int .i64 (x.path.length:Nat)) [.int .i64 262144]=some (.int .i64 ((min x.path.length 262144:Nat):Int)):=imin_nat x.path.length 262144;have b1:min x.data.length 262144<=262144:=Nat.min_le_right _ _;have b2:min x.path.length 262144<=262144:=Nat.min_le_right _ _;generalize min x.data.length 262144=p at *;generalize min x.path.length 262144=q at *;have w1:IntKind.wrap .i64 ((p:Int)+(q:Nat))=((p+q:Nat):Int):=by rw[wrap_i64 (by omega) (by omega)];omega
   have w2:IntKind.wrap .i64 ((wsum (l.take i):Int)+((p+q:Nat):Int))=((wsum (l.take (i+1)):Nat):Int):=by rw[wrap_i64 (by omega) (by omega),hst];omega
   rw[decide_eq_true (by omega),cnd_true];simp only[x1,ob_some,loff_ptr,e2,e0,llen_str,m1,m2,lbin_add,w1,w2,lbin_gtr];by_cases c2:131072<wsum (l.take (i+1))
   ·simp only[decide_eq_true (show(131072:Int)<((wsum (l.take (i+1)):Nat):Int) by omega),isB_tf,gq_false,ob_some,lpick_true,cnd_true];exact⟨true,rfl,fun h=>by cases h⟩
   ·simp only[decide_eq_false (show ¬(131072:Int)<((wsum (l.take (i+1)):Nat):Int) by omega),isB_ff,gq_true,ob_some,lbin_gtr,decide_eq_true (show(300:Int)<((i:Nat):Int) by omega),lpick_false,cnd_true];exact⟨true,rfl,fun h=>by cases h⟩
  ·rw[decide_eq_false (by omega),cnd_false];exact⟨false,rfl,fun _=>fin i (by omega) c hil hs⟩
 | succ d ih =>
  intro i m hi hm hs hil;obtain⟨m,rfl⟩:∃j,m=j+1:=⟨m - 1,by omega⟩;rw[veneerlaw11LargeC0S,lbin_lss,ob_some];by_cases c:i<l.length
  ·have gx:=List.getElem?_eq_getElem c;obtain⟨b,o,x1,x2,x3⟩:=h.at gx;have e2:=x3 2 (by omega);have e0:=x3 0 (by omega);have hst:=wsum_take gx;generalize l[i]=x at *;have e2:lload1 H (.ptr b (o+2))=some (.str x.data):=e2;have e0:lload1 H (.ptr b (o+0))=some (.str x.path):=e0;have m1:ifold imin2 (.int .i64 (x.data.length:Nat)) [.int .i64 262144]=some (.int .i64 ((min x.data.length 262144:Nat):Int)):=imin_nat x.data.length 262144;have m2:ifold imin2 (.int .i64 (x.path.length:Nat)) [.int .i64 262144]=some (.int .i64 ((min x.path.length 262144:Nat):Int)):=imin_nat x.path.length 262144;have b1:min x.data.length 262144<=262144:=Nat.min_le_right _ _;have b2:min x.path.length 262144<=262144:=Nat.min_le_right _ _;generalize min x.data.length 262144=p at *;generalize min x.path.length 262144=q at *;have w1:IntKind.wrap .i64 ((p:Int)+(q:Nat))=((p+q:Nat):Int):=by rw[wrap_i64 (by omega) (by omega)];omega
   have w2:IntKind.wrap .i64 ((wsum (l.take i):Int)+((p+q:Nat):Int))=((wsum (l.take (i+1)):Nat):Int):=by rw[wrap_i64 (by omega) (by omega),hst];omega
   rw[decide_eq_true (by omega),cnd_true];simp only[x1,ob_some,loff_ptr,e2,e0,llen_str,m1,m2,lbin_add,w1,w2,lbin_gtr];by_cases c2:131072<wsum (l.take (i+1))
   ·simp only[decide_eq_true (show(131072:Int)<((wsum (l.take (i+1)):Nat):Int) by omega),isB_tf,gq_false,ob_some,lpick_true,cnd_true];exact⟨true,rfl,fun h=>by cases h⟩
   ·have wi:IntKind.wrap .i64 ((i:Int)+1)=((i+1:Nat):Int):=by rw[wrap_i64 (by omega) (by omega)];omega
    simp only[decide_eq_false (show ¬(131072:Int)<((wsum (l.take (i+1)):Nat):Int) by omega),isB_ff,gq_true,ob_some,lbin_gtr,decide_eq_false (show ¬(300:Int)<((i:Nat):Int) by omega),lpick_false,cnd_false,lbin_add,wi];exact ih (i+1) m (by omega) (by omega) (by omega) (by omega)
  ·rw[decide_eq_false (by omega),cnd_false];exact⟨false,rfl,fun _=>fin i (by omega) c hil hs⟩
theorem large_s (h:LnS H v l)(hN:301<N):∃bb,veneerlaw11LargeS cal O N v H=some (.bool bb,H)/\(bb=false->l.length<=301/\(textOf l).length<=200000):=by
 unfold veneerlaw11LargeS veneerlaw11LargeC5S veneerlaw11LargeC4S veneerlaw11LargeC3S veneerlaw11LargeC2S veneerlaw11LargeC1S;rw[h.len,ob_some];exact large_go h 301 0 N rfl hN (by simp[wsum]) (Nat.zero_le _)
theorem fsame_l {fa fl fs fr ft:FuncId}(hA:∀H,O fa [] H=some (.bool true,H))(hL:LargeOk O fl)(hS:LSameOk O fs)(hR:LSameOk O fr)(hT:TextOk' O ft)(h0:LnS H v0 a)(h1:LnS H v1 b) :
  veneerlaw11FlatSameS cal O N fa fl fs fr ft v0 v1 H=some (.bool true,H):=by
 unfold veneerlaw11FlatSameS;simp only[hA H,ob_some,iun_not,Bool.not_true,cnd_false];obtain⟨b0,e0,g0⟩:=hL H v0 a h0;obtain⟨b1,e1,g1⟩:=hL H v1 b h1;rw[e0,ob_some]
 cases b0 with
 | true=>simp only[isB_tf,gq_false,ge_false,ob_some,lpick_true,cnd_true]
 | false =>
  simp only[isB_ff,gq_true,ge_true,ob_some,e1,lpick_false]
  cases b1 with
  | true=>rw[cnd_true]
  | false =>
   obtain⟨l0,t0⟩:=g0 rfl;obtain⟨l1,t1⟩:=g1 rfl;have hba:decide (b=a)=decide (a=b):=by by_cases c:a=b<;>simp[c,eq_comm]
   simp only[cnd_false,hS H v0 v1 a b h0 h1 (by omega),hR H v0 v1 a b h0 h1 (by omega),hS H v1 v0 b a h1 h0 (by omega),hS H v0 v0 a a h0 h0 (by omega),ob_some,leq_bool,leqv_t,beq_self_eq_true,Bool.not_true,isB_ff,gq_true,ge_true,hba,lpick_false,decide_true,iun_not,cnd_false];by_cases c:a=b
   ·subst c;simp only[decide_true,Bool.not_true,isB_ff,gq_true,ge_true,ob_some,hT H v0 a h0 (by omega),hT H v1 a h1 (by omega),lbin_seq,lpick_false]
   ·simp only[decide_eq_false c,Bool.not_false,isB_tf,gq_false,ge_false,ob_some,lpick_true]
end
end Go.Shade
namespace Go.Proofs.YtmkjmfegaalcoaaGreat
open Go.Shade
theorem sF :SoundT Tryz.prog tf:=soundExt ss3 s_text
abbrev tg :Table:=ext (ext T0 15 awF) 19 textT
theorem sG :SoundT Tryz.prog tg:=soundExt (soundExt (soundT0 _) fun args H r H' e=>by
 unfold awF at e;split at e
 ·cases e;exact sim_awakeT sF hm stF H
 ·cases e) s_text
noncomputable abbrev dg :Oracle:=den Tryz.prog tg
theorem gAw (H:Heap):dg 15 [] H=some (.bool true,H):=den_table (g:=awF) rfl [] H
theorem gText :TextOk' dg 19:=fun H v l h hl=>(den_table (g:=textT) rfl [v] H).trans (textT_of h hl)
theorem lo57 :LoF Tryz.prog 57 slicesEqualVeneerApiLineVeneerApiLine:=⟨⟨Tryz.f57,Tryz.func57,by kernel_rfl⟩,by kernel_rfl⟩
theorem lo17f :LoF Tryz.prog 17 (flatSame 57):=⟨⟨Tryz.f17,Tryz.func17,by kernel_rfl⟩,by kernel_rfl⟩
theorem lo18f :LoF Tryz.prog 18 vr11Same:=⟨⟨Tryz.f18,Tryz.func18,by kernel_rfl⟩,by kernel_rfl⟩
theorem lo16f :LoF Tryz.prog 16 veneerlaw11Large:=⟨⟨Tryz.f16,Tryz.func16,by kernel_rfl⟩,by kernel_rfl⟩
theorem lo3f :LoF Tryz.prog 3 (veneerlaw11FlatSame 15 16 17 18 19):=⟨⟨Tryz.f3,Tryz.func3,by kernel_rfl⟩,by kernel_rfl⟩
theorem gEq :LSameOk dg 57:=fun H v0 v1 a b h0 h1 hb=>denLo rfl lo57 1000001 (nble rfl) (by rw[slicesEqualVeneerApiLineVeneerApiLineEq];exact lsame_s h0 h1 hb (by omega))
theorem gSame :LSameOk dg 17:=fun H v0 v1 a b h0 h1 hb=>denLo rfl lo17f 0 (nble rfl) (by rw[flatSameEq];unfold flatSameS;rw[show den Tryz.prog tg 57 [v0,v1] H=_ from gEq H v0 v1 a b h0 h1 hb];rfl)
theorem gRSame :LSameOk dg 18:=fun H v0 v1 a b h0 h1 hb=>denLo rfl lo18f 1000001 (nble rfl) (by rw[vr11SameEq];exact rsame_s h0 h1 hb (by omega))
theorem gLarge :LargeOk dg 16:=fun H v l h=>by
 obtain⟨bb,e,k⟩:=large_s (cal:=callable Tryz.prog) (O:=dg) (N:=302) h (by omega);exact⟨bb,denLo rfl lo16f 302 (nble rfl) (by rw[veneerlaw11LargeEq];exact e),k⟩
end Go.Proofs.YtmkjmfegaalcoaaGreat
