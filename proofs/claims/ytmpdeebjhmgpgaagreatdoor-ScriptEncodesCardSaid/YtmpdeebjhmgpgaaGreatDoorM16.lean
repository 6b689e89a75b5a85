/- Part 16 of the proof. -/
import Derived.Test.YtmpdeebjhmgpgaaGreatDoorM2
import Derived.KernelRfl
import Derived.Test.YtmpdeebjhmgpgaaGreatDoorM15
import Derived.Test.YtmpdeebjhmgpgaaGreatDoorM8
import Derived.Test.YtmpdeebjhmgpgaaGreatDoorM10
import Derived.Test.YtmpdeebjhmgpgaaGreatDoorM13
set_option linter.all false
namespace Go.Shade
def X11K5 :LC:=.seq (.reg [ qO 41 (.bin .lss (.t 40) (.t 39))]) (.seq (.cond (.t 41) .skip (.exit 0)) (.seq (.block 1 (.seq (.reg [ qM 42 40,qM 8 42]) (.reg [ qM 43 5,qM 44 8,qO 45 (.ix 1 (.t 43) (.t 44)),qO 46 (.ld1 (.t 45)),qO 47 (.bin .xor (.t 46) (.k (.int .u8 1))),qO 48 (.ix 1 (.t 43) (.t 44)),⟨none,(.st 1 (.t 48) (.t 47)),none⟩]))) (.reg [ qO 49 (.bin .add (.t 40) (k6 1)),qM 40 49])))
def veneerlaw20ScriptDecodesC0 (f0 f1 f2 f3:FuncId):LC:=.loop X11K5
def veneerlaw20ScriptDecodesC1 (f0 f1 f2 f3:FuncId):LC:=.block 0 (veneerlaw20ScriptDecodesC0 f0 f1 f2 f3)
def X11K21 :LC:=.reg [ qM 38 5,qO 39 (.len .slice (.t 38)),qO 40 (.mv (k6 0))]
def veneerlaw20ScriptDecodesC2 (f0 f1 f2 f3:FuncId):LC:=.seq X11K21 (veneerlaw20ScriptDecodesC1 f0 f1 f2 f3)
def X11K15 :LC:=.seq (.reg [ qM 50 3,qO 51 (.b2s (.t 50)),qM 52 0,qO 53 (.b2s (.t 52)),qO 54 (.bin .eql (.t 51) (.t 53)),qM 2 54]) .ret
def veneerlaw20ScriptDecodesC3 (f0 f1 f2 f3:FuncId):LC:=.seq (veneerlaw20ScriptDecodesC2 f0 f1 f2 f3) X11K15
def X11K4 (f0:FuncId):LC:=.seq (.reg [ qM 27 5,qO 28 (.b2s (.t 27)),qM 29 7,qO 30 (.b2s (.t 29)),qO 31 (.bin .neq (.t 28) (.t 30)),qM 32 31,⟨(some 33),(.mv (.t 4)),(some (32,false))⟩,⟨(some 34),(.mv (.t 6)),(some (32,false))⟩,⟨(some 35),(.callF f0 [(.t 33),(.t 34)]),(some (32,false))⟩,⟨(some 36),(.un .not (.t 35)),(some (32,false))⟩,qO 37 (.pick (.t 32) (.k (.bool true)) (.t 36))]) (.cond (.t 37) (.seq (.reg [ qO 2 (.mv (.k (.bool false)))]) .ret) .skip)
def veneerlaw20ScriptDecodesC4 (f0 f1 f2 f3:FuncId):LC:=.seq (X11K4 f3) (veneerlaw20ScriptDecodesC3 f0 f1 f2 f3)
def X11K10 (f0:FuncId):LC:=.reg [ qM 23 0,qO 24 (.callF f0 [(.t 23)]),qM 22 24,qO 25 (.ext (.t 22) 0),qO 26 (.ext (.t 22) 1),qM 6 25,qM 7 26]
def veneerlaw20ScriptDecodesC5 (f0 f1 f2 f3:FuncId):LC:=.seq (X11K10 f2) (veneerlaw20ScriptDecodesC4 f0 f1 f2 f3)
def X11K11 (f0:FuncId):LC:=.reg [ qM 18 3,qO 19 (.callF f0 [(.t 18)]),qM 17 19,qO 20 (.ext (.t 17) 0),qO 21 (.ext (.t 17) 1),qM 4 20,qM 5 21]
def veneerlaw20ScriptDecodesC6 (f0 f1 f2 f3:FuncId):LC:=.seq (X11K11 f1) (veneerlaw20ScriptDecodesC5 f0 f1 f2 f3)
def X11K20 :LC:=.reg [ qO 14 (.bldS 1 0 [(.int .u8 0)] []),qM 15 0,qO 16 (.app 1 1 (.t 14) (.t 15)),qM 3 16]
def veneerlaw20ScriptDecodesC7 (f0 f1 f2 f3:FuncId):LC:=.seq X11K20 (veneerlaw20ScriptDecodesC6 f0 f1 f2 f3)
def X11K14 :LC:=.seq (.reg [ qM 11 0,qO 12 (.len .slice (.t 11)),qO 13 (.bin .gtr (.t 12) (k6 16384))]) (.cond (.t 13) (.seq (.reg [ qO 2 (.mv (.k (.bool true)))]) .ret) .skip)
def veneerlaw20ScriptDecodesC8 (f0 f1 f2 f3:FuncId):LC:=.seq X11K14 (veneerlaw20ScriptDecodesC7 f0 f1 f2 f3)
def X11K19 (f0:FuncId):LC:=.seq (.reg [ qO 9 (.callF f0 []),qO 10 (.un .not (.t 9))]) (.cond (.t 10) (.seq (.reg [ qO 2 (.mv (.k (.bool false)))]) .ret) .skip)
def veneerlaw20ScriptDecodesC9 (f0 f1 f2 f3:FuncId):LC:=.seq (X11K19 f0) (veneerlaw20ScriptDecodesC8 f0 f1 f2 f3)
def veneerlaw20ScriptDecodesC10 (f0 f1 f2 f3:FuncId):LC:=.seq (.reg [ qO 2 (.mv (.k (.bool false)))]) (veneerlaw20ScriptDecodesC9 f0 f1 f2 f3)
def veneerlaw20ScriptDecodesC0S (cal:CB)(O:Oracle)(N:Nat)(f0 f1 f2 f3:FuncId)(gE0:IV->IV->Heap->OH):Nat->IV->IV->IV->IV->IV->Heap->OH
 | 0,_,_,_,_,_,_=>none
 | n+1,v0,v3,v5,v39,v40,H =>ob (lbin .lss v40 v39) fun t1 =>cnd t1
  (ob (lix 1 v5 v40) fun t2 =>ob (lload1 H t2) fun t3 =>ob (lbin .xor t3 (.int .u8 1)) fun t4 =>ob (lix 1 v5 v40) fun t5 =>ob (lstV H 1 t5 t4) fun r6 =>ob (lbin .add v40 (.int .i64 1)) fun t7 =>
   veneerlaw20ScriptDecodesC0S cal O N f0 f1 f2 f3 gE0 n v0 v3 v5 v39 t7 r6.2)
  (gE0 v0 v3 H)
theorem veneerlaw20ScriptDecodesC0Eq (cal:CB)(O:Oracle)(N:Nat)(f0 f1 f2 f3:FuncId){k:KT (IV×Heap)}(gE0:IV->IV->Heap->OH)(hgE0:∀E H,k (.exit 0) E H=gE0 (lk E 0) (lk E 3) H):∀(n:Nat) (E:Sg) (H:Heap),itK (lxK cal O N X11K5) n E H k=veneerlaw20ScriptDecodesC0S cal O N f0 f1 f2 f3 gE0 n (lk E 0) (lk E 3) (lk E 5) (lk E 39) (lk E 40) H:=by
 have hk:k=(kE 0 (fun E H=>gE0 (lk E 0) (lk E 3) H) k):=(kE_mk hgE0 rfl);intro n
 induction n with
 | zero=>intro E H;rfl
 | succ n ih =>
  intro E H;rw[itK_succ,seqK_mk (g:=fun E H=>veneerlaw20ScriptDecodesC0S cal O N f0 f1 f2 f3 gE0 n (lk E 0) (lk E 3) (lk E 5) (lk E 39) (lk E 40) H) ih,hk];kernel_rfl
def veneerlaw20ScriptDecodesC1S (cal:CB)(O:Oracle)(N:Nat)(f0 f1 f2 f3:FuncId)(gN:IV->IV->Heap->OH)(v0 v3 v5 v39 v40:IV)(H:Heap):OH :=
  veneerlaw20ScriptDecodesC0S cal O N f0 f1 f2 f3 (fun v0 v3 H=>gN v0 v3 H) N v0 v3 v5 v39 v40 H
theorem veneerlaw20ScriptDecodesC1Eq (cal:CB)(O:Oracle)(N:Nat)(f0 f1 f2 f3:FuncId){k:KT (IV×Heap)}(gN:IV->IV->Heap->OH)(hgN:∀E H,k .normal E H=gN (lk E 0) (lk E 3) H):∀(E:Sg) (H:Heap),lxK cal O N (veneerlaw20ScriptDecodesC1 f0 f1 f2 f3) E H k=veneerlaw20ScriptDecodesC1S cal O N f0 f1 f2 f3 gN (lk E 0) (lk E 3) (lk E 5) (lk E 39) (lk E 40) H:=by
 have hk:k=(kN (fun E H=>gN (lk E 0) (lk E 3) H) k):=(kN_mk hgN rfl);intro E H;rw[hk];show lxK cal O N (veneerlaw20ScriptDecodesC0 f0 f1 f2 f3) E H (blockK 0 (kN (fun E H=>gN (lk E 0) (lk E 3) H) k))=_;exact(veneerlaw20ScriptDecodesC0Eq cal O N f0 f1 f2 f3 (k:=(blockK 0 (kN (fun E H=>gN (lk E 0) (lk E 3) H) k))) gN (fun _ _=>by kernel_rfl) N E H).trans (by kernel_rfl)
def veneerlaw20ScriptDecodesC2S (cal:CB)(O:Oracle)(N:Nat)(f0 f1 f2 f3:FuncId)(gN:IV->IV->Heap->OH)(v0 v3 v5:IV)(H:Heap):OH :=
 ob (llen H .slice v5) fun t1 =>
  veneerlaw20ScriptDecodesC1S cal O N f0 f1 f2 f3 (fun v0 v3 H=>gN v0 v3 H) v0 v3 v5 t1 (.int .i64 0) H
theorem veneerlaw20ScriptDecodesC2Eq (cal:CB)(O:Oracle)(N:Nat)(f0 f1 f2 f3:FuncId){k:KT (IV×Heap)}(gN:IV->IV->Heap->OH)(hgN:∀E H,k .normal E H=gN (lk E 0) (lk E 3) H):∀(E:Sg) (H:Heap),lxK cal O N (veneerlaw20ScriptDecodesC2 f0 f1 f2 f3) E H k=veneerlaw20ScriptDecodesC2S cal O N f0 f1 f2 f3 gN (lk E 0) (lk E 3) (lk E 5) H:=by
 have hk:k=(kN (fun E H=>gN (lk E 0) (lk E 3) H) k):=(kN_mk hgN rfl);intro E H;rw[hk];show lxK cal O N X11K21 E H (seqK (lxK cal O N (veneerlaw20ScriptDecodesC1 f0 f1 f2 f3)) (kN (fun E H=>gN (lk E 0) (lk E 3) H) k))=_;rw[seqK_mk (g:=fun E H=>veneerlaw20ScriptDecodesC1S cal O N f0 f1 f2 f3 gN (lk E 0) (lk E 3) (lk E 5) (lk E 39) (lk E 40) H) (veneerlaw20ScriptDecodesC1Eq cal O N f0 f1 f2 f3 (k:=(kN (fun E H=>gN (lk E 0) (lk E 3) H) k)) gN (fun _ _=>by kernel_rfl))];kernel_rfl
def veneerlaw20ScriptDecodesC3S (cal:CB)(O:Oracle)(N:Nat)(f0 f1 f2 f3:FuncId)(v0 v3 v5:IV)(H:Heap):OH :=
  veneerlaw20ScriptDecodesC2S cal O N f0 f1 f2 f3 (fun v0 v3 H=>ob (lb2s H v3) fun t1 =>ob (lb2s H v0) fun t2 =>ob (lbin .eql t1 t2) fun t3 =>some (t3,H)) v0 v3 v5 H
theorem veneerlaw20ScriptDecodesC3Eq (cal:CB)(O:Oracle)(N:Nat)(f0 f1 f2 f3:FuncId){k:KT (IV×Heap)}(hR:∀E H,k .ret E H=resK [(.tmp 2)] [] E H):∀(E:Sg) (H:Heap),lxK cal O N (veneerlaw20ScriptDecodesC3 f0 f1 f2 f3) E H k=veneerlaw20ScriptDecodesC3S cal O N f0 f1 f2 f3 (lk E 0) (lk E 3) (lk E 5) H:=by
 have hk:k=(kR (resK [(.tmp 2)] []) k):=(kR_mk hR rfl);intro E H;rw[hk];show lxK cal O N (veneerlaw20ScriptDecodesC2 f0 f1 f2 f3) E H (seqK (lxK cal O N X11K15) (kR (resK [(.tmp 2)] []) k))=_;exact(veneerlaw20ScriptDecodesC2Eq cal O N f0 f1 f2 f3 (k:=(seqK (lxK cal O N X11K15) (kR (resK [(.tmp 2)] []) k))) (fun v0 v3 H=>ob (lb2s H v3) fun t1 =>ob (lb2s H v0) fun t2 =>ob (lbin .eql t1 t2) fun t3 =>some (t3,H)) (fun _ _=>by kernel_rfl) E H).trans (by kernel_rfl)
def veneerlaw20ScriptDecodesC4S (cal:CB)(O:Oracle)(N:Nat)(f0 f1 f2 f3:FuncId)(v0 v3 v4 v5 v6 v7:IV)(H:Heap):OH :=
 ob (lb2s H v5) fun t1 =>ob (lb2s H v7) fun t2 =>ob (lbin .neq t1 t2) fun t3 =>ob (gq (isB t3 false) (some v4)) fun t4 =>ob (gq (isB t3 false) (some v6)) fun t5 =>ob (ge (isB t3 false) H (O f3 [t4,t5] H)) fun r6 =>ob (gq (isB t3 false) (iun .not r6.1)) fun t7 =>ob (lpick t3 (.bool true) t7) fun t8 =>cnd t8
 (some ((.bool false),r6.2))
  (veneerlaw20ScriptDecodesC3S cal O N f0 f1 f2 f3 v0 v3 v5 r6.2)
theorem veneerlaw20ScriptDecodesC4Eq (cal:CB)(O:Oracle)(N:Nat)(f0 f1 f2 f3:FuncId){k:KT (IV×Heap)}(hR:∀E H,k .ret E H=resK [(.tmp 2)] [] E H):∀(E:Sg) (H:Heap),lxK cal O N (veneerlaw20ScriptDecodesC4 f0 f1 f2 f3) E H k=veneerlaw20ScriptDecodesC4S cal O N f0 f1 f2 f3 (lk E 0) (lk E 3) (lk E 4) (lk E 5) (lk E 6) (lk E 7) H:=by
 have hk:k=(kR (resK [(.tmp 2)] []) k):=(kR_mk hR rfl);intro E H;rw[hk];show lxK cal O N (X11K4 f3) E H (seqK (lxK cal O N (veneerlaw20ScriptDecodesC3 f0 f1 f2 f3)) (kR (resK [(.tmp 2)] []) k))=_;rw[seqK_mk (g:=fun E H=>veneerlaw20ScriptDecodesC3S cal O N f0 f1 f2 f3 (lk E 0) (lk E 3) (lk E 5) H) (veneerlaw20ScriptDecodesC3Eq cal O N f0 f1 f2 f3 (k:=(kR (resK [(.tmp 2)] []) k)) (fun _ _=>by kernel_rfl))];kernel_rfl
def veneerlaw20ScriptDecodesC5S (cal:CB)(O:Oracle)(N:Nat)(f0 f1 f2 f3:FuncId)(v0 v3 v4 v5:IV)(H:Heap):OH :=
 ob (O f2 [v0] H) fun r1 =>ob (iextract r1.1 0) fun t2 =>ob (iextract r1.1 1) fun t3 =>
  veneerlaw20ScriptDecodesC4S cal O N f0 f1 f2 f3 v0 v3 v4 v5 t2 t3 r1.2
theorem veneerlaw20ScriptDecodesC5Eq (cal:CB)(O:Oracle)(N:Nat)(f0 f1 f2 f3:FuncId){k:KT (IV×Heap)}(hR:∀E H,k .ret E H=resK [(.tmp 2)] [] E H):∀(E:Sg) (H:Heap),lxK cal O N (veneerlaw20ScriptDecodesC5 f0 f1 f2 f3) E H k=veneerlaw20ScriptDecodesC5S cal O N f0 f1 f2 f3 (lk E 0) (lk E 3) (lk E 4) (lk E 5) H:=by
 have hk:k=(kR (resK [(.tmp 2)] []) k):=(kR_mk hR rfl);intro E H;rw[hk];show lxK cal O N (X11K10 f2) E H (seqK (lxK cal O N (veneerlaw20ScriptDecodesC4 f0 f1 f2 f3)) (kR (resK [(.tmp 2)] []) k))=_;rw[seqK_mk (g:=fun E H=>veneerlaw20ScriptDecodesC4S cal O N f0 f1 f2 f3 (lk E 0) (lk E 3) (lk E 4) (lk E 5) (lk E 6) (lk E 7) H) (veneerlaw20ScriptDecodesC4Eq cal O N f0 f1 f2 f3 (k:=(kR (resK [(.tmp 2)] []) k)) (fun _ _=>by kernel_rfl))];kernel_rfl
def veneerlaw20ScriptDecodesC6S (cal:CB)(O:Oracle)(N:Nat)(f0 f1 f2 f3:FuncId)(v0 v3:IV)(H:Heap):OH :=
 ob (O f1 [v3] H) fun r1 =>ob (iextract r1.1 0) fun t2 =>ob (iextract r1.1 1) fun t3 =>
  veneerlaw20ScriptDecodesC5S cal O N f0 f1 f2 f3 v0 v3 t2 t3 r1.2
theorem veneerlaw20ScriptDecodesC6Eq (cal:CB)(O:Oracle)(N:Nat)(f0 f1 f2 f3:FuncId){k:KT (IV×Heap)}(hR:∀E H,k .ret E H=resK [(.tmp 2)] [] E H):∀(E:Sg) (H:Heap),lxK cal O N (veneerlaw20ScriptDecodesC6 f0 f1 f2 f3) E H k=veneerlaw20ScriptDecodesC6S cal O N f0 f1 f2 f3 (lk E 0) (lk E 3) H:=by
 have hk:k=(kR (resK [(.tmp 2)] []) k):=(kR_mk hR rfl);intro E H;rw[hk];show lxK cal O N (X11K11 f1) E H (seqK (lxK cal O N (veneerlaw20ScriptDecodesC5 f0 f1 f2 f3)) (kR (resK [(.tmp 2)] []) k))=_;rw[seqK_mk (g:=fun E H=>veneerlaw20ScriptDecodesC5S cal O N f0 f1 f2 f3 (lk E 0) (lk E 3) (lk E 4) (lk E 5) H) (veneerlaw20ScriptDecodesC5Eq cal O N f0 f1 f2 f3 (k:=(kR (resK [(.tmp 2)] []) k)) (fun _ _=>by kernel_rfl))];kernel_rfl
def veneerlaw20ScriptDecodesC7S (cal:CB)(O:Oracle)(N:Nat)(f0 f1 f2 f3:FuncId)(v0:IV)(H:Heap):OH :=
 ob (lbldS H 1 0 [(.int .u8 0)] []) fun r1 =>ob (lapp r1.2 1 1 r1.1 v0) fun r2 =>
  veneerlaw20ScriptDecodesC6S cal O N f0 f1 f2 f3 v0 r2.1 r2.2
theorem veneerlaw20ScriptDecodesC7Eq (cal:CB)(O:Oracle)(N:Nat)(f0 f1 f2 f3:FuncId){k:KT (IV×Heap)}(hR:∀E H,k .ret E H=resK [(.tmp 2)] [] E H):∀(E:Sg) (H:Heap),lxK cal O N (veneerlaw20ScriptDecodesC7 f0 f1 f2 f3) E H k=veneerlaw20ScriptDecodesC7S cal O N f0 f1 f2 f3 (lk E 0) H:=by
 have hk:k=(kR (resK [(.tmp 2)] []) k):=(kR_mk hR rfl);intro E H;rw[hk];show lxK cal O N X11K20 E H (seqK (lxK cal O N (veneerlaw20ScriptDecodesC6 f0 f1 f2 f3)) (kR (resK [(.tmp 2)] []) k))=_;rw[seqK_mk (g:=fun E H=>veneerlaw20ScriptDecodesC6S cal O N f0 f1 f2 f3 (lk E 0) (lk E 3) H) (veneerlaw20ScriptDecodesC6Eq cal O N f0 f1 f2 f3 (k:=(kR (resK [(.tmp 2)] []) k)) (fun _ _=>by kernel_rfl))];kernel_rfl
def veneerlaw20ScriptDecodesC8S (cal:CB)(O:Oracle)(N:Nat)(f0 f1 f2 f3:FuncId)(v0:IV)(H:Heap):OH :=
 ob (llen H .slice v0) fun t1 =>ob (lbin .gtr t1 (.int .i64 16384)) fun t2 =>cnd t2
 (some ((.bool true),H))
  (veneerlaw20ScriptDecodesC7S cal O N f0 f1 f2 f3 v0 H)
theorem veneerlaw20ScriptDecodesC8Eq (cal:CB)(O:Oracle)(N:Nat)(f0 f1 f2 f3:FuncId){k:KT (IV×Heap)}(hR:∀E H,k .ret E H=resK [(.tmp 2)] [] E H):∀(E:Sg) (H:Heap),lxK cal O N (veneerlaw20ScriptDecodesC8 f0 f1 f2 f3) E H k=veneerlaw20ScriptDecodesC8S cal O N f0 f1 f2 f3 (lk E 0) H:=by
 have hk:k=(kR (resK [(.tmp 2)] []) k):=(kR_mk hR rfl);intro E H;rw[hk];show lxK cal O N X11K14 E H (seqK (lxK cal O N (veneerlaw20ScriptDecodesC7 f0 f1 f2 f3)) (kR (resK [(.tmp 2)] []) k))=_;rw[seqK_mk (g:=fun E H=>veneerlaw20ScriptDecodesC7S cal O N f0 f1 f2 f3 (lk E 0) H) (veneerlaw20ScriptDecodesC7Eq cal O N f0 f1 f2 f3 (k:=(kR (resK [(.tmp 2)] []) k)) (fun _ _=>by kernel_rfl))];kernel_rfl
def veneerlaw20ScriptDecodesC9S (cal:CB)(O:Oracle)(N:Nat)(f0 f1 f2 f3:FuncId)(v0:IV)(H:Heap):OH :=
 ob (O f0 [] H) fun r1 =>ob (iun .not r1.1) fun t2 =>cnd t2
 (some ((.bool false),r1.2))
  (veneerlaw20ScriptDecodesC8S cal O N f0 f1 f2 f3 v0 r1.2)
theorem veneerlaw20ScriptDecodesC9Eq (cal:CB)(O:Oracle)(N:Nat)(f0 f1 f2 f3:FuncId){k:KT (IV×Heap)}(hR:∀E H,k .ret E H=resK [(.tmp 2)] [] E H):∀(E:Sg) (H:Heap),lxK cal O N (veneerlaw20ScriptDecodesC9 f0 f1 f2 f3) E H k=veneerlaw20ScriptDecodesC9S cal O N f0 f1 f2 f3 (lk E 0) H:=by
 have hk:k=(kR (resK [(.tmp 2)] []) k):=(kR_mk hR rfl);intro E H;rw[hk];show lxK cal O N (X11K19 f0) E H (seqK (lxK cal O N (veneerlaw20ScriptDecodesC8 f0 f1 f2 f3)) (kR (resK [(.tmp 2)] []) k))=_;rw[seqK_mk (g:=fun E H=>veneerlaw20ScriptDecodesC8S cal O N f0 f1 f2 f3 (lk E 0) H) (veneerlaw20ScriptDecodesC8Eq cal O N f0 f1 f2 f3 (k:=(kR (resK [(.tmp 2)] []) k)) (fun _ _=>by kernel_rfl))];kernel_rfl
def veneerlaw20ScriptDecodesC10S (cal:CB)(O:Oracle)(N:Nat)(f0 f1 f2 f3:FuncId)(v0:IV)(H:Heap):OH :=
  veneerlaw20ScriptDecodesC9S cal O N f0 f1 f2 f3 v0 H
theorem veneerlaw20ScriptDecodesC10Eq (cal:CB)(O:Oracle)(N:Nat)(f0 f1 f2 f3:FuncId){k:KT (IV×Heap)}(hR:∀E H,k .ret E H=resK [(.tmp 2)] [] E H):∀(E:Sg) (H:Heap),lxK cal O N (veneerlaw20ScriptDecodesC10 f0 f1 f2 f3) E H k=veneerlaw20ScriptDecodesC10S cal O N f0 f1 f2 f3 (lk E 0) H:=by
 have hk:k=(kR (resK [(.tmp 2)] []) k):=(kR_mk hR rfl);intro E H;rw[hk];show lxK cal O N (.reg [ qO 2 (.mv (.k (.bool false)))]) E H (seqK (lxK cal O N (veneerlaw20ScriptDecodesC9 f0 f1 f2 f3)) (kR (resK [(.tmp 2)] []) k))=_;rw[seqK_mk (g:=fun E H=>veneerlaw20ScriptDecodesC9S cal O N f0 f1 f2 f3 (lk E 0) H) (veneerlaw20ScriptDecodesC9Eq cal O N f0 f1 f2 f3 (k:=(kR (resK [(.tmp 2)] []) k)) (fun _ _=>by kernel_rfl))];kernel_rfl
def veneerlaw20ScriptDecodes (f0 f1 f2 f3:FuncId):LFun:=⟨(veneerlaw20ScriptDecodesC10 f0 f1 f2 f3),[(.tmp 2)],55⟩
def veneerlaw20ScriptDecodesS (cal:CB)(O:Oracle)(N:Nat)(f0 f1 f2 f3:FuncId)(v0:IV)(H:Heap):OH :=
  veneerlaw20ScriptDecodesC10S cal O N f0 f1 f2 f3 v0 H
theorem veneerlaw20ScriptDecodesEq (cal:CB)(O:Oracle)(N:Nat)(f0 f1 f2 f3:FuncId)(v0:IV)(H:Heap):lrunK cal O N (veneerlaw20ScriptDecodes f0 f1 f2 f3) [v0] H=veneerlaw20ScriptDecodesS cal O N f0 f1 f2 f3 v0 H:=by
 show lxK cal O N (veneerlaw20ScriptDecodesC10 f0 f1 f2 f3) (initFrom 0 [v0]) H (endK [(.tmp 2)])=_;exact veneerlaw20ScriptDecodesC10Eq cal O N f0 f1 f2 f3 (k:=(endK [(.tmp 2)])) (fun _ _=>by kernel_rfl) (initFrom 0 [v0]) H
def X11K1 :LC:=.seq (.reg [ qO 16 (.bin .lss (.t 15) (.t 14))]) (.seq (.cond (.t 16) .skip (.exit 0)) (.seq (.block 1 (.seq (.reg [ qM 17 15,qM 6 17]) (.seq (.reg [ qM 18 5,qM 19 0,qM 20 6,qO 21 (.ix 1 (.t 19) (.t 20)),qO 22 (.ld1 (.t 21)),qO 23 (.len .slice (.t 22)),qO 24 (.fold false (.t 23) [(k6 400)]),qO 25 (.bin .add (.t 18) (.t 24)),qM 5 25]) (.seq (.reg [ qM 26 5,qO 27 (.bin .gtr (.t 26) (k6 300)),qM 28 27,⟨(some 29),(.mv (.t 6)),(some (28,false))⟩,⟨(some 30),(.bin .geq (.t 29) (k6 70)),(some (28,false))⟩,qO 31 (.pick (.t 28) (.k (.bool true)) (.t 30))]) (.cond (.t 31) (.seq (.reg [ qO 4 (.mv (.k (.bool true)))]) .ret) .skip))))) (.reg [ qO 32 (.bin .add (.t 15) (k6 1)),qM 15 32])))
def veneerlaw20ScriptEncodesC0 (f0 f1 f2:FuncId):LC:=.loop X11K1
def veneerlaw20ScriptEncodesC1 (f0 f1 f2:FuncId):LC:=.block 0 (veneerlaw20ScriptEncodesC0 f0 f1 f2)
def X11K22 :LC:=.reg [ qM 13 0,qO 14 (.len .slice (.t 13)),qO 15 (.mv (k6 0))]
def veneerlaw20ScriptEncodesC2 (f0 f1 f2:FuncId):LC:=.seq X11K22 (veneerlaw20ScriptEncodesC1 f0 f1 f2)
def X11K0 (f0 f1:FuncId):LC:=.seq (.seq (.reg [ qM 33 1,qO 34 (.len .slice (.t 33)),qO 35 (.bin .gtr (.t 34) (k6 300))]) (.cond (.t 35) (.seq (.reg [ qO 4 (.mv (.k (.bool true)))]) .ret) .skip)) (.seq (.reg [ qM 37 0,qM 38 1,qO 39 (.callF f0 [(.t 37),(.t 38)]),qM 36 39,qO 40 (.ext (.t 36) 0),qO 41 (.ext (.t 36) 1),qM 7 40,qM 8 41]) (.seq (.reg [ qM 43 0,qM 44 1,qO 45 (.callF f1 [(.t 43),(.t 44)]),qM 42 45,qO 46 (.ext (.t 42) 0),qO 47 (.ext (.t 42) 1),qM 9 46,qM 10 47]) (.seq (.reg [ qM 48 7,qO 49 (.b2s (.t 48)),qM 50 9,qO 51 (.b2s (.t 50)),qO 52 (.bin .eql (.t 49) (.t 51)),qM 53 52,⟨(some 54),(.mv (.t 8)),(some (53,true))⟩,⟨(some 55),(.mv (.t 10)),(some (53,true))⟩,⟨(some 56),(.bin .eql (.t 54) (.t 55)),(some (53,true))⟩,qO 57 (.pick (.t 53) (.t 56) (.k (.bool false))),qM 4 57]) .ret)))
def veneerlaw20ScriptEncodesC3 (f0 f1 f2:FuncId):LC:=.seq (veneerlaw20ScriptEncodesC2 f0 f1 f2) (X11K0 f1 f2)
def veneerlaw20ScriptEncodesC4 (f0 f1 f2:FuncId):LC:=.seq (.reg [ qO 5 (.mv (k6 0))]) (veneerlaw20ScriptEncodesC3 f0 f1 f2)
def X11K17 (f0:FuncId):LC:=.seq (.reg [ qO 11 (.callF f0 []),qO 12 (.un .not (.t 11))]) (.cond (.t 12) (.seq (.reg [ qO 4 (.mv (.k (.bool false)))]) .ret) .skip)
def veneerlaw20ScriptEncodesC5 (f0 f1 f2:FuncId):LC:=.seq (X11K17 f0) (veneerlaw20ScriptEncodesC4 f0 f1 f2)
def veneerlaw20ScriptEncodesC6 (f0 f1 f2:FuncId):LC:=.seq (.reg [ qO 4 (.mv (.k (.bool false)))]) (veneerlaw20ScriptEncodesC5 f0 f1 f2)
def veneerlaw20ScriptEncodesC0S (cal:CB)(O:Oracle)(N:Nat)(f0 f1 f2:FuncId)(gE0:IV->IV->Heap->OH):Nat->IV->IV->IV->IV->IV->Heap->OH
 | 0,_,_,_,_,_,_=>none
 | n+1,v0,v1,v5,v14,v15,H =>ob (lbin .lss v15 v14) fun t1 =>cnd t1
  (ob (lix 1 v0 v15) fun t2 =>ob (lload1 H t2) fun t3 =>ob (llen H .slice t3) fun t4 =>ob (ifold imin2 t4 [(.int .i64 400)]) fun t5 =>ob (lbin .add v5 t5) fun t6 =>ob (lbin .gtr t6 (.int .i64 300)) fun t7 =>ob (gq (isB t7 false) (some v15)) fun t8 =>ob (gq (isB t7 false) (lbin .geq t8 (.int .i64 70))) fun t9 =>ob (lpick t7 (.bool true) t9) fun t10 =>cnd t10
  (some ((.bool true),H))
  (ob (lbin .add v15 (.int .i64 1)) fun t11 =>
   veneerlaw20ScriptEncodesC0S cal O N f0 f1 f2 gE0 n v0 v1 t6 v14 t11 H))
  (gE0 v0 v1 H)
theorem veneerlaw20ScriptEncodesC0Eq (cal:CB)(O:Oracle)(N:Nat)(f0 f1 f2:FuncId){k:KT (IV×Heap)}(gE0:IV->IV->Heap->OH)(hgE0:∀E H,k (.exit 0) E H=gE0 (lk E 0) (lk E 1) H)(hR:∀E H,k .ret E H=resK [(.tmp 4)] [] E H):∀(n:Nat) (E:Sg) (H:Heap),itK (lxK cal O N X11K1) n E H k=veneerlaw20ScriptEncodesC0S cal O N f0 f1 f2 gE0 n (lk E 0) (lk E 1) (lk E 5) (lk E 14) (lk E 15) H:=by
 have hk:k=(kE 0 (fun E H=>gE0 (lk E 0) (lk E 1) H) (kR (resK [(.tmp 4)] []) k)):=(kE_mk hgE0 (kR_mk hR rfl));intro n
 induction n with
 | zero=>intro E H;rfl
 | succ n ih =>
  intro E H;rw[itK_succ,seqK_mk (g:=fun E H=>veneerlaw20ScriptEncodesC0S cal O N f0 f1 f2 gE0 n (lk E 0) (lk E 1) (lk E 5) (lk E 14) (lk E 15) H) ih,hk];kernel_rfl
def veneerlaw20ScriptEncodesC1S (cal:CB)(O:Oracle)(N:Nat)(f0 f1 f2:FuncId)(gN:IV->IV->Heap->OH)(v0 v1 v5 v14 v15:IV)(H:Heap):OH :=
  veneerlaw20ScriptEncodesC0S cal O N f0 f1 f2 (fun v0 v1 H=>gN v0 v1 H) N v0 v1 v5 v14 v15 H
theorem veneerlaw20ScriptEncodesC1Eq (cal:CB)(O:Oracle)(N:Nat)(f0 f1 f2:FuncId){k:KT (IV×Heap)}(gN:IV->IV->Heap->OH)(hgN:∀E H,k .normal E H=gN (lk E 0) (lk E 1) H)(hR:∀E H,k .ret E H=resK [(.tmp 4)] [] E H):∀(E:Sg) (H:Heap),lxK cal O N (veneerlaw20ScriptEncodesC1 f0 f1 f2) E H k=veneerlaw20ScriptEncodesC1S cal O N f0 f1 f2 gN (lk E 0) (lk E 1) (lk E 5) (lk E 14) (lk E 15) H:=by
 have hk:k=(kN (fun E H=>gN (lk E 0) (lk E 1) H) (kR (resK [(.tmp 4)] []) k)):=(kN_mk hgN (kR_mk hR rfl));intro E H;rw[hk];show lxK cal O N (veneerlaw20ScriptEncodesC0 f0 f1 f2) E H (blockK 0 (kN (fun E H=>gN (lk E 0) (lk E 1) H) (kR (resK [(.tmp 4)] []) k)))=_;exact(veneerlaw20ScriptEncodesC0Eq cal O N f0 f1 f2 (k:=(blockK 0 (kN (fun E H=>gN (lk E 0) (lk E 1) H) (kR (resK [(.tmp 4)] []) k)))) gN (fun _ _=>by kernel_rfl) (fun _ _=>by kernel_rfl) N E H).trans (by kernel_rfl)
def veneerlaw20ScriptEncodesC2S (cal:CB)(O:Oracle)(N:Nat)(f0 f1 f2:FuncId)(gN:IV->IV->Heap->OH)(v0 v1 v5:IV)(H:Heap):OH :=
 ob (llen H .slice v0) fun t1 =>
  veneerlaw20ScriptEncodesC1S cal O N f0 f1 f2 (fun v0 v1 H=>gN v0 v1 H) v0 v1 v5 t1 (.int .i64 0) H
theorem veneerlaw20ScriptEncodesC2Eq (cal:CB)(O:Oracle)(N:Nat)(f0 f1 f2:FuncId){k:KT (IV×Heap)}(gN:IV->IV->Heap->OH)(hgN:∀E H,k .normal E H=gN (lk E 0) (lk E 1) H)(hR:∀E H,k .ret E H=resK [(.tmp 4)] [] E H):∀(E:Sg) (H:Heap),lxK cal O N (veneerlaw20ScriptEncodesC2 f0 f1 f2) E H k=veneerlaw20ScriptEncodesC2S cal O N f0 f1 f2 gN (lk E 0) (lk E 1) (lk E 5) H:=by
 have hk:k=(kN (fun E H=>gN (lk E 0) (lk E 1) H) (kR (resK [(.tmp 4)] []) k)):=(kN_mk hgN (kR_mk hR rfl));intro E H;rw[hk];show lxK cal O N X11K22 E H (seqK (lxK cal O N (veneerlaw20ScriptEncodesC1 f0 f1 f2)) (kN (fun E H=>gN (lk E 0) (lk E 1) H) (kR (resK [(.tmp 4)] []) k)))=_;rw[seqK_mk (g:=fun E H=>veneerlaw20ScriptEncodesC1S cal O N f0 f1 f2 gN (lk E 0) (lk E 1) (lk E 5) (lk E 14) (lk E 15) H) (veneerlaw20ScriptEncodesC1Eq cal O N f0 f1 f2 (k:=(kN (fun E H=>gN (lk E 0) (lk E 1) H) (kR (resK [(.tmp 4)] []) k))) gN (fun _ _=>by kernel_rfl) (fun _ _=>by kernel_rfl))];kernel_rfl
def veneerlaw20ScriptEncodesC3S (cal:CB)(O:Oracle)(N:Nat)(f0 f1 f2:FuncId)(v0 v1 v5:IV)(H:Heap):OH :=
  veneerlaw20ScriptEncodesC2S cal O N f0 f1 f2 (fun v0 v1 H=>ob (llen H .slice v1) fun t1 =>ob (lbin .gtr t1 (.int .i64 300)) fun t2 =>cnd t2
 (some ((.bool true),H))
 (ob (O f1 [v0,v1] H) fun r3 =>ob (iextract r3.1 0) fun t4 =>ob (iextract r3.1 1) fun t5 =>ob (O f2 [v0,v1] r3.2) fun r6 =>ob (iextract r6.1 0) fun t7 =>ob (iextract r6.1 1) fun t8 =>ob (lb2s r6.2 t4) fun t9 =>ob (lb2s r6.2 t7) fun t10 =>ob (lbin .eql t9 t10) fun t11 =>ob (gq (isB t11 true) (some t5)) fun t12 =>ob (gq (isB t11 true) (some t8)) fun t13 =>ob (gq (isB t11 true) (lbin .eql t12 t13)) fun t14 =>ob (lpick t11 t14 (.bool false)) fun t15 =>some (t15,r6.2))) v0 v1 v5 H
theorem veneerlaw20ScriptEncodesC3Eq (cal:CB)(O:Oracle)(N:Nat)(f0 f1 f2:FuncId){k:KT (IV×Heap)}(hR:∀E H,k .ret E H=resK [(.tmp 4)] [] E H):∀(E:Sg) (H:Heap),lxK cal O N (veneerlaw20ScriptEncodesC3 f0 f1 f2) E H k=veneerlaw20ScriptEncodesC3S cal O N f0 f1 f2 (lk E 0) (lk E 1) (lk E 5) H:=by
 have hk:k=(kR (resK [(.tmp 4)] []) k):=(kR_mk hR rfl);intro E H;rw[hk];show lxK cal O N (veneerlaw20ScriptEncodesC2 f0 f1 f2) E H (seqK (lxK cal O N (X11K0 f1 f2)) (kR (resK [(.tmp 4)] []) k))=_;exact(veneerlaw20ScriptEncodesC2Eq cal O N f0 f1 f2 (k:=(seqK (lxK cal O N (X11K0 f1 f2)) (kR (resK [(.tmp 4)] []) k))) (fun v0 v1 H=>ob (llen H .slice v1) fun t1 =>ob (lbin .gtr t1 (.int .i64 300)) fun t2 =>cnd t2
(some ((.bool true),H))
(ob (O f1 [v0,v1] H) fun r3 =>ob (iextract r3.1 0) fun t4 =>ob (iextract r3.1 1) fun t5 =>ob (O f2 [v0,v1] r3.2) fun r6 =>ob (iextract r6.1 0) fun t7 =>ob (iextract r6.1 1) fun t8 =>ob (lb2s r6.2 t4) fun t9 =>ob (lb2s r6.2 t7) fun t10 =>ob (lbin .eql t9 t10) fun t11 =>ob (gq (isB t11 true) (some t5)) fun t12 =>ob (gq (isB t11 true) (some t8)) fun t13 =>ob (gq (isB t11 true) (lbin .eql t12 t13)) fun t14 =>ob (lpick t11 t14 (.bool false)) fun t15 =>some (t15,r6.2))) (fun _ _=>by kernel_rfl) (fun _ _=>by kernel_rfl) E H).trans (by kernel_rfl)
def veneerlaw20ScriptEncodesC4S (cal:CB)(O:Oracle)(N:Nat)(f0 f1 f2:FuncId)(v0 v1:IV)(H:Heap):OH :=
  veneerlaw20ScriptEncodesC3S cal O N f0 f1 f2 v0 v1 (.int .i64 0) H
theorem veneerlaw20ScriptEncodesC4Eq (cal:CB)(O:Oracle)(N:Nat)(f0 f1 f2:FuncId){k:KT (IV×Heap)}(hR:∀E H,k .ret E H=resK [(.tmp 4)] [] E H):∀(E:Sg) (H:Heap),lxK cal O N (veneerlaw20ScriptEncodesC4 f0 f1 f2) E H k=veneerlaw20ScriptEncodesC4S cal O N f0 f1 f2 (lk E 0) (lk E 1) H:=by
 have hk:k=(kR (resK [(.tmp 4)] []) k):=(kR_mk hR rfl);intro E H;rw[hk];show lxK cal O N (.reg [ qO 5 (.mv (k6 0))]) E H (seqK (lxK cal O N (veneerlaw20ScriptEncodesC3 f0 f1 f2)) (kR (resK [(.tmp 4)] []) k))=_;rw[seqK_mk (g:=fun E H=>veneerlaw20ScriptEncodesC3S cal O N f0 f1 f2 (lk E 0) (lk E 1) (lk E 5) H) (veneerlaw20ScriptEncodesC3Eq cal O N f0 f1 f2 (k:=(kR (resK [(.tmp 4)] []) k)) (fun _ _=>by kernel_rfl))];kernel_rfl
def veneerlaw20ScriptEncodesC5S (cal:CB)(O:Oracle)(N:Nat)(f0 f1 f2:FuncId)(v0 v1:IV)(H:Heap):OH :=
 ob (O f0 [] H) fun r1 =>ob (iun .not r1.1) fun t2 =>cnd t2
 (some ((.bool false),r1.2))
  (veneerlaw20ScriptEncodesC4S cal O N f0 f1 f2 v0 v1 r1.2)
theorem veneerlaw20ScriptEncodesC5Eq (cal:CB)(O:Oracle)(N:Nat)(f0 f1 f2:FuncId){k:KT (IV×Heap)}(hR:∀E H,k .ret E H=resK [(.tmp 4)] [] E H):∀(E:Sg) (H:Heap),lxK cal O N (veneerlaw20ScriptEncodesC5 f0 f1 f2) E H k=veneerlaw20ScriptEncodesC5S cal O N f0 f1 f2 (lk E 0) (lk E 1) H:=by
 have hk:k=(kR (resK [(.tmp 4)] []) k):=(kR_mk hR rfl);intro E H;rw[hk];show lxK cal O N (X11K17 f0) E H (seqK (lxK cal O N (veneerlaw20ScriptEncodesC4 f0 f1 f2)) (kR (resK [(.tmp 4)] []) k))=_;rw[seqK_mk (g:=fun E H=>veneerlaw20ScriptEncodesC4S cal O N f0 f1 f2 (lk E 0) (lk E 1) H) (veneerlaw20ScriptEncodesC4Eq cal O N f0 f1 f2 (k:=(kR (resK [(.tmp 4)] []) k)) (fun _ _=>by kernel_rfl))];kernel_rfl
def veneerlaw20ScriptEncodesC6S (cal:CB)(O:Oracle)(N:Nat)(f0 f1 f2:FuncId)(v0 v1:IV)(H:Heap):OH :=
  veneerlaw20ScriptEncodesC5S cal O N f0 f1 f2 v0 v1 H
theorem veneerlaw20ScriptEncodesC6Eq (cal:CB)(O:Oracle)(N:Nat)(f0 f1 f2:FuncId){k:KT (IV×Heap)}(hR:∀E H,k .ret E H=resK [(.tmp 4)] [] E H):∀(E:Sg) (H:Heap),lxK cal O N (veneerlaw20ScriptEncodesC6 f0 f1 f2) E H k=veneerlaw20ScriptEncodesC6S cal O N f0 f1 f2 (lk E 0) (lk E 1) H:=by
 have hk:k=(kR (resK [(.tmp 4)] []) k):=(kR_mk hR rfl);intro E H;rw[hk];show lxK cal O N (.reg [ qO 4 (.mv (.k (.bool false)))]) E H (seqK (lxK cal O N (veneerlaw20ScriptEncodesC5 f0 f1 f2)) (kR (resK [(.tmp 4)] []) k))=_;rw[seqK_mk (g:=fun E H=>veneerlaw20ScriptEncodesC5S cal O N f0 f1 f2 (lk E 0) (lk E 1) H) (veneerlaw20ScriptEncodesC5Eq cal O N f0 f1 f2 (k:=(kR (resK [(.tmp 4)] []) k)) (fun _ _=>by kernel_rfl))];kernel_rfl
def veneerlaw20ScriptEncodes (f0 f1 f2:FuncId):LFun:=⟨(veneerlaw20ScriptEncodesC6 f0 f1 f2),[(.tmp 4)],58⟩
def veneerlaw20ScriptEncodesS (cal:CB)(O:Oracle)(N:Nat)(f0 f1 f2:FuncId)(v0 v1:IV)(H:Heap):OH :=
  veneerlaw20ScriptEncodesC6S cal O N f0 f1 f2 v0 v1 H
theorem veneerlaw20ScriptEncodesEq (cal:CB)(O:Oracle)(N:Nat)(f0 f1 f2:FuncId)(v0 v1:IV)(H:Heap):lrunK cal O N (veneerlaw20ScriptEncodes f0 f1 f2) [v0,v1] H=veneerlaw20ScriptEncodesS cal O N f0 f1 f2 v0 v1 H:=by
 show lxK cal O N (veneerlaw20ScriptEncodesC6 f0 f1 f2) (initFrom 0 [v0,v1]) H (endK [(.tmp 4)])=_;exact veneerlaw20ScriptEncodesC6Eq cal O N f0 f1 f2 (k:=(endK [(.tmp 4)])) (fun _ _=>by kernel_rfl) (initFrom 0 [v0,v1]) H
def veneerlaw20ScriptBack (f0 f1 f2 f3:FuncId):LFun:=⟨(.seq (.reg [ qO 2 (.mv (.k (.bool false)))]) (.seq (X11K19 f0) (.seq X11K14 (.seq (.reg [ qM 15 0,qO 16 (.callF f1 [(.t 15)]),qM 14 16,qO 17 (.ext (.t 14) 0),qO 18 (.ext (.t 14) 1),qM 3 17,qM 4 18]) (.seq (.reg [ qM 20 3,qM 21 4,qO 22 (.callF f2 [(.t 20),(.t 21)]),qM 19 22,qO 23 (.ext (.t 19) 0),qO 24 (.ext (.t 19) 1),qM 5 23,qM 6 24]) (.seq (.seq (.reg [ qM 25 6,qO 26 (.bin .neq (.t 25) (k6 0))]) (.cond (.t 26) (.seq (.reg [ qO 2 (.mv (.k (.bool false)))]) .ret) .skip)) (.seq (.reg [ qM 28 5,qO 29 (.callF f1 [(.t 28)]),qM 27 29,qO 30 (.ext (.t 27) 0),qO 31 (.ext (.t 27) 1),qM 7 30,qM 8 31]) (.seq (.reg [ qM 32 3,qM 33 7,qO 34 (.callF f3 [(.t 32),(.t 33)]),qM 35 34,⟨(some 36),(.mv (.t 4)),(some (35,true))⟩,⟨(some 37),(.b2s (.t 36)),(some (35,true))⟩,⟨(some 38),(.mv (.t 8)),(some (35,true))⟩,⟨(some 39),(.b2s (.t 38)),(some (35,true))⟩,⟨(some 40),(.bin .eql (.t 37) (.t 39)),(some (35,true))⟩,qO 41 (.pick (.t 35) (.t 40) (.k (.bool false))),qM 2 41]) .ret)))))))),[(.tmp 2)],42⟩
def veneerlaw20ScriptBackS (cal:CB)(O:Oracle)(N:Nat)(f0 f1 f2 f3:FuncId)(v0:IV)(H:Heap):OH :=
 ob (O f0 [] H) fun r1 =>ob (iun .not r1.1) fun t2 =>cnd t2
 (some ((.bool false),r1.2))
 (ob (llen r1.2 .slice v0) fun t3 =>ob (lbin .gtr t3 (.int .i64 16384)) fun t4 =>cnd t4
 (some ((.bool true),r1.2))
 (ob (O f1 [v0] r1.2) fun r5 =>ob (iextract r5.1 0) fun t6 =>ob (iextract r5.1 1) fun t7 =>ob (O f2 [t6,t7] r5.2) fun r8 =>ob (iextract r8.1 0) fun t9 =>ob (iextract r8.1 1) fun t10 =>ob (lbin .neq t10 (.int .i64 0)) fun t11 =>cnd t11
 (some ((.bool false),r8.2))
 (ob (O f1 [t9] r8.2) fun r12 =>ob (iextract r12.1 0) fun t13 =>ob (iextract r12.1 1) fun t14 =>ob (O f3 [t6,t13] r12.2) fun r15 =>ob (gq (isB r15.1 true) (some t7)) fun t16 =>ob (gq (isB r15.1 true) (lb2s r15.2 t16)) fun t17 =>ob (gq (isB r15.1 true) (some t14)) fun t18 =>ob (gq (isB r15.1 true) (lb2s r15.2 t18)) fun t19 =>ob (gq (isB r15.1 true) (lbin .eql t17 t19)) fun t20 =>ob (lpick r15.1 t20 (.bool false)) fun t21 =>some (t21,r15.2))))
theorem veneerlaw20ScriptBackEq (cal:CB)(O:Oracle)(N:Nat)(f0 f1 f2 f3:FuncId)(v0:IV)(H:Heap):lrunK cal O N (veneerlaw20ScriptBack f0 f1 f2 f3) [v0] H=veneerlaw20ScriptBackS cal O N f0 f1 f2 f3 v0 H:=by
 kernel_rfl
def X11K2 :LC:=.seq (.reg [ qO 79 (.bin .lss (.t 78) (.t 77))]) (.seq (.cond (.t 79) .skip (.exit 2)) (.seq (.block 3 (.seq (.reg [ qM 80 78,qM 12 80]) (.seq (.drw [ qM 81 9,qM 82 11,qO 83 (.ix 1 (.t 81) (.t 82)),qO 84 (.ld1 (.t 83)),qM 85 12,qO 86 (.ix 7 (.t 84) (.t 85)),qO 87 (.ldn 7 (.t 86)),qM 88 5,qM 89 11,qO 90 (.ix 1 (.t 88) (.t 89)),qO 91 (.ld1 (.t 90)),qM 92 12,qO 93 (.ix 7 (.t 91) (.t 92)),qO 94 (.ldn 7 (.t 93)),qO 95 (.eqv true (.struct [(0,.int),(1,.int),(2,.int),(3,.int),(4,.int),(5,.str),(6,.str)]) (.t 87) (.t 94))] []) (.cond (.t 95) (.seq (.reg [ qO 4 (.mv (.k (.bool false)))]) .ret) .skip)))) (.reg [ qO 96 (.bin .add (.t 78) (k6 1)),qM 78 96])))
def veneerlaw20ScriptAheadC0 (f0 f1 f2:FuncId):LC:=.loop X11K2
def veneerlaw20ScriptAheadC1 (f0 f1 f2:FuncId):LC:=.block 2 (veneerlaw20ScriptAheadC0 f0 f1 f2)
def X11K13 :LC:=.reg [ qM 73 5,qM 74 11,qO 75 (.ix 1 (.t 73) (.t 74)),qO 76 (.ld1 (.t 75)),qO 77 (.len .slice (.t 76)),qO 78 (.mv (k6 0))]
def veneerlaw20ScriptAheadC2 (f0 f1 f2:FuncId):LC:=.seq X11K13 (veneerlaw20ScriptAheadC1 f0 f1 f2)
def X11K6 :LC:=.seq (.drw [ qM 62 9,qM 63 11,qO 64 (.ix 1 (.t 62) (.t 63)),qO 65 (.ld1 (.t 64)),qO 66 (.len .slice (.t 65)),qM 67 5,qM 68 11,qO 69 (.ix 1 (.t 67) (.t 68)),qO 70 (.ld1 (.t 69)),qO 71 (.len .slice (.t 70)),qO 72 (.bin .lss (.t 66) (.t 71))] []) (.cond (.t 72) (.seq (.reg [ qO 4 (.mv (.k (.bool false)))]) .ret) .skip)
def veneerlaw20ScriptAheadC3 (f0 f1 f2:FuncId):LC:=.seq X11K6 (veneerlaw20ScriptAheadC2 f0 f1 f2)
def veneerlaw20ScriptAheadC4 (f0 f1 f2:FuncId):LC:=.seq (.reg [ qM 61 59,qM 11 61]) (veneerlaw20ScriptAheadC3 f0 f1 f2)
def veneerlaw20ScriptAheadC5 (f0 f1 f2:FuncId):LC:=.block 1 (veneerlaw20ScriptAheadC4 f0 f1 f2)
def X11K24 :LC:=.reg [ qO 97 (.bin .add (.t 59) (k6 1)),qM 59 97]
def veneerlaw20ScriptAheadC6 (f0 f1 f2:FuncId):LC:=.seq (veneerlaw20ScriptAheadC5 f0 f1 f2) X11K24
def veneerlaw20ScriptAheadC7 (f0 f1 f2:FuncId):LC:=.seq (.cond (.t 60) .skip (.exit 0)) (veneerlaw20ScriptAheadC6 f0 f1 f2)
def veneerlaw20ScriptAheadC8 (f0 f1 f2:FuncId):LC:=.seq (.reg [ qO 60 (.bin .lss (.t 59) (.t 58))]) (veneerlaw20ScriptAheadC7 f0 f1 f2)
def veneerlaw20ScriptAheadC9 (f0 f1 f2:FuncId):LC:=.loop (veneerlaw20ScriptAheadC8 f0 f1 f2)
def veneerlaw20ScriptAheadC10 (f0 f1 f2:FuncId):LC:=.block 0 (veneerlaw20ScriptAheadC9 f0 f1 f2)
def X11K23 :LC:=.reg [ qM 57 5,qO 58 (.len .slice (.t 57)),qO 59 (.mv (k6 0))]
def veneerlaw20ScriptAheadC11 (f0 f1 f2:FuncId):LC:=.seq X11K23 (veneerlaw20ScriptAheadC10 f0 f1 f2)
def veneerlaw20ScriptAheadC12 (f0 f1 f2:FuncId):LC:=.seq (veneerlaw20ScriptAheadC11 f0 f1 f2) (.seq (.reg [ qO 4 (.mv (.k (.bool true)))]) .ret)
def X11K3 :LC:=.seq (.reg [ qM 45 9,qO 46 (.len .slice (.t 45)),qM 47 5,qO 48 (.len .slice (.t 47)),qO 49 (.bin .neq (.t 46) (.t 48)),qM 50 49,⟨(some 51),(.mv (.t 10)),(some (50,false))⟩,⟨(some 52),(.b2s (.t 51)),(some (50,false))⟩,⟨(some 53),(.mv (.t 6)),(some (50,false))⟩,⟨(some 54),(.b2s (.t 53)),(some (50,false))⟩,⟨(some 55),(.bin .neq (.t 52) (.t 54)),(some (50,false))⟩,qO 56 (.pick (.t 50) (.k (.bool true)) (.t 55))]) (.cond (.t 56) (.seq (.reg [ qO 4 (.mv (.k (.bool false)))]) .ret) .skip)
def veneerlaw20ScriptAheadC13 (f0 f1 f2:FuncId):LC:=.seq X11K3 (veneerlaw20ScriptAheadC12 f0 f1 f2)
def X11K8 (f0:FuncId):LC:=.reg [ qO 37 (.bldS 1 0 [(.int .u8 0)] []),qM 38 7,qO 39 (.app 1 1 (.t 37) (.t 38)),qM 40 1,qO 41 (.app 1 1 (.t 39) (.t 40)),qO 42 (.callF f0 [(.t 41)]),qM 36 42,qO 43 (.ext (.t 36) 0),qO 44 (.ext (.t 36) 1),qM 9 43,qM 10 44]
def veneerlaw20ScriptAheadC14 (f0 f1 f2:FuncId):LC:=.seq (X11K8 f1) (veneerlaw20ScriptAheadC13 f0 f1 f2)
def X11K16 :LC:=.seq (.reg [ qM 34 8,qO 35 (.bin .neq (.t 34) (k6 0))]) (.cond (.t 35) (.seq (.reg [ qO 4 (.mv (.k (.bool false)))]) .ret) .skip)
def veneerlaw20ScriptAheadC15 (f0 f1 f2:FuncId):LC:=.seq X11K16 (veneerlaw20ScriptAheadC14 f0 f1 f2)
def X11K9 (f0:FuncId):LC:=.reg [ qM 29 5,qM 30 6,qO 31 (.callF f0 [(.t 29),(.t 30)]),qM 28 31,qO 32 (.ext (.t 28) 0),qO 33 (.ext (.t 28) 1),qM 7 32,qM 8 33]
def veneerlaw20ScriptAheadC16 (f0 f1 f2:FuncId):LC:=.seq (X11K9 f2) (veneerlaw20ScriptAheadC15 f0 f1 f2)
def X11K12 (f0:FuncId):LC:=.reg [ qM 24 0,qO 25 (.callF f0 [(.t 24)]),qM 23 25,qO 26 (.ext (.t 23) 0),qO 27 (.ext (.t 23) 1),qM 5 26,qM 6 27]
def veneerlaw20ScriptAheadC17 (f0 f1 f2:FuncId):LC:=.seq (X11K12 f1) (veneerlaw20ScriptAheadC16 f0 f1 f2)
def X11K7 :LC:=.seq (.reg [ qM 15 0,qO 16 (.len .slice (.t 15)),qO 17 (.bin .gtr (.t 16) (k6 8192)),qM 18 17,⟨(some 19),(.mv (.t 1)),(some (18,false))⟩,⟨(some 20),(.len .slice (.t 19)),(some (18,false))⟩,⟨(some 21),(.bin .gtr (.t 20) (k6 8192)),(some (18,false))⟩,qO 22 (.pick (.t 18) (.k (.bool true)) (.t 21))]) (.cond (.t 22) (.seq (.reg [ qO 4 (.mv (.k (.bool true)))]) .ret) .skip)
def veneerlaw20ScriptAheadC18 (f0 f1 f2:FuncId):LC:=.seq X11K7 (veneerlaw20ScriptAheadC17 f0 f1 f2)
def X11K18 (f0:FuncId):LC:=.seq (.reg [ qO 13 (.callF f0 []),qO 14 (.un .not (.t 13))]) (.cond (.t 14) (.seq (.reg [ qO 4 (.mv (.k (.bool false)))]) .ret) .skip)
def veneerlaw20ScriptAheadC19 (f0 f1 f2:FuncId):LC:=.seq (X11K18 f0) (veneerlaw20ScriptAheadC18 f0 f1 f2)
def veneerlaw20ScriptAheadC20 (f0 f1 f2:FuncId):LC:=.seq (.reg [ qO 4 (.mv (.k (.bool false)))]) (veneerlaw20ScriptAheadC19 f0 f1 f2)
def veneerlaw20ScriptAheadC0S (cal:CB)(O:Oracle)(N:Nat)(f0 f1 f2:FuncId)(gE2:IV->IV->IV->IV->Heap->OH):Nat->IV->IV->IV->IV->IV->IV->IV->Heap->OH
 | 0,_,_,_,_,_,_,_,_=>none
 | n+1,v5,v9,v11,v58,v59,v77,v78,H =>ob (lbin .lss v78 v77) fun t1 =>cnd t1
  (ob (lix 1 v9 v11) fun t2 =>ob (lload1 H t2) fun t3 =>ob (lix 7 t3 v78) fun t4 =>ob (lloadn H 7 t4) fun t5 =>ob (lix 1 v5 v11) fun t6 =>ob (lload1 H t6) fun t7 =>ob (lix 7 t7 v78) fun t8 =>ob (lloadn H 7 t8) fun t9 =>ob (leqv true (leq (.struct [(0,.int),(1,.int),(2,.int),(3,.int),(4,.int),(5,.str),(6,.str)]) t5 t9)) fun t10 =>cnd t10
  (some ((.bool false),H))
  (ob (lbin .add v78 (.int .i64 1)) fun t11 =>
   veneerlaw20ScriptAheadC0S cal O N f0 f1 f2 gE2 n v5 v9 v11 v58 v59 v77 t11 H))
  (gE2 v5 v9 v58 v59 H)
theorem veneerlaw20ScriptAheadC0Eq (cal:CB)(O:Oracle)(N:Nat)(f0 f1 f2:FuncId){k:KT (IV×Heap)}(gE2:IV->IV->IV->IV->Heap->OH)(hgE2:∀E H,k (.exit 2) E H=gE2 (lk E 5) (lk E 9) (lk E 58) (lk E 59) H)(hR:∀E H,k .ret E H=resK [(.tmp 4)] [] E H):∀(n:Nat) (E:Sg) (H:Heap),itK (lxK cal O N X11K2) n E H k=veneerlaw20ScriptAheadC0S cal O N f0 f1 f2 gE2 n (lk E 5) (lk E 9) (lk E 11) (lk E 58) (lk E 59) (lk E 77) (lk E 78) H:=by
 have hk:k=(kE 2 (fun E H=>gE2 (lk E 5) (lk E 9) (lk E 58) (lk E 59) H) (kR (resK [(.tmp 4)] []) k)):=(kE_mk hgE2 (kR_mk hR rfl));intro n
 induction n with
 | zero=>intro E H;rfl
 | succ n ih =>
  intro E H;rw[itK_succ,seqK_mk (g:=fun E H=>veneerlaw20ScriptAheadC0S cal O N f0 f1 f2 gE2 n (lk E 5) (lk E 9) (lk E 11) (lk E 58) (lk E 59) (lk E 77) (lk E 78) H) ih,hk];kernel_rfl
def veneerlaw20ScriptAheadC1S (cal:CB)(O:Oracle)(N:Nat)(f0 f1 f2:FuncId)(gN:IV->IV->IV->IV->Heap->OH)(v5 v9 v11 v58 v59 v77 v78:IV)(H:Heap):OH :=
  veneerlaw20ScriptAheadC0S cal O N f0 f1 f2 (fun v5 v9 v58 v59 H=>gN v5 v9 v58 v59 H) N v5 v9 v11 v58 v59 v77 v78 H
theorem veneerlaw20ScriptAheadC1Eq (cal:CB)(O:Oracle)(N:Nat)(f0 f1 f2:FuncId){k:KT (IV×Heap)}(gN:IV->IV->IV->IV->Heap->OH)(hgN:∀E H,k .normal E H=gN (lk E 5) (lk E 9) (lk E 58) (lk E 59) H)(hR:∀E H,k .ret E H=resK [(.tmp 4)] [] E H):∀(E:Sg) (H:Heap),lxK cal O N (veneerlaw20ScriptAheadC1 f0 f1 f2) E H k=veneerlaw20ScriptAheadC1S cal O N f0 f1 f2 gN (lk E 5) (lk E 9) (lk E 11) (lk E 58) (lk E 59) (lk E 77) (lk E 78) H:=by
 have hk:k=(kN (fun E H=>gN (lk E 5) (lk E 9) (lk E 58) (lk E 59) H) (kR (resK [(.tmp 4)] []) k)):=(kN_mk hgN (kR_mk hR rfl));intro E H;rw[hk];show lxK cal O N (veneerlaw20ScriptAheadC0 f0 f1 f2) E H (blockK 2 (kN (fun E H=>gN (lk E 5) (lk E 9) (lk E 58) (lk E 59) H) (kR (resK [(.tmp 4)] []) k)))=_;exact(veneerlaw20ScriptAheadC0Eq cal O N f0 f1 f2 (k:=(blockK 2 (kN (fun E H=>gN (lk E 5) (lk E 9) (lk E 58) (lk E 59) H) (kR (resK [(.tmp 4)] []) k)))) gN (fun _ _=>by kernel_rfl) (fun _ _=>by kernel_rfl) N E H).trans (by kernel_rfl)
def veneerlaw20ScriptAheadC2S (cal:CB)(O:Oracle)(N:Nat)(f0 f1 f2:FuncId)(gN:IV->IV->IV->IV->Heap->OH)(v5 v9 v11 v58 v59:IV)(H:Heap):OH :=
 ob (lix 1 v5 v11) fun t1 =>ob (lload1 H t1) fun t2 =>ob (llen H .slice t2) fun t3 =>
  veneerlaw20ScriptAheadC1S cal O N f0 f1 f2 (fun v5 v9 v58 v59 H=>gN v5 v9 v58 v59 H) v5 v9 v11 v58 v59 t3 (.int .i64 0) H
theorem veneerlaw20ScriptAheadC2Eq (cal:CB)(O:Oracle)(N:Nat)(f0 f1 f2:FuncId){k:KT (IV×Heap)}(gN:IV->IV->IV->IV->Heap->OH)(hgN:∀E H,k .normal E H=gN (lk E 5) (lk E 9) (lk E 58) (lk E 59) H)(hR:∀E H,k .ret E H=resK [(.tmp 4)] [] E H):∀(E:Sg) (H:Heap),lxK cal O N (veneerlaw20ScriptAheadC2 f0 f1 f2) E H k=veneerlaw20ScriptAheadC2S cal O N f0 f1 f2 gN (lk E 5) (lk E 9) (lk E 11) (lk E 58) (lk E 59) H:=by
 have hk:k=(kN (fun E H=>gN (lk E 5) (lk E 9) (lk E 58) (lk E 59) H) (kR (resK [(.tmp 4)] []) k)):=(kN_mk hgN (kR_mk hR rfl));intro E H;rw[hk];show lxK cal O N X11K13 E H (seqK (lxK cal O N (veneerlaw20ScriptAheadC1 f0 f1 f2)) (kN (fun E H=>gN (lk E 5) (lk E 9) (lk E 58) (lk E 59) H) (kR (resK [(.tmp 4)] []) k)))=_;rw[seqK_mk (g:=fun E H=>veneerlaw20ScriptAheadC1S cal O N f0 f1 f2 gN (lk E 5) (lk E 9) (lk E 11) (lk E 58) (lk E 59) (lk E 77) (lk E 78) H) (veneerlaw20ScriptAheadC1Eq cal O N f0 f1 f2 (k:=(kN (fun E H=>gN (lk E 5) (lk E 9) (lk E 58) (lk E 59) H) (kR (resK [(.tmp 4)] []) k))) gN (fun _ _=>by kernel_rfl) (fun _ _=>by kernel_rfl))];kernel_rfl
def veneerlaw20ScriptAheadC3S (cal:CB)(O:Oracle)(N:Nat)(f0 f1 f2:FuncId)(gN:IV->IV->IV->IV->Heap->OH)(v5 v9 v11 v58 v59:IV)(H:Heap):OH :=
 ob (lix 1 v9 v11) fun t1 =>ob (lload1 H t1) fun t2 =>ob (llen H .slice t2) fun t3 =>ob (lix 1 v5 v11) fun t4 =>ob (lload1 H t4) fun t5 =>ob (llen H .slice t5) fun t6 =>ob (lbin .lss t3 t6) fun t7 =>cnd t7
 (some ((.bool false),H))
  (veneerlaw20ScriptAheadC2S cal O N f0 f1 f2 (fun v5 v9 v58 v59 H=>gN v5 v9 v58 v59 H) v5 v9 v11 v58 v59 H)
theorem veneerlaw20ScriptAheadC3Eq (cal:CB)(O:Oracle)(N:Nat)(f0 f1 f2:FuncId){k:KT (IV×Heap)}(gN:IV->IV->IV->IV->Heap->OH)(hgN:∀E H,k .normal E H=gN (lk E 5) (lk E 9) (lk E 58) (lk E 59) H)(hR:∀E H,k .ret E H=resK [(.tmp 4)] [] E H):∀(E:Sg) (H:Heap),lxK cal O N (veneerlaw20ScriptAheadC3 f0 f1 f2) E H k=veneerlaw20ScriptAheadC3S cal O N f0 f1 f2 gN (lk E 5) (lk E 9) (lk E 11) (lk E 58) (lk E 59) H:=by
 have hk:k=(kN (fun E H=>gN (lk E 5) (lk E 9) (lk E 58) (lk E 59) H) (kR (resK [(.tmp 4)] []) k)):=(kN_mk hgN (kR_mk hR rfl));intro E H;rw[hk];show lxK cal O N X11K6 E H (seqK (lxK cal O N (veneerlaw20ScriptAheadC2 f0 f1 f2)) (kN (fun E H=>gN (lk E 5) (lk E 9) (lk E 58) (lk E 59) H) (kR (resK [(.tmp 4)] []) k)))=_;rw[seqK_mk (g:=fun E H=>veneerlaw20ScriptAheadC2S cal O N f0 f1 f2 gN (lk E 5) (lk E 9) (lk E 11) (lk E 58) (lk E 59) H) (veneerlaw20ScriptAheadC2Eq cal O N f0 f1 f2 (k:=(kN (fun E H=>gN (lk E 5) (lk E 9) (lk E 58) (lk E 59) H) (kR (resK [(.tmp 4)] []) k))) gN (fun _ _=>by kernel_rfl) (fun _ _=>by kernel_rfl))];kernel_rfl
def veneerlaw20ScriptAheadC4S (cal:CB)(O:Oracle)(N:Nat)(f0 f1 f2:FuncId)(gN:IV->IV->IV->IV->Heap->OH)(v5 v9 v58 v59:IV)(H:Heap):OH :=
  veneerlaw20ScriptAheadC3S cal O N f0 f1 f2 (fun v5 v9 v58 v59 H=>gN v5 v9 v58 v59 H) v5 v9 v59 v58 v59 H
theorem veneerlaw20ScriptAheadC4Eq (cal:CB)(O:Oracle)(N:Nat)(f0 f1 f2:FuncId){k:KT (IV×Heap)}(gN:IV->IV->IV->IV->Heap->OH)(hgN:∀E H,k .normal E H=gN (lk E 5) (lk E 9) (lk E 58) (lk E 59) H)(hR:∀E H,k .ret E H=resK [(.tmp 4)] [] E H):∀(E:Sg) (H:Heap),lxK cal O N (veneerlaw20ScriptAheadC4 f0 f1 f2) E H k=veneerlaw20ScriptAheadC4S cal O N f0 f1 f2 gN (lk E 5) (lk E 9) (lk E 58) (lk E 59) H:=by
 have hk:k=(kN (fun E H=>gN (lk E 5) (lk E 9) (lk E 58) (lk E 59) H) (kR (resK [(.tmp 4)] []) k)):=(kN_mk hgN (kR_mk hR rfl));intro E H;rw[hk];show lxK cal O N (.reg [ qM 61 59,qM 11 61]) E H (seqK (lxK cal O N (veneerlaw20ScriptAheadC3 f0 f1 f2)) (kN (fun E H=>gN (lk E 5) (lk E 9) (lk E 58) (lk E 59) H) (kR (resK [(.tmp 4)] []) k)))=_;rw[seqK_mk (g:=fun E H=>veneerlaw20ScriptAheadC3S cal O N f0 f1 f2 gN (lk E 5) (lk E 9) (lk E 11) (lk E 58) (lk E 59) H) (veneerlaw20ScriptAheadC3Eq cal O N f0 f1 f2 (k:=(kN (fun E H=>gN (lk E 5) (lk E 9) (lk E 58) (lk E 59) H) (kR (resK [(.tmp 4)] []) k))) gN (fun _ _=>by kernel_rfl) (fun _ _=>by kernel_rfl))];kernel_rfl
def veneerlaw20ScriptAheadC5S (cal:CB)(O:Oracle)(N:Nat)(f0 f1 f2:FuncId)(gN:IV->IV->IV->IV->Heap->OH)(v5 v9 v58 v59:IV)(H:Heap):OH :=
  veneerlaw20ScriptAheadC4S cal O N f0 f1 f2 (fun v5 v9 v58 v59 H=>gN v5 v9 v58 v59 H) v5 v9 v58 v59 H
theorem veneerlaw20ScriptAheadC5Eq (cal:CB)(O:Oracle)(N:Nat)(f0 f1 f2:FuncId){k:KT (IV×Heap)}(gN:IV->IV->IV->IV->Heap->OH)(hgN:∀E H,k .normal E H=gN (lk E 5) (lk E 9) (lk E 58) (lk E 59) H)(hR:∀E H,k .ret E H=resK [(.tmp 4)] [] E H):∀(E:Sg) (H:Heap),lxK cal O N (veneerlaw20ScriptAheadC5 f0 f1 f2) E H k=veneerlaw20ScriptAheadC5S cal O N f0 f1 f2 gN (lk E 5) (lk E 9) (lk E 58) (lk E 59) H:=by
 have hk:k=(kN (fun E H=>gN (lk E 5) (lk E 9) (lk E 58) (lk E 59) H) (kR (resK [(.tmp 4)] []) k)):=(kN_mk hgN (kR_mk hR rfl));intro E H;rw[hk];show lxK cal O N (veneerlaw20ScriptAheadC4 f0 f1 f2) E H (blockK 1 (kN (fun E H=>gN (lk E 5) (lk E 9) (lk E 58) (lk E 59) H) (kR (resK [(.tmp 4)] []) k)))=_;exact(veneerlaw20ScriptAheadC4Eq cal O N f0 f1 f2 (k:=(blockK 1 (kN (fun E H=>gN (lk E 5) (lk E 9) (lk E 58) (lk E 59) H) (kR (resK [(.tmp 4)] []) k)))) gN (fun _ _=>by kernel_rfl) (fun _ _=>by kernel_rfl) E H).trans (by kernel_rfl)
def veneerlaw20ScriptAheadC6S (cal:CB)(O:Oracle)(N:Nat)(f0 f1 f2:FuncId)(gN:IV->IV->IV->IV->Heap->OH)(v5 v9 v58 v59:IV)(H:Heap):OH :=
  veneerlaw20ScriptAheadC5S cal O N f0 f1 f2 (fun v5 v9 v58 v59 H=>ob (lbin .add v59 (.int .i64 1)) fun t1 =>
 gN v5 v9 v58 t1 H) v5 v9 v58 v59 H
theorem veneerlaw20ScriptAheadC6Eq (cal:CB)(O:Oracle)(N:Nat)(f0 f1 f2:FuncId){k:KT (IV×Heap)}(gN:IV->IV->IV->IV->Heap->OH)(hgN:∀E H,k .normal E H=gN (lk E 5) (lk E 9) (lk E 58) (lk E 59) H)(hR:∀E H,k .ret E H=resK [(.tmp 4)] [] E H):∀(E:Sg) (H:Heap),lxK cal O N (veneerlaw20ScriptAheadC6 f0 f1 f2) E H k=veneerlaw20ScriptAheadC6S cal O N f0 f1 f2 gN (lk E 5) (lk E 9) (lk E 58) (lk E 59) H:=by
 have hk:k=(kN (fun E H=>gN (lk E 5) (lk E 9) (lk E 58) (lk E 59) H) (kR (resK [(.tmp 4)] []) k)):=(kN_mk hgN (kR_mk hR rfl));intro E H;rw[hk];show lxK cal O N (veneerlaw20ScriptAheadC5 f0 f1 f2) E H (seqK (lxK cal O N X11K24) (kN (fun E H=>gN (lk E 5) (lk E 9) (lk E 58) (lk E 59) H) (kR (resK [(.tmp 4)] []) k)))=_;exact(veneerlaw20ScriptAheadC5Eq cal O N f0 f1 f2 (k:=(seqK (lxK cal O N X11K24) (kN (fun E H=>gN (lk E 5) (lk E 9) (lk E 58) (lk E 59) H) (kR (resK [(.tmp 4)] []) k)))) (fun v5 v9 v58 v59 H=>ob (lbin .add v59 (.int .i64 1)) fun t1 =>
gN v5 v9 v58 t1 H) (fun _ _=>by kernel_rfl) (fun _ _=>by kernel_rfl) E H).trans (by kernel_rfl)
def veneerlaw20ScriptAheadC7S (cal:CB)(O:Oracle)(N:Nat)(f0 f1 f2:FuncId)(gE0:Heap->OH)(gN:IV->IV->IV->IV->Heap->OH)(v5 v9 v58 v59 v60:IV)(H:Heap):OH :=
 cnd v60
  (veneerlaw20ScriptAheadC6S cal O N f0 f1 f2 (fun v5 v9 v58 v59 H=>gN v5 v9 v58 v59 H) v5 v9 v58 v59 H)
 (gE0 H)
theorem veneerlaw20ScriptAheadC7Eq (cal:CB)(O:Oracle)(N:Nat)(f0 f1 f2:FuncId){k:KT (IV×Heap)}(gE0:Heap->OH)(gN:IV->IV->IV->IV->Heap->OH)(hgE0:∀E H,k (.exit 0) E H=gE0 H)(hgN:∀E H,k .normal E H=gN (lk E 5) (lk E 9) (lk E 58) (lk E 59) H)(hR:∀E H,k .ret E H=resK [(.tmp 4)] [] E H):∀(E:Sg) (H:Heap),lxK cal O N (veneerlaw20ScriptAheadC7 f0 f1 f2) E H k=veneerlaw20ScriptAheadC7S cal O N f0 f1 f2 gE0 gN (lk E 5) (lk E 9) (lk E 58) (lk E 59) (lk E 60) H:=by
 have hk:k=(kN (fun E H=>gN (lk E 5) (lk E 9) (lk E 58) (lk E 59) H) (kE 0 (fun E H=>gE0 H) (kR (resK [(.tmp 4)] []) k))):=(kN_mk hgN (kE_mk hgE0 (kR_mk hR rfl)));intro E H;rw[hk];show lxK cal O N (.cond (.t 60) .skip (.exit 0)) E H (seqK (lxK cal O N (veneerlaw20ScriptAheadC6 f0 f1 f2)) (kN (fun E H=>gN (lk E 5) (lk E 9) (lk E 58) (lk E 59) H) (kE 0 (fun E H=>gE0 H) (kR (resK [(.tmp 4)] []) k))))=_;rw[seqK_mk (g:=fun E H=>veneerlaw20ScriptAheadC6S cal O N f0 f1 f2 gN (lk E 5) (lk E 9) (lk E 58) (lk E 59) H) (veneerlaw20ScriptAheadC6Eq cal O N f0 f1 f2 (k:=(kN (fun E H=>gN (lk E 5) (lk E 9) (lk E 58) (lk E 59) H) (kE 0 (fun E H=>gE0 H) (kR (resK [(.tmp 4)] []) k)))) gN (fun _ _=>by kernel_rfl) (fun _ _=>by kernel_rfl))];kernel_rfl
def veneerlaw20ScriptAheadC8S (cal:CB)(O:Oracle)(N:Nat)(f0 f1 f2:FuncId)(gE0:Heap->OH)(gN:IV->IV->IV->IV->Heap->OH)(v5 v9 v58 v59:IV)(H:Heap):OH :=
 ob (lbin .lss v59 v58) fun t1 =>
  veneerlaw20ScriptAheadC7S cal O N f0 f1 f2 (fun H=>gE0 H) (fun v5 v9 v58 v59 H=>gN v5 v9 v58 v59 H) v5 v9 v58 v59 t1 H
theorem veneerlaw20ScriptAheadC8Eq (cal:CB)(O:Oracle)(N:Nat)(f0 f1 f2:FuncId){k:KT (IV×Heap)}(gE0:Heap->OH)(gN:IV->IV->IV->IV->Heap->OH)(hgE0:∀E H,k (.exit 0) E H=gE0 H)(hgN:∀E H,k .normal E H=gN (lk E 5) (lk E 9) (lk E 58) (lk E 59) H)(hR:∀E H,k .ret E H=resK [(.tmp 4)] [] E H):∀(E:Sg) (H:Heap),lxK cal O N (veneerlaw20ScriptAheadC8 f0 f1 f2) E H k=veneerlaw20ScriptAheadC8S cal O N f0 f1 f2 gE0 gN (lk E 5) (lk E 9) (lk E 58) (lk E 59) H:=by
 have hk:k=(kN (fun E H=>gN (lk E 5) (lk E 9) (lk E 58) (lk E 59) H) (kE 0 (fun E H=>gE0 H) (kR (resK [(.tmp 4)] []) k))):=(kN_mk hgN (kE_mk hgE0 (kR_mk hR rfl)));intro E H;rw[hk];show lxK cal O N (.reg [ qO 60 (.bin .lss (.t 59) (.t 58))]) E H (seqK (lxK cal O N (veneerlaw20ScriptAheadC7 f0 f1 f2)) (kN (fun E H=>gN (lk E 5) (lk E 9) (lk E 58) (lk E 59) H) (kE 0 (fun E H=>gE0 H) (kR (resK [(.tmp 4)] []) k))))=_;rw[seqK_mk (g:=fun E H=>veneerlaw20ScriptAheadC7S cal O N f0 f1 f2 gE0 gN (lk E 5) (lk E 9) (lk E 58) (lk E 59) (lk E 60) H) (veneerlaw20ScriptAheadC7Eq cal O N f0 f1 f2 (k:=(kN (fun E H=>gN (lk E 5) (lk E 9) (lk E 58) (lk E 59) H) (kE 0 (fun E H=>gE0 H) (kR (resK [(.tmp 4)] []) k)))) gE0 gN (fun _ _=>by kernel_rfl) (fun _ _=>by kernel_rfl) (fun _ _=>by kernel_rfl))];kernel_rfl
def veneerlaw20ScriptAheadC9S (cal:CB)(O:Oracle)(N:Nat)(f0 f1 f2:FuncId)(gE0:Heap->OH):Nat->IV->IV->IV->IV->Heap->OH
 | 0,_,_,_,_,_=>none
 | n+1,v5,v9,v58,v59,H =>
  veneerlaw20ScriptAheadC8S cal O N f0 f1 f2 (fun H=>gE0 H) (fun v5 v9 v58 v59 H=>veneerlaw20ScriptAheadC9S cal O N f0 f1 f2 gE0 n v5 v9 v58 v59 H) v5 v9 v58 v59 H
theorem veneerlaw20ScriptAheadC9Eq (cal:CB)(O:Oracle)(N:Nat)(f0 f1 f2:FuncId){k:KT (IV×Heap)}(gE0:Heap->OH)(hgE0:∀E H,k (.exit 0) E H=gE0 H)(hR:∀E H,k .ret E H=resK [(.tmp 4)] [] E H):∀(n:Nat) (E:Sg) (H:Heap),itK (lxK cal O N (veneerlaw20ScriptAheadC8 f0 f1 f2)) n E H k=veneerlaw20ScriptAheadC9S cal O N f0 f1 f2 gE0 n (lk E 5) (lk E 9) (lk E 58) (lk E 59) H:=by
 have hk:k=(kE 0 (fun E H=>gE0 H) (kR (resK [(.tmp 4)] []) k)):=(kE_mk hgE0 (kR_mk hR rfl));intro n
 induction n with
 | zero=>intro E H;rfl
 | succ n ih =>
  intro E H;rw[itK_succ,seqK_mk (g:=fun E H=>veneerlaw20ScriptAheadC9S cal O N f0 f1 f2 gE0 n (lk E 5) (lk E 9) (lk E 58) (lk E 59) H) ih,hk];exact(veneerlaw20ScriptAheadC8Eq cal O N f0 f1 f2 (k:=(kN (fun E H=>veneerlaw20ScriptAheadC9S cal O N f0 f1 f2 gE0 n (lk E 5) (lk E 9) (lk E 58) (lk E 59) H) (kE 0 (fun E H=>gE0 H) (kR (resK [(.tmp 4)] []) k)))) gE0 (fun v5 v9 v58 v59 H=>veneerlaw20ScriptAheadC9S cal O N f0 f1 f2 gE0 n v5 v9 v58 v59 H) (fun _ _=>by kernel_rfl) (fun _ _=>by kernel_rfl) (fun _ _=>by kernel_rfl) E H).trans (by kernel_rfl)
def veneerlaw20ScriptAheadC10S (cal:CB)(O:Oracle)(N:Nat)(f0 f1 f2:FuncId)(gN:Heap->OH)(v5 v9 v58 v59:IV)(H:Heap):OH :=
  veneerlaw20ScriptAheadC9S cal O N f0 f1 f2 (fun H=>gN H) N v5 v9 v58 v59 H
theorem veneerlaw20ScriptAheadC10Eq (cal:CB)(O:Oracle)(N:Nat)(f0 f1 f2:FuncId){k:KT (IV×Heap)}(gN:Heap->OH)(hgN:∀E H,k .normal E H=gN H)(hR:∀E H,k .ret E H=resK [(.tmp 4)] [] E H):∀(E:Sg) (H:Heap),lxK cal O N (veneerlaw20ScriptAheadC10 f0 f1 f2) E H k=veneerlaw20ScriptAheadC10S cal O N f0 f1 f2 gN (lk E 5) (lk E 9) (lk E 58) (lk E 59) H:=by
 have hk:k=(kN (fun E H=>gN H) (kR (resK [(.tmp 4)] []) k)):=(kN_mk hgN (kR_mk hR rfl));intro E H;rw[hk];show lxK cal O N (veneerlaw20ScriptAheadC9 f0 f1 f2) E H (blockK 0 (kN (fun E H=>gN H) (kR (resK [(.tmp 4)] []) k)))=_;exact(veneerlaw20ScriptAheadC9Eq cal O N f0 f1 f2 (k:=(blockK 0 (kN (fun E H=>gN H) (kR (resK [(.tmp 4)] []) k)))) gN (fun _ _=>by kernel_rfl) (fun _ _=>by kernel_rfl) N E H).trans (by kernel_rfl)
def veneerlaw20ScriptAheadC11S (cal:CB)(O:Oracle)(N:Nat)(f0 f1 f2:FuncId)(gN:Heap->OH)(v5 v9:IV)(H:Heap):OH :=
 ob (llen H .slice v5) fun t1 =>
  veneerlaw20ScriptAheadC10S cal O N f0 f1 f2 (fun H=>gN H) v5 v9 t1 (.int .i64 0) H
theorem veneerlaw20ScriptAheadC11Eq (cal:CB)(O:Oracle)(N:Nat)(f0 f1 f2:FuncId){k:KT (IV×Heap)}(gN:Heap->OH)(hgN:∀E H,k .normal E H=gN H)(hR:∀E H,k .ret E H=resK [(.tmp 4)] [] E H):∀(E:Sg) (H:Heap),lxK cal O N (veneerlaw20ScriptAheadC11 f0 f1 f2) E H k=veneerlaw20ScriptAheadC11S cal O N f0 f1 f2 gN (lk E 5) (lk E 9) H:=by
 have hk:k=(kN (fun E H=>gN H) (kR (resK [(.tmp 4)] []) k)):=(kN_mk hgN (kR_mk hR rfl));intro E H;rw[hk];show lxK cal O N X11K23 E H (seqK (lxK cal O N (veneerlaw20ScriptAheadC10 f0 f1 f2)) (kN (fun E H=>gN H) (kR (resK [(.tmp 4)] []) k)))=_;rw[seqK_mk (g:=fun E H=>veneerlaw20ScriptAheadC10S cal O N f0 f1 f2 gN (lk E 5) (lk E 9) (lk E 58) (lk E 59) H) (veneerlaw20ScriptAheadC10Eq cal O N f0 f1 f2 (k:=(kN (fun E H=>gN H) (kR (resK [(.tmp 4)] []) k))) gN (fun _ _=>by kernel_rfl) (fun _ _=>by kernel_rfl))];kernel_rfl
def veneerlaw20ScriptAheadC12S (cal:CB)(O:Oracle)(N:Nat)(f0 f1 f2:FuncId)(v5 v9:IV)(H:Heap):OH :=
  veneerlaw20ScriptAheadC11S cal O N f0 f1 f2 (fun H=>some ((.bool true),H)) v5 v9 H
theorem veneerlaw20ScriptAheadC12Eq (cal:CB)(O:Oracle)(N:Nat)(f0 f1 f2:FuncId){k:KT (IV×Heap)}(hR:∀E H,k .ret E H=resK [(.tmp 4)] [] E H):∀(E:Sg) (H:Heap),lxK cal O N (veneerlaw20ScriptAheadC12 f0 f1 f2) E H k=veneerlaw20ScriptAheadC12S cal O N f0 f1 f2 (lk E 5) (lk E 9) H:=by
 have hk:k=(kR (resK [(.tmp 4)] []) k):=(kR_mk hR rfl);intro E H;rw[hk];show lxK cal O N (veneerlaw20ScriptAheadC11 f0 f1 f2) E H (seqK (lxK cal O N (.seq (.reg [ qO 4 (.mv (.k (.bool true)))]) .ret)) (kR (resK [(.tmp 4)] []) k))=_;exact(veneerlaw20ScriptAheadC11Eq cal O N f0 f1 f2 (k:=(seqK (lxK cal O N (.seq (.reg [ qO 4 (.mv (.k (.bool true)))]) .ret)) (kR (resK [(.tmp 4)] []) k))) (fun H=>some ((.bool true),H)) (fun _ _=>by kernel_rfl) (fun _ _=>by kernel_rfl) E H).trans (by kernel_rfl)
def veneerlaw20ScriptAheadC13S (cal:CB)(O:Oracle)(N:Nat)(f0 f1 f2:FuncId)(v5 v6 v9 v10:IV)(H:Heap):OH :=
 ob (llen H .slice v9) fun t1 =>ob (llen H .slice v5) fun t2 =>ob (lbin .neq t1 t2) fun t3 =>ob (gq (isB t3 false) (some v10)) fun t4 =>ob (gq (isB t3 false) (lb2s H t4)) fun t5 =>ob (gq (isB t3 false) (some v6)) fun t6 =>ob (gq (isB t3 false) (lb2s H t6)) fun t7 =>ob (gq (isB t3 false) (lbin .neq t5 t7)) fun t8 =>ob (lpick t3 (.bool true) t8) fun t9 =>cnd t9
 (some ((.bool false),H))
  (veneerlaw20ScriptAheadC12S cal O N f0 f1 f2 v5 v9 H)
theorem veneerlaw20ScriptAheadC13Eq (cal:CB)(O:Oracle)(N:Nat)(f0 f1 f2:FuncId){k:KT (IV×Heap)}(hR:∀E H,k .ret E H=resK [(.tmp 4)] [] E H):∀(E:Sg) (H:Heap),lxK cal O N (veneerlaw20ScriptAheadC13 f0 f1 f2) E H k=veneerlaw20ScriptAheadC13S cal O N f0 f1 f2 (lk E 5) (lk E 6) (lk E 9) (lk E 10) H:=by
 have hk:k=(kR (resK [(.tmp 4)] []) k):=(kR_mk hR rfl);intro E H;rw[hk];show lxK cal O N X11K3 E H (seqK (lxK cal O N (veneerlaw20ScriptAheadC12 f0 f1 f2)) (kR (resK [(.tmp 4)] []) k))=_;rw[seqK_mk (g:=fun E H=>veneerlaw20ScriptAheadC12S cal O N f0 f1 f2 (lk E 5) (lk E 9) H) (veneerlaw20ScriptAheadC12Eq cal O N f0 f1 f2 (k:=(kR (resK [(.tmp 4)] []) k)) (fun _ _=>by kernel_rfl))];kernel_rfl
def veneerlaw20ScriptAheadC14S (cal:CB)(O:Oracle)(N:Nat)(f0 f1 f2:FuncId)(v1 v5 v6 v7:IV)(H:Heap):OH :=
 ob (lbldS H 1 0 [(.int .u8 0)] []) fun r1 =>ob (lapp r1.2 1 1 r1.1 v7) fun r2 =>ob (lapp r2.2 1 1 r2.1 v1) fun r3 =>ob (O f1 [r3.1] r3.2) fun r4 =>ob (iextract r4.1 0) fun t5 =>ob (iextract r4.1 1) fun t6 =>
  veneerlaw20ScriptAheadC13S cal O N f0 f1 f2 v5 v6 t5 t6 r4.2
theorem veneerlaw20ScriptAheadC14Eq (cal:CB)(O:Oracle)(N:Nat)(f0 f1 f2:FuncId){k:KT (IV×Heap)}(hR:∀E H,k .ret E H=resK [(.tmp 4)] [] E H):∀(E:Sg) (H:Heap),lxK cal O N (veneerlaw20ScriptAheadC14 f0 f1 f2) E H k=veneerlaw20ScriptAheadC14S cal O N f0 f1 f2 (lk E 1) (lk E 5) (lk E 6) (lk E 7) H:=by
 have hk:k=(kR (resK [(.tmp 4)] []) k):=(kR_mk hR rfl);intro E H;rw[hk];show lxK cal O N (X11K8 f1) E H (seqK (lxK cal O N (veneerlaw20ScriptAheadC13 f0 f1 f2)) (kR (resK [(.tmp 4)] []) k))=_;rw[seqK_mk (g:=fun E H=>veneerlaw20ScriptAheadC13S cal O N f0 f1 f2 (lk E 5) (lk E 6) (lk E 9) (lk E 10) H) (veneerlaw20ScriptAheadC13Eq cal O N f0 f1 f2 (k:=(kR (resK [(.tmp 4)] []) k)) (fun _ _=>by kernel_rfl))];kernel_rfl
def veneerlaw20ScriptAheadC15S (cal:CB)(O:Oracle)(N:Nat)(f0 f1 f2:FuncId)(v1 v5 v6 v7 v8:IV)(H:Heap):OH :=
 ob (lbin .neq v8 (.int .i64 0)) fun t1 =>cnd t1
 (some ((.bool false),H))
  (veneerlaw20ScriptAheadC14S cal O N f0 f1 f2 v1 v5 v6 v7 H)
theorem veneerlaw20ScriptAheadC15Eq (cal:CB)(O:Oracle)(N:Nat)(f0 f1 f2:FuncId){k:KT (IV×Heap)}(hR:∀E H,k .ret E H=resK [(.tmp 4)] [] E H):∀(E:Sg) (H:Heap),lxK cal O N (veneerlaw20ScriptAheadC15 f0 f1 f2) E H k=veneerlaw20ScriptAheadC15S cal O N f0 f1 f2 (lk E 1) (lk E 5) (lk E 6) (lk E 7) (lk E 8) H:=by
 have hk:k=(kR (resK [(.tmp 4)] []) k):=(kR_mk hR rfl);intro E H;rw[hk];show lxK cal O N X11K16 E H (seqK (lxK cal O N (veneerlaw20ScriptAheadC14 f0 f1 f2)) (kR (resK [(.tmp 4)] []) k))=_;rw[seqK_mk (g:=fun E H=>veneerlaw20ScriptAheadC14S cal O N f0 f1 f2 (lk E 1) (lk E 5) (lk E 6) (lk E 7) H) (veneerlaw20ScriptAheadC14Eq cal O N f0 f1 f2 (k:=(kR (resK [(.tmp 4)] []) k)) (fun _ _=>by kernel_rfl))];kernel_rfl
def veneerlaw20ScriptAheadC16S (cal:CB)(O:Oracle)(N:Nat)(f0 f1 f2:FuncId)(v1 v5 v6:IV)(H:Heap):OH :=
 ob (O f2 [v5,v6] H) fun r1 =>ob (iextract r1.1 0) fun t2 =>ob (iextract r1.1 1) fun t3 =>
  veneerlaw20ScriptAheadC15S cal O N f0 f1 f2 v1 v5 v6 t2 t3 r1.2
theorem veneerlaw20ScriptAheadC16Eq (cal:CB)(O:Oracle)(N:Nat)(f0 f1 f2:FuncId){k:KT (IV×Heap)}(hR:∀E H,k .ret E H=resK [(.tmp 4)] [] E H):∀(E:Sg) (H:Heap),lxK cal O N (veneerlaw20ScriptAheadC16 f0 f1 f2) E H k=veneerlaw20ScriptAheadC16S cal O N f0 f1 f2 (lk E 1) (lk E 5) (lk E 6) H:=by
 have hk:k=(kR (resK [(.tmp 4)] []) k):=(kR_mk hR rfl);intro E H;rw[hk];show lxK cal O N (X11K9 f2) E H (seqK (lxK cal O N (veneerlaw20ScriptAheadC15 f0 f1 f2)) (kR (resK [(.tmp 4)] []) k))=_;rw[seqK_mk (g:=fun E H=>veneerlaw20ScriptAheadC15S cal O N f0 f1 f2 (lk E 1) (lk E 5) (lk E 6) (lk E 7) (lk E 8) H) (veneerlaw20ScriptAheadC15Eq cal O N f0 f1 f2 (k:=(kR (resK [(.tmp 4)] []) k)) (fun _ _=>by kernel_rfl))];kernel_rfl
def veneerlaw20ScriptAheadC17S (cal:CB)(O:Oracle)(N:Nat)(f0 f1 f2:FuncId)(v0 v1:IV)(H:Heap):OH :=
 ob (O f1 [v0] H) fun r1 =>ob (iextract r1.1 0) fun t2 =>ob (iextract r1.1 1) fun t3 =>
  veneerlaw20ScriptAheadC16S cal O N f0 f1 f2 v1 t2 t3 r1.2
theorem veneerlaw20ScriptAheadC17Eq (cal:CB)(O:Oracle)(N:Nat)(f0 f1 f2:FuncId){k:KT (IV×Heap)}(hR:∀E H,k .ret E H=resK [(.tmp 4)] [] E H):∀(E:Sg) (H:Heap),lxK cal O N (veneerlaw20ScriptAheadC17 f0 f1 f2) E H k=veneerlaw20ScriptAheadC17S cal O N f0 f1 f2 (lk E 0) (lk E 1) H:=by
 have hk:k=(kR (resK [(.tmp 4)] []) k):=(kR_mk hR rfl);intro E H;rw[hk];show lxK cal O N (X11K12 f1) E H (seqK (lxK cal O N (veneerlaw20ScriptAheadC16 f0 f1 f2)) (kR (resK [(.tmp 4)] []) k))=_;rw[seqK_mk (g:=fun E H=>veneerlaw20ScriptAheadC16S cal O N f0 f1 f2 (lk E 1) (lk E 5) (lk E 6) H) (veneerlaw20ScriptAheadC16Eq cal O N f0 f1 f2 (k:=(kR (resK [(.tmp 4)] []) k)) (fun _ _=>by kernel_rfl))];kernel_rfl
def veneerlaw20ScriptAheadC18S (cal:CB)(O:Oracle)(N:Nat)(f0 f1 f2:FuncId)(v0 v1:IV)(H:Heap):OH :=
 ob (llen H .slice v0) fun t1 =>ob (lbin .gtr t1 (.int .i64 8192)) fun t2 =>ob (gq (isB t2 false) (some v1)) fun t3 =>ob (gq (isB t2 false) (llen H .slice t3)) fun t4 =>ob (gq (isB t2 false) (lbin .gtr t4 (.int .i64 8192))) fun t5 =>ob (lpick t2 (.bool true) t5) fun t6 =>cnd t6
 (some ((.bool true),H))
  (veneerlaw20ScriptAheadC17S cal O N f0 f1 f2 v0 v1 H)
theorem veneerlaw20ScriptAheadC18Eq (cal:CB)(O:Oracle)(N:Nat)(f0 f1 f2:FuncId){k:KT (IV×Heap)}(hR:∀E H,k .ret E H=resK [(.tmp 4)] [] E H):∀(E:Sg) (H:Heap),lxK cal O N (veneerlaw20ScriptAheadC18 f0 f1 f2) E H k=veneerlaw20ScriptAheadC18S cal O N f0 f1 f2 (lk E 0) (lk E 1) H:=by
 have hk:k=(kR (resK [(.tmp 4)] []) k):=(kR_mk hR rfl);intro E H;rw[hk];show lxK cal O N X11K7 E H (seqK (lxK cal O N (veneerlaw20ScriptAheadC17 f0 f1 f2)) (kR (resK [(.tmp 4)] []) k))=_;rw[seqK_mk (g:=fun E H=>veneerlaw20ScriptAheadC17S cal O N f0 f1 f2 (lk E 0) (lk E 1) H) (veneerlaw20ScriptAheadC17Eq cal O N f0 f1 f2 (k:=(kR (resK [(.tmp 4)] []) k)) (fun _ _=>by kernel_rfl))];kernel_rfl
def veneerlaw20ScriptAheadC19S (cal:CB)(O:Oracle)(N:Nat)(f0 f1 f2:FuncId)(v0 v1:IV)(H:Heap):OH :=
 ob (O f0 [] H) fun r1 =>ob (iun .not r1.1) fun t2 =>cnd t2
 (some ((.bool false),r1.2))
  (veneerlaw20ScriptAheadC18S cal O N f0 f1 f2 v0 v1 r1.2)
theorem veneerlaw20ScriptAheadC19Eq (cal:CB)(O:Oracle)(N:Nat)(f0 f1 f2:FuncId){k:KT (IV×Heap)}(hR:∀E H,k .ret E H=resK [(.tmp 4)] [] E H):∀(E:Sg) (H:Heap),lxK cal O N (veneerlaw20ScriptAheadC19 f0 f1 f2) E H k=veneerlaw20ScriptAheadC19S cal O N f0 f1 f2 (lk E 0) (lk E 1) H:=by
 have hk:k=(kR (resK [(.tmp 4)] []) k):=(kR_mk hR rfl);intro E H;rw[hk];show lxK cal O N (X11K18 f0) E H (seqK (lxK cal O N (veneerlaw20ScriptAheadC18 f0 f1 f2)) (kR (resK [(.tmp 4)] []) k))=_;rw[seqK_mk (g:=fun E H=>veneerlaw20ScriptAheadC18S cal O N f0 f1 f2 (lk E 0) (lk E 1) H) (veneerlaw20ScriptAheadC18Eq cal O N f0 f1 f2 (k:=(kR (resK [(.tmp 4)] []) k)) (fun _ _=>by kernel_rfl))];kernel_rfl
def veneerlaw20ScriptAheadC20S (cal:CB)(O:Oracle)(N:Nat)(f0 f1 f2:FuncId)(v0 v1:IV)(H:Heap):OH :=
  veneerlaw20ScriptAheadC19S cal O N f0 f1 f2 v0 v1 H
theorem veneerlaw20ScriptAheadC20Eq (cal:CB)(O:Oracle)(N:Nat)(f0 f1 f2:FuncId){k:KT (IV×Heap)}(hR:∀E H,k .ret E H=resK [(.tmp 4)] [] E H):∀(E:Sg) (H:Heap),lxK cal O N (veneerlaw20ScriptAheadC20 f0 f1 f2) E H k=veneerlaw20ScriptAheadC20S cal O N f0 f1 f2 (lk E 0) (lk E 1) H:=by
 have hk:k=(kR (resK [(.tmp 4)] []) k):=(kR_mk hR rfl);intro E H;rw[hk];show lxK cal O N (.reg [ qO 4 (.mv (.k (.bool false)))]) E H (seqK (lxK cal O N (veneerlaw20ScriptAheadC19 f0 f1 f2)) (kR (resK [(.tmp 4)] []) k))=_;rw[seqK_mk (g:=fun E H=>veneerlaw20ScriptAheadC19S cal O N f0 f1 f2 (lk E 0) (lk E 1) H) (veneerlaw20ScriptAheadC19Eq cal O N f0 f1 f2 (k:=(kR (resK [(.tmp 4)] []) k)) (fun _ _=>by kernel_rfl))];kernel_rfl
def veneerlaw20ScriptAhead (f0 f1 f2:FuncId):LFun:=⟨(veneerlaw20ScriptAheadC20 f0 f1 f2),[(.tmp 4)],98⟩
def veneerlaw20ScriptAheadS (cal:CB)(O:Oracle)(N:Nat)(f0 f1 f2:FuncId)(v0 v1:IV)(H:Heap):OH :=
  veneerlaw20ScriptAheadC20S cal O N f0 f1 f2 v0 v1 H
theorem veneerlaw20ScriptAheadEq (cal:CB)(O:Oracle)(N:Nat)(f0 f1 f2:FuncId)(v0 v1:IV)(H:Heap):lrunK cal O N (veneerlaw20ScriptAhead f0 f1 f2) [v0,v1] H=veneerlaw20ScriptAheadS cal O N f0 f1 f2 v0 v1 H:=by
 show lxK cal O N (veneerlaw20ScriptAheadC20 f0 f1 f2) (initFrom 0 [v0,v1]) H (endK [(.tmp 4)])=_;exact veneerlaw20ScriptAheadC20Eq cal O N f0 f1 f2 (k:=(endK [(.tmp 4)])) (fun _ _=>by kernel_rfl) (initFrom 0 [v0,v1]) H
end Go.Shade
namespace Go.Shade
def AwkOk (O:Oracle)(f:FuncId):Prop:=∀H:Heap,O f [] H=some (.bool true,H)
section
variable {cal : FuncId -> Bool} {O : Oracle} {N : Nat} {fa fd : FuncId}
end
end Go.Shade
namespace Go.Proofs.YtmpdeebjhmgpgaaGreatDoor
open Go.Shade
theorem sB :SoundT Tryz.prog tB:=soundExt (soundExt sA (sound_atT (sim_stage sA hm stA))) (sound_atT (sim_stage sA hm stB))
theorem sE :SoundT Tryz.prog tE:=soundExt sB (sound_atT (sim_stage sB hm stE))
theorem sC :SoundT Tryz.prog tC:=soundExt sA (sound_atT (sim_stage sE hm stC))
def awF (args:List IV)(H:Heap):Option (IV×Heap):=match args with
 | []=>some (.bool true,H)
 | _=>none
theorem lo103 :LoF Tryz.prog 103 callWithin:=⟨⟨Tryz.f103,Tryz.func103,by kernel_rfl⟩,by kernel_rfl⟩
theorem lo68 :LoF Tryz.prog 68 (callMay 103):=⟨⟨Tryz.f68,Tryz.func68,by kernel_rfl⟩,by kernel_rfl⟩
theorem lo43 :LoF Tryz.prog 43 (callEncode 68):=⟨⟨Tryz.f43,Tryz.func43,by kernel_rfl⟩,by kernel_rfl⟩
theorem lo38 :LoF Tryz.prog 38 callDecode1:=⟨⟨Tryz.f38,Tryz.func38,by kernel_rfl⟩,by kernel_rfl⟩
theorem lo39 :LoF Tryz.prog 39 callDecode2:=⟨⟨Tryz.f39,Tryz.func39,by kernel_rfl⟩,by kernel_rfl⟩
theorem lo40 :LoF Tryz.prog 40 callDecode3:=⟨⟨Tryz.f40,Tryz.func40,by kernel_rfl⟩,by kernel_rfl⟩
theorem lo18 :LoF Tryz.prog 18 (callDecode 38 39 40):=⟨⟨Tryz.f18,Tryz.func18,by kernel_rfl⟩,by kernel_rfl⟩
theorem lo21 :LoF Tryz.prog 21 (callScript 43):=⟨⟨Tryz.f21,Tryz.func21,by kernel_rfl⟩,by kernel_rfl⟩
noncomputable abbrev u0 :Table:=ext T0 9 awF
noncomputable abbrev u1 :Table:=ext u0 103 (tab WithinR)
noncomputable abbrev u2 :Table:=ext u1 68 (tab MayR)
noncomputable abbrev u3 :Table:=ext u2 43 (tab EncR)
noncomputable abbrev u4 :Table:=ext u3 38 (tab OneR)
noncomputable abbrev u5 :Table:=ext u4 39 (tab (TwoR 38))
noncomputable abbrev u6 :Table:=ext u5 40 (tab (TextR 38))
noncomputable abbrev u7 :Table:=ext u6 18 (tab DecR)
noncomputable abbrev uu :Table:=ext u7 21 (tab ScriptR)
theorem v0 :SoundT Tryz.prog u0:=soundExt (soundT0 _) fun args H r H' e=>by
 unfold awF at e;split at e
 ·cases e;exact sim_awakeT sC hm stD H
 ·cases e
theorem v1 :SoundT Tryz.prog u1:=soundExt v0 fun args H r H' h=>simWithin v0 hm rfl lo103 args H (r,H') (tab_some h)
theorem v2 :SoundT Tryz.prog u2:=soundExt v1 fun args H r H' h=>simMay v1 hm rfl rfl lo68 args H (r,H') (tab_some h)
theorem v3 :SoundT Tryz.prog u3:=soundExt v2 fun args H r H' h=>simEnc v2 hm rfl rfl lo43 args H (r,H') (tab_some h)
theorem v4 :SoundT Tryz.prog u4:=soundExt v3 fun args H r H' h=>simOne v3 hm rfl lo38 args H (r,H') (tab_some h)
theorem v5 :SoundT Tryz.prog u5:=soundExt v4 fun args H r H' h=>simTwo v4 hm lo38.2 rfl rfl lo39 args H (r,H') (tab_some h)
theorem v6 :SoundT Tryz.prog u6:=soundExt v5 fun args H r H' h=>simText v5 hm lo38.2 rfl rfl lo40 args H (r,H') (tab_some h)
theorem v7 :SoundT Tryz.prog u7:=soundExt v6 fun args H r H' h=>simDec v6 hm lo38.2 lo39.2 lo40.2 rfl rfl rfl rfl lo18 args H (r,H') (tab_some h)
theorem vv :SoundT Tryz.prog uu:=soundExt v7 fun args H r H' h=>simScript v7 hm rfl rfl lo21 args H (r,H') (tab_some h)
noncomputable abbrev dd :Oracle:=den Tryz.prog uu
theorem okAwk :AwkOk dd 9:=fun H=>den_table (g:=awF) rfl [] H
theorem lo10 :LoF Tryz.prog 10 (Go.Shade.scriptDecode 18):=⟨⟨Tryz.f10,Tryz.func10,by kernel_rfl⟩,by kernel_rfl⟩
theorem okScrDec :ScrDecOk dd 10:=fun H v bs h1 h2 h3=>denWp rfl lo10 1001 (nble rfl) (by rw[Go.Shade.scriptDecodeEq];exact scd_s (okDec (T:=uu) (f:=18) rfl) (by omega) h1 h2 h3)
end Go.Proofs.YtmpdeebjhmgpgaaGreatDoor
namespace Go.Shade
variable {H : Heap} {L : List Cl} {R : Out -> Prop} {T : List (List Cl)} {n : Nat} {v0 v1 : IV}
theorem TV.call {v:IV}(h:TV H v T){t:Nat}{x:List Cl}(hx:T[t]? =some x):∃p w,lix 1 v (.int .i64 (t:Nat))=some p/\lload1 H p=some w/\llen H .slice w=some (.int .i64 (x.length:Nat))/\∀k c,x[k]? =some c->∃q,lix 7 w (.int .i64 (k:Nat))=some q/\lloadn H 7 q=some (.agg c.cells):=by
 obtain⟨ht,e⟩:=ges hx;obtain⟨p,w,h1,h2,h3,_⟩:=h.at ht;rw[e]at h3;exact⟨p,w,h1,h2,h3.len,fun k c hc=>by obtain⟨b,o,g1,g2⟩:=h3.at hc;exact⟨_,g1,g2⟩⟩
theorem app_call {B:Nat}{w:IV}(hw:Buf B 7 H w (flat7 L))(hB:B<=H.length)(hL:L.length<=1000000)(c:Cl) :
  ∃w' H',lapp (H++[IObj.row c.cells false]) 7 72 w (.slice H.length 0 1 1 true 7)=some (w',H')/\Buf B 7 H' w' (flat7 (L++[c]))/\Keep B H H':=by
 have k1:Keep H.length H (H++[IObj.row c.cells false]):=Keep.push _ _ (Nat.le_refl _);have hw1:=hw.keep k1 fun r n m ex e=>by
  rcases hw with⟨e',_⟩ | ⟨r',n',ex',e',_,hr,_⟩
  ·rw[e]at e';cases e'
  ·rw[e]at e';cases e';exact(ges hr).1
 have hc:lxcells (H++[IObj.row c.cells false]) 7 (.slice H.length 0 1 1 true 7) 1=some c.cells:=Buf.cells (B:=0) (.inr ⟨_,1,true,rfl,Nat.zero_le _,newRow,rfl⟩) rfl;obtain⟨w',H',a1,a2,a3⟩:=app_buf (b:=72) hw1 (Nat.le_trans hB k1.2) (by decide) (show xlen (.slice H.length 0 1 1 true 7)=some 1 from rfl) hc rfl (show c.cells.all IV.one=true from rfl) (by rw[flat7_length,show c.cells.length=7 from rfl];omega);rw[show flat7 L++c.cells=flat7 (L++[c]) by rw[flat7_append];simp[flat7]]at a2;exact⟨w',H',a1,a2,(k1.mono hB).trans a3⟩
def rnd (T:List (List Cl))(k i:Nat):List Cl:=(List.range i).filterMap fun t=>(T[t]?.getD [])[k]?
theorem rnd_succ {k i:Nat}{x:List Cl}(hx:T[i]? =some x):rnd T k (i+1)=rnd T k i++x[k]?.toList:=by
 unfold rnd;rw[List.range_succ,List.filterMap_append,List.filterMap_cons,List.filterMap_nil,hx,Option.getD_some]
 cases x[k]? <;>rfl
theorem rnd_len (T:List (List Cl))(k i:Nat):(rnd T k i).length<=i:=by
 have:=List.length_filterMap_le (fun t=>(T[t]?.getD [])[k]?) (List.range i);rw[List.length_range]at this;exact this
def rounds (T:List (List Cl))(n k:Nat):List Cl:=(List.range k).flatMap (round n T)
theorem rounds_succ (T:List (List Cl))(n k:Nat):rounds T n (k+1)=rounds T n k++rnd T k n:=by
 unfold rounds;rw[List.range_succ,List.flatMap_append,List.flatMap_cons,List.flatMap_nil,List.append_nil];rfl
theorem rounds_len (T:List (List Cl))(n:Nat):∀k,(rounds T n k).length<=k*n
 | 0=>by simp[rounds]
 | k+1=>by
  rw[rounds_succ,List.length_append,Nat.add_mul,Nat.one_mul];have:=rounds_len T n k;have:=rnd_len T k n;omega
section
variable {cal : FuncId -> Bool} {O : Oracle} {N : Nat} {fs : FuncId}
theorem enc_in {k:Nat}{H0:Heap}{gE:IV->IV->IV->IV->IV->Heap->Option (IV×Heap)}(hT:TV H0 v0 T)(hn:T.length=n)(hn64:n<=64)(hk:k<=1000)(hL:L.length<=100000)
  (hE:∀w H,Kp H0 H->Buf H0.length 7 H w (flat7 (L++rnd T k n))->Wp (gE v0 v1 (.int .i64 (n:Nat)) w (.int .i64 (k:Nat)) H) R) :
  ∀(d i m:Nat) (w:IV) (H:Heap),i+d=n->d<m->Kp H0 H->Buf H0.length 7 H w (flat7 (L++rnd T k i)) ->
   Wp (scriptEncodeC0S cal O N fs gE m v0 v1 (.int .i64 (n:Nat)) w (.int .i64 (k:Nat)) (.int .i64 (n:Nat)) (.int .i64 (i:Nat)) H) R:=by
 intro d
 induction d with
 | zero =>
  intro i m w H hi hm hK hw;obtain⟨m,rfl⟩:∃j,m=j+1:=⟨m - 1,by omega⟩;obtain rfl:i=n:=by omega
  rw[scriptEncodeC0S,lbin_lss,ob_some,decide_eq_false (by omega),cnd_false];exact hE w H hK hw
 | succ d ih =>
  intro i m w H hi hm hK hw;obtain⟨m,rfl⟩:∃j,m=j+1:=⟨m - 1,by omega⟩;have hx:=List.getElem?_eq_getElem (l:=T) (i:=i) (by omega);obtain⟨p,u,a1,a2,a3,a4⟩:=(hT.keep hK).call hx;have hr:=rnd_succ (k:=k) hx;generalize T[i]=x at *;have wi:IntKind.wrap .i64 ((i:Int)+1)=((i+1:Nat):Int):=by rw[wrap_i64 (by omega) (by omega)];omega
  rw[scriptEncodeC0S,lbin_lss,ob_some,decide_eq_true (by omega),cnd_true,jn_eq];simp only[a1,a2,a3,ob_some,lbin_lss];by_cases h:k<x.length
  ·have hc:=List.getElem?_eq_getElem h;obtain⟨q,b1,b2⟩:=a4 k _ hc;generalize x[k]=c at *;have hz:lbldS H 7 1 [(.int .i64 0),(.int .i64 0),(.int .i64 0),(.int .i64 0),(.int .i64 0),(.str []),(.str [])] [(0,.agg c.cells)]=some (.slice H.length 0 1 1 true 7,H++[.row c.cells false]):=rfl;have hrl:=rnd_len T k i;obtain⟨w',H',c1,c2,c3⟩:=app_call hw hK.2 (by rw[List.length_append];omega) c;rw[decide_eq_true (by omega),cnd_true];simp only[b1,b2,hz,ob_some,c1,lbin_add,wi];refine ih (i+1) m w' H' (by omega) (by omega) (hK.trans c3) ?_;rw[hr,hc,Option.toList_some,←List.append_assoc];exact c2
  ·rw[decide_eq_false (by omega),cnd_false];simp only[lbin_add,ob_some,wi];refine ih (i+1) m w H (by omega) (by omega) hK ?_;rw[hr,List.getElem?_eq_none (by omega),Option.toList_none,List.append_nil];exact hw
theorem enc_out {K:Nat}{H0:Heap}{gE:IV->IV->IV->IV->Heap->Option (IV×Heap)}(hN:64<N)(hT:TV H0 v0 T)(hn:T.length=n)(hn0:0<n)(hn64:n<=64)(hK1:(T[0]?.getD []).length=K)(hK:K<=1000)
  (hE:∀w H,Kp H0 H->Buf H0.length 7 H w (flat7 (rounds T n K))->Wp (gE v0 v1 (.int .i64 (n:Nat)) w H) R) :
  ∀(d k m:Nat) (w:IV) (H:Heap),k+d=K->d<m->Kp H0 H->Buf H0.length 7 H w (flat7 (rounds T n k)) ->
   Wp (scriptEncodeC6S cal O N fs gE m v0 v1 (.int .i64 (n:Nat)) w (.int .i64 (k:Nat)) H) R:=by
 have hx:=List.getElem?_eq_getElem (l:=T) (i:=0) (by omega);intro d
 induction d with
 | zero =>
  intro k m w H hi hm hKp hw;obtain⟨m,rfl⟩:∃j,m=j+1:=⟨m - 1,by omega⟩;obtain rfl:k=K:=by omega
  obtain⟨p,u,a1,a2,a3,a4⟩:=(hT.keep hKp).call hx;rw[hx,Option.getD_some]at hK1;have a1:lix 1 v0 (.int .i64 0)=some p:=a1;rw[scriptEncodeC6S,scriptEncodeC5S,a1,ob_some,a2,ob_some,a3,ob_some,lbin_lss,ob_some,decide_eq_false (by omega),cnd_false];exact hE w H hKp hw
 | succ d ih =>
  intro k m w H hi hm hKp hw;obtain⟨m,rfl⟩:∃j,m=j+1:=⟨m - 1,by omega⟩;obtain⟨p,u,a1,a2,a3,a4⟩:=(hT.keep hKp).call hx;have hK2:=hK1;rw[hx,Option.getD_some]at hK2;have a1:lix 1 v0 (.int .i64 0)=some p:=a1;rw[scriptEncodeC6S,scriptEncodeC5S,a1,ob_some,a2,ob_some,a3,ob_some,lbin_lss,ob_some,decide_eq_true (by omega),cnd_true];unfold scriptEncodeC4S scriptEncodeC3S scriptEncodeC2S scriptEncodeC1S;rw[(hT.keep hKp).len,ob_some,hn];have hl:=rounds_len T n k;have hl2:k*n<=1000*64:=Nat.mul_le_mul (by omega) hn64;refine enc_in (L:=rounds T n k) hT hn hn64 (by omega) (by omega) (fun w' H' hK' hw'=> ?_) n 0 N w H (by omega) (by omega) hKp (by rw[show rnd T k 0=[]from rfl,List.append_nil];exact hw);have wi:IntKind.wrap .i64 ((k:Int)+1)=((k+1:Nat):Int):=by rw[wrap_i64 (by omega) (by omega)];omega
  simp only[lbin_add,ob_some,wi];rw[←rounds_succ]at hw';exact ih (k+1) m w' H' (by omega) (by omega) hK' hw'
def fair (T:List (List Cl))(n m t:Nat):Prop:=(T[t]?.getD []).length=(m+(n - 1 - t)) / n
theorem enc_chk {w:IV}{gE:IV->IV->IV->Heap->Option (IV×Heap)}(hT:TV H v0 T)(hn:T.length=n)(hn0:0<n)(hn64:n<=64)(hL:L.length<=100000)(hw:CS H w L)
  (hE:(∀t,t<n->fair T n L.length t)->Wp (gE v1 (.int .i64 (n:Nat)) w H) R) (hN:(∃t,t<n/\¬fair T n L.length t)->R (.tuple [.nilSlice,.int .i64 22],H)) :
  ∀(d i m:Nat),i+d=n->d<m->(∀t,t<i->fair T n L.length t) ->
   Wp (scriptEncodeC9S cal O N fs gE m v0 v1 (.int .i64 (n:Nat)) w (.int .i64 (n:Nat)) (.int .i64 (i:Nat)) H) R:=by
 intro d
 induction d with
 | zero =>
  intro i m hi hm hf;obtain⟨m,rfl⟩:∃j,m=j+1:=⟨m - 1,by omega⟩;obtain rfl:i=n:=by omega
  rw[scriptEncodeC9S,lbin_lss,ob_some,decide_eq_false (by omega),cnd_false];exact hE hf
 | succ d ih =>
  intro i m hi hm hf;obtain⟨m,rfl⟩:∃j,m=j+1:=⟨m - 1,by omega⟩;have hx:=List.getElem?_eq_getElem (l:=T) (i:=i) (by omega);obtain⟨p,u,a1,a2,a3,a4⟩:=hT.call hx;have hfi:fair T n L.length i↔T[i].length=(L.length+(n - 1 - i)) / n:=by unfold fair;rw[hx,Option.getD_some]
  generalize T[i]=x at *;have wi:IntKind.wrap .i64 ((i:Int)+1)=((i+1:Nat):Int):=by rw[wrap_i64 (by omega) (by omega)];omega
  have w1:IntKind.wrap .i64 ((L.length:Int) - i)=(L.length:Int) - i:=wrap_i64 (by omega) (by omega);have w2:IntKind.wrap .i64 ((L.length:Int) - i+n)=(L.length:Int) - i+n:=wrap_i64 (by omega) (by omega);have w3:IntKind.wrap .i64 ((L.length:Int) - i+n - 1)=((L.length+(n - 1 - i):Nat):Int):=by rw[wrap_i64 (by omega) (by omega)];omega
  have hd:(L.length+(n - 1 - i)) / n<=L.length+(n - 1 - i):=Nat.div_le_self _ _;have hq:lbin .quo (.int .i64 ((L.length+(n - 1 - i):Nat):Int)) (.int .i64 (n:Nat))=some (.int .i64 (((L.length+(n - 1 - i)) / n:Nat):Int)):=by
   rw[lbin_quo (by omega),Int.tdiv_eq_ediv_of_nonneg (by omega),←Int.natCast_ediv];generalize (L.length+(n - 1 - i)) / n=Q at hd ⊢;rw[wrap_i64 (by omega) (by omega)]
  rw[scriptEncodeC9S,lbin_lss,ob_some,decide_eq_true (by omega),cnd_true,hw.len];simp only[ob_some,lbin_sub,w1,lbin_add,w2,w3,hq,a1,a2,a3,lbin_neq];refine Wp.ndec (fun h=>Wp.ret (hN ⟨i,by omega,fun c=>h (by rw[hfi.1 c])⟩)) (fun h=> ?_);rw[wi];refine ih (i+1) m (by omega) (by omega) fun t ht=> ?_;rcases Nat.lt_or_ge t i with c | c
  ·exact hf t c
  ·obtain rfl:t=i:=by omega
   exact hfi.2 (by omega)
end
end Go.Shade
namespace Go.Shade
variable {T : List (List Cl)}
def encOk (T:List (List Cl))(p:List UInt8):Prop:=1<=T.length/\T.length<=64/\p.length<=255/\T=deal T.length (inter T.length T)/\okScr (inter T.length T)=true
def encB (T:List (List Cl))(p:List UInt8):List UInt8:=ub ((T.length:Int) - 1)::ub (p.length:Int)::(p++encs (inter T.length T))
def EncP (T:List (List Cl))(p:List UInt8)(H:Heap)(r:Out):Prop :=
 Kp H r.2/\((encOk T p/\∃v',r.1=.tuple [v',.int .i64 0]/\BS r.2 v' (encB T p)/\low r.2.length v')∨(¬encOk T p/\r.1=.tuple [.nilSlice,.int .i64 22]))
def ScrEncOk (O:Oracle)(f:FuncId):Prop:=∀(H:Heap) (v0 v1:IV) (T:List (List Cl)) (p:List UInt8),TV H v0 T->low H.length v0->BS H v1 p->low H.length v1->(∀(t:Nat) (x:List Cl),T[t]? =some x->x.length<=1000)->Wp (O f [v0,v1] H) (EncP T p H)
theorem scr_p {O:Oracle}{f:FuncId}(h:ScriptOk O f):RScrOk O f:=fun H v l h1 h2=>by
 rw[h H v l h1 h2];unfold scrX;by_cases c:okScr l=true
 ·rw[if_pos c];by_cases e:l=[]
  ·rw[if_pos e];subst e;exact Wp.ret ⟨Kp.refl _,.inl ⟨c,_,rfl,.inl ⟨rfl,rfl⟩,lowNil⟩⟩
  ·rw[if_neg e];have hb:Buf 0 1 (H++[IObj.row (bytes (encs l)) false]) (.slice H.length 0 (encs l).length (encs l).length false 1) (bytes (encs l)):=.inr ⟨_,_,false,rfl,Nat.zero_le _,newRow,by rw[bytes_length];omega⟩;exact Wp.ret ⟨Kp.push _ _,.inl ⟨c,_,rfl,hb.bs.1,hb.bs.2.2⟩⟩
 ·rw[if_neg c];exact Wp.ret ⟨Kp.refl _,.inr ⟨by simpa using c,rfl⟩⟩
theorem enc_tail {H:Heap}{v1 t2:IV}{p b:List UInt8}{x y:UInt8}(hp:BS H v1 p)(hpl:p.length<=1000)(hv:low H.length v1)(hb:BS H t2 b)(hl:low H.length t2)(hbl:b.length<=1000000) :
  ∃w1 H1 w2 H2,lapp (H++[IObj.row (bytes [x,y]) false]) 1 1 (.slice H.length 0 2 2 true 1) v1=some (w1,H1)/\lapp H1 1 1 w1 t2=some (w2,H2)/\BS H2 w2 (x::y::(p++b))/\low H2.length w2/\Kp H H2:=by
 have b0:Buf H.length 1 (H++[IObj.row (bytes [x,y]) false]) (.slice H.length 0 2 2 true 1) (bytes [x,y]):=.inr ⟨_,2,true,rfl,Nat.le_refl _,newRow,rfl⟩;have k0:Keep H.length H (H++[IObj.row (bytes [x,y]) false]):=Keep.push _ _ (Nat.le_refl _);obtain⟨w1,H1,a1,b1,k1⟩:=app_bs b0 k0.2 (hp.keep' hv k0) (by simp;omega);have kk:=k0.trans k1;obtain⟨w2,H2,a2,b2,k2⟩:=app_bs b1 kk.2 (hb.keep' hl kk) (by simp;omega);refine⟨w1,H1,w2,H2,a1,a2,?_,b2.bs.2.2,kk.trans k2⟩;have:=b2.bs.1
 simpa using this
theorem encs_okLen {l:List Cl}(h:okScr l=true):(encs l).length<=1000000:=by
 obtain⟨h1,h2⟩:=okScr_len h;have:=encs_len h2;omega
section
variable {cal : FuncId -> Bool} {O : Oracle} {N : Nat} {fs : FuncId}
theorem inter_rounds {n:Nat}{K:Nat}(h:(T[0]?.getD []).length=K):inter n T=rounds T n K:=by
 unfold inter rounds;rw[h]
theorem fair_deal {n:Nat}(hn:T.length=n)(hn0:0<n):(∀t,t<n->fair T n (inter n T).length t)↔T=deal n (inter n T):=by
 constructor
 ·intro h;have e:=deal_of hn0 hn h;have h2:inter n T=flatR n T (inter n T).length:=by
   have:=inter_deal hn0 (flatR n T (inter n T).length);rw[←e]at this;exact this
  rw[←h2]at e;exact e
 ·intro h t ht;unfold fair;have:(T[t]?.getD [])=thr n (inter n T) t:=by
   have:=deal_get ht (inter n T);rw[←h]at this;rw[this];rfl
  rw[this,thr_len ht]
theorem scrEnc_s (hS:RScrOk O fs)(hN:1001<N){H:Heap}{v0 v1:IV}{p:List UInt8}(hT:TV H v0 T)(hl0:low H.length v0)(hp:BS H v1 p)(hl1:low H.length v1)(hlen:∀(t:Nat) (x:List Cl),T[t]? =some x->x.length<=1000) :
  Wp (scriptEncodeS cal O N fs v0 v1 H) (EncP T p H):=by
 unfold scriptEncodeS scriptEncodeC17S scriptEncodeC16S scriptEncodeC15S;rw[hT.len,ob_some,lbin_lss,ob_some];have bad:¬(1<=T.length/\T.length<=64/\p.length<=255)->Wp (some ((IV.tuple [.nilSlice,.int .i64 22]),H)) (EncP T p H):=fun h=>Wp.ret ⟨Kp.refl _,.inr ⟨fun c=>h ⟨c.1,c.2.1,c.2.2.1⟩,rfl⟩⟩;by_cases h1:T.length<1
 ·simp only[decide_eq_true (show((T.length:Nat):Int)<1 by omega),isB_tf,gq_false,ob_some,lpick_true,cnd_true];exact bad (by omega)
 simp only[decide_eq_false (show ¬((T.length:Nat):Int)<1 by omega),isB_ff,gq_true,ob_some,lbin_gtr,lpick_false];by_cases h2:64<T.length
 ·simp only[decide_eq_true (show(64:Int)<((T.length:Nat):Int) by omega),isB_tf,gq_false,ob_some,lpick_true,cnd_true];exact bad (by omega)
 simp only[decide_eq_false (show ¬(64:Int)<((T.length:Nat):Int) by omega),isB_ff,gq_true,ob_some,lpick_false,hp.len,lbin_gtr];refine Wp.dec (fun h=>bad (by omega)) (fun h3=> ?_);unfold scriptEncodeC14S scriptEncodeC13S scriptEncodeC8S scriptEncodeC7S;generalize hn:T.length=n at *;have hx:=List.getElem?_eq_getElem (l:=T) (i:=0) (by omega);have hK:(T[0]?.getD []).length<=1000:=by rw[hx];exact hlen 0 _ hx
 refine enc_out (K:=(T[0]?.getD []).length) (H0:=H) (by omega) hT hn (by omega) (by omega) rfl hK (fun w H1 k1 b1=> ?_) _ 0 N .nilSlice H (Nat.zero_add _) (by omega) (Kp.refl _) (.inl ⟨rfl,rfl⟩);unfold scriptEncodeC12S scriptEncodeC11S scriptEncodeC10S;dsimp only;rw[(hT.keep k1).len,ob_some,hn];rw[←inter_rounds rfl]at b1;have hL:(inter n T).length<=100000:=by
  rw[inter_rounds rfl];have q1:=rounds_len T n (T[0]?.getD []).length;have q2:(T[0]?.getD []).length*n<=1000*64:=Nat.mul_le_mul hK (by omega);omega
 have hfd:=fair_deal hn (show 0<n by omega);refine enc_chk (L:=inter n T) (hT.keep k1) hn (by omega) (by omega) hL b1.calls (fun hf=> ?_) (fun⟨t,ht,hf⟩=>⟨k1,.inr ⟨fun c=>hf ?_,rfl⟩⟩) n 0 N (Nat.zero_add _) (by omega) (fun t ht=>by omega)
 ·have hd:=hfd.1 hf;refine Wp.call (hS H1 w _ b1.low b1.calls) ?_;rintro⟨r,H2⟩ ⟨k2,h⟩;have kk:=Kp.tr k1 k2;simp only at h k2 kk ⊢;rcases h with⟨ok,v',rfl,hb,hl⟩ | ⟨ok,rfl⟩
  ·have z:decide ((0:Int)=0)=true:=rfl;have ws:IntKind.wrap .i64 ((n:Int) - 1)=(n:Int) - 1:=wrap_i64 (by omega) (by omega);simp only[iextract_tuple,List.getElem?_cons_zero,List.getElem?_cons_succ,ob_some,lbin_neq,z,Bool.not_true,cnd_false,lbin_sub,ws,lcvt_int,wrap_u8,(hp.keep' hl1 kk).len];have hz:∀x y:UInt8,lbldS H2 1 2 [(.int .u8 0)] [(0,.int .u8 (x.toNat:Int)),(1,.int .u8 (y.toNat:Int))]=some (.slice H2.length 0 2 2 true 1,H2++[.row (bytes [x,y]) false]):=fun _ _=>rfl;obtain⟨w1,K1,w2,K2,c1,c2,c3,c4,c5⟩:=enc_tail (x:=ub ((n:Int) - 1)) (y:=ub (p.length:Int)) (hp.keep' hl1 kk) (by omega) (low_mono hl1 kk.2) hb hl (encs_okLen ok);simp only[hz,ob_some,c1,c2];refine Wp.ret ⟨Kp.tr kk c5,.inl ⟨⟨by omega,by omega,by omega,by rw[hn];exact hd,by rw[hn];exact ok⟩,w2,rfl,?_,c4⟩⟩;unfold encB;rw[hn];exact c3
  ·have z:decide ((22:Int)=0)=false:=rfl;simp only[iextract_tuple,List.getElem?_cons_zero,List.getElem?_cons_succ,ob_some,lbin_neq,z,Bool.not_false,cnd_true];refine Wp.ret ⟨kk,.inr ⟨fun c=> ?_,rfl⟩⟩;have:=c.2.2.2.2;rw[hn,ok]at this;cases this
 ·have:=c.2.2.2.1;rw[hn]at this;exact hfd.2 this t ht
end
end Go.Shade
namespace Go.Shade
variable {H : Heap} {T U : List (List Cl)} {gE : IV -> IV -> IV -> Heap -> Option (IV × Heap)} {n t : Nat} {v0 v1 : IV}
theorem getE {α:Type}{T:List α}(h:t<T.length):T[t]? =some T[t]:=List.getElem?_eq_getElem h
theorem drop_eq {α:Type}{T U:List α}{x y:α}(h:T[t]? =some x)(k:U[t]? =some y):T.drop t=U.drop t↔x=y/\T.drop (t+1)=U.drop (t+1):=by
 obtain⟨h1,h2⟩:=ges h;obtain⟨k1,k2⟩:=ges k;rw[List.drop_eq_getElem_cons h1,List.drop_eq_getElem_cons k1,List.cons.injEq,h2,k2]
def SameTOk (O:Oracle)(f:FuncId):Prop:=∀(H:Heap) (v0 v1:IV) (T U:List (List Cl)),TV H v0 T->TV H v1 U->T.length<=1000->(∀(t:Nat) (x:List Cl),T[t]? =some x->x.length<=1000)->O f [v0,v1] H=some (.bool (decide (T=U)),H)
section
variable {cal : FuncId -> Bool} {O : Oracle} {N : Nat}
theorem same_in {x y:List Cl}(h0:TV H v0 T)(h1:TV H v1 U)(hx:T[t]? =some x)(hy:U[t]? =some y)(hxl:x.length<=1000)(hl:x.length=y.length){b:Bool}(hE:x=y->gE v0 v1 (.int .i64 (t:Nat)) H=some (.bool b,H))(hN:x≠y->b=false) :
  ∀(d i m:Nat),i+d=x.length->d<m->(x.drop i=y.drop i↔x=y)->vr20SameC0S cal O N gE m v0 v1 (.int .i64 (t:Nat)) (.int .i64 (i:Nat)) H=some (.bool b,H):=by
 obtain⟨p,w,a1,a2,a3,a4⟩:=h0.call hx;obtain⟨q,u,b1,b2,b3,b4⟩:=h1.call hy;intro d
 induction d with
 | zero =>
  intro i m hi hm he;obtain⟨m,rfl⟩:∃j,m=j+1:=⟨m - 1,by omega⟩;rw[vr20SameC0S,a1,ob_some,a2,ob_some,a3,ob_some,lbin_lss,ob_some,decide_eq_false (by omega),cnd_false];exact hE (he.1 (by rw[List.drop_of_length_le (by omega),List.drop_of_length_le (by omega)]))
 | succ d ih =>
  intro i m hi hm he;obtain⟨m,rfl⟩:∃j,m=j+1:=⟨m - 1,by omega⟩;have cx:=getE (T:=x) (t:=i) (by omega);have cy:=getE (T:=y) (t:=i) (by omega);obtain⟨r,d1,d2⟩:=a4 i _ cx;obtain⟨s,e1,e2⟩:=b4 i _ cy;have hd:=drop_eq cx cy;rw[vr20SameC0S,a1,ob_some,a2,ob_some,a3,ob_some,lbin_lss,ob_some,decide_eq_true (by omega),cnd_true];simp only[a1,a2,d1,d2,b1,b2,e1,e2,ob_some,call_eq,leqv_t];by_cases c:x[i]'(by omega)=y[i]'(by omega)
  ·have wi:IntKind.wrap .i64 ((i:Int)+1)=((i+1:Nat):Int):=by rw[wrap_i64 (by omega) (by omega)];omega
   rw[decide_eq_true c,Bool.not_true,cnd_false,lbin_add,ob_some,wi];exact ih (i+1) m (by omega) (by omega) ⟨fun h=>he.1 (hd.2 ⟨c,h⟩),fun h=>by rw[h]⟩
  ·rw[decide_eq_false c,Bool.not_false,cnd_true,hN fun h=>c (hd.1 (by rw[h])).1]
theorem same_out (hN:1000<N)(h0:TV H v0 T)(h1:TV H v1 U)(hT:T.length<=1000)(hl:T.length=U.length)(hx:∀(t:Nat) (x:List Cl),T[t]? =some x->x.length<=1000) :
  ∀(d t m:Nat),t+d=T.length->d<m->(T.drop t=U.drop t↔T=U)->vr20SameC7S cal O N (fun H=>some (.bool true,H)) m v0 v1 (.int .i64 (t:Nat)) H=some (.bool (decide (T=U)),H):=by
 intro d
 induction d with
 | zero =>
  intro t m hi hm he;obtain⟨m,rfl⟩:∃j,m=j+1:=⟨m - 1,by omega⟩;rw[vr20SameC7S,vr20SameC6S,h0.len,ob_some,lbin_lss,ob_some,decide_eq_false (by omega),cnd_false,decide_eq_true (he.1 (by rw[List.drop_of_length_le (by omega),List.drop_of_length_le (by omega)]))]
 | succ d ih =>
  intro t m hi hm he;obtain⟨m,rfl⟩:∃j,m=j+1:=⟨m - 1,by omega⟩;have gx:=getE (T:=T) (t:=t) (by omega);have gy:=getE (T:=U) (t:=t) (by omega);have hd:=drop_eq gx gy;have hxl:=hx t _ gx;obtain⟨p,w,a1,a2,a3,a4⟩:=h0.call gx;obtain⟨q,u,b1,b2,b3,b4⟩:=h1.call gy;generalize T[t]'(by omega)=x at *;generalize U[t]'(by omega)=y at *;rw[vr20SameC7S,vr20SameC6S,h0.len,ob_some,lbin_lss,ob_some,decide_eq_true (by omega),cnd_true];unfold vr20SameC5S vr20SameC4S vr20SameC3S;simp only[a1,a2,a3,b1,b2,b3,ob_some,lbin_neq];by_cases c:x.length=y.length
  ·rw[decide_eq_true (by omega),Bool.not_true,cnd_false];unfold vr20SameC2S vr20SameC1S;refine same_in h0 h1 gx gy hxl c (fun e=> ?_) (fun e=>decide_eq_false fun h=>e (hd.1 (by rw[h])).1) x.length 0 N (Nat.zero_add _) (by omega) (by simp);have wi:IntKind.wrap .i64 ((t:Int)+1)=((t+1:Nat):Int):=by rw[wrap_i64 (by omega) (by omega)];omega
   simp only[lbin_add,ob_some,wi];exact ih (t+1) m (by omega) (by omega) ⟨fun h=>he.1 (hd.2 ⟨e,h⟩),fun h=>by rw[h]⟩
  ·rw[decide_eq_false (by omega),Bool.not_false,cnd_true,decide_eq_false fun h=>c (by rw[(hd.1 (by rw[h])).1])]
theorem sameT_s (hN:1000<N)(h0:TV H v0 T)(h1:TV H v1 U)(hT:T.length<=1000)(hx:∀(t:Nat) (x:List Cl),T[t]? =some x->x.length<=1000) :
  vr20SameS cal O N v0 v1 H=some (.bool (decide (T=U)),H):=by
 unfold vr20SameS vr20SameC12S vr20SameC11S;rw[h0.len,ob_some,h1.len,ob_some,lbin_neq,ob_some];by_cases c:T.length=U.length
 ·rw[decide_eq_true (by omega),Bool.not_true,cnd_false];unfold vr20SameC10S vr20SameC9S vr20SameC8S;exact same_out hN h0 h1 hT c hx _ 0 N (Nat.zero_add _) (by omega) (by simp)
 ·rw[decide_eq_false (by omega),Bool.not_false,cnd_true,decide_eq_false fun h=>c (by rw[h])]
end
section
variable {cal : FuncId -> Bool} {O : Oracle} {N : Nat} {fs : FuncId}
theorem ref_len {R:Out->Prop}(hT:TV H v0 T)(hn:T.length=n)(hn64:n<=64)(hlen:∀(t:Nat) (x:List Cl),T[t]? =some x->x.length<=1000)
  (hE:Wp (gE v0 v1 (.int .i64 ((T.map List.length).sum:Nat)) H) R) (hs:(T.map List.length).sum<=64000) :
  ∀(d i m:Nat),i+d=n->d<m->Wp (vr20EncodeC0S cal O N fs gE m v0 v1 (.int .i64 (((T.take i).map List.length).sum:Nat)) (.int .i64 (i:Nat)) H) R:=by
 intro d
 induction d with
 | zero =>
  intro i m hi hm;obtain⟨m,rfl⟩:∃j,m=j+1:=⟨m - 1,by omega⟩;rw[vr20EncodeC0S,hT.len,ob_some,lbin_lss,ob_some,decide_eq_false (by omega),cnd_false,List.take_of_length_le (by omega)];exact hE
 | succ d ih =>
  intro i m hi hm;obtain⟨m,rfl⟩:∃j,m=j+1:=⟨m - 1,by omega⟩;have gx:=getE (T:=T) (t:=i) (by omega);have hxl:=hlen i _ gx;have hsum:((T.take (i+1)).map List.length).sum=((T.take i).map List.length).sum+(T[i]'(by omega)).length:=by
   rw[List.take_add_one,gx,List.map_append,List.sum_append];rfl
  have hle:((T.take i).map List.length).sum<=(T.map List.length).sum:=by
   have e:T.map List.length=(T.take i).map List.length++(T.drop i).map List.length:=by rw[←List.map_append,List.take_append_drop]
   rw[e,List.sum_append];omega
  obtain⟨p,w,a1,a2,a3,a4⟩:=hT.call gx;generalize T[i]'(by omega)=x at *;have wi:IntKind.wrap .i64 ((i:Int)+1)=((i+1:Nat):Int):=by rw[wrap_i64 (by omega) (by omega)];omega
  have ws:IntKind.wrap .i64 ((((T.take i).map List.length).sum:Nat)+(x.length:Nat):Int)=((((T.take (i+1)).map List.length).sum:Nat):Int):=by rw[wrap_i64 (by omega) (by omega),hsum];omega
  rw[vr20EncodeC0S,hT.len,ob_some,lbin_lss,ob_some,decide_eq_true (by omega),cnd_true];simp only[a1,a2,a3,ob_some,lbin_gtr];rw[decide_eq_false (by omega),cnd_false,lbin_add,ob_some,ws,lbin_add,ob_some,wi];exact ih (i+1) m (by omega) (by omega)
def lies (T:List (List Cl))(n i:Nat):Prop:=i / n<(T[i % n]?.getD []).length
theorem ref_calls {M:Nat}{H0:Heap}{R:Out->Prop}(hT:TV H0 v0 T)(hn:T.length=n)(hn0:0<n)(hM:M<=64000)(hE:∀w H,Kp H0 H->(∀i,i<M->lies T n i)->Buf H0.length 7 H w (flat7 (flatR n T M))->Wp (gE v0 v1 w H) R)(hN:∀H,Kp H0 H->(∃i,i<M/\¬lies T n i)->R (.tuple [.nilSlice,.int .i64 22],H)) :
  ∀(d i m:Nat) (w:IV) (H:Heap),i+d=M->d<m->Kp H0 H->(∀j,j<i->lies T n j)->Buf H0.length 7 H w (flat7 (flatR n T i)) ->
   Wp (vr20EncodeC3S cal O N fs gE m v0 v1 (.int .i64 (M:Nat)) w (.int .i64 (i:Nat)) H) R:=by
 intro d
 induction d with
 | zero =>
  intro i m w H hi hm hK hl hw;obtain⟨m,rfl⟩:∃j,m=j+1:=⟨m - 1,by omega⟩;obtain rfl:i=M:=by omega
  rw[vr20EncodeC3S,lbin_lss,ob_some,decide_eq_false (by omega),cnd_false];exact hE w H hK hl hw
 | succ d ih =>
  intro i m w H hi hm hK hl hw;obtain⟨m,rfl⟩:∃j,m=j+1:=⟨m - 1,by omega⟩;have ht:i % n<n:=Nat.mod_lt _ hn0;have hq0:i / n<=i:=Nat.div_le_self _ _;have gx:=getE (T:=T) (t:=i % n) (by omega);obtain⟨p,u,a1,a2,a3,a4⟩:=(hT.keep hK).call gx;have hli:lies T n i↔i / n<(T[i % n]'(by omega)).length:=by unfold lies;rw[gx,Option.getD_some]
  have hfl:=flatR_succ n T i;rw[gx,Option.getD_some]at hfl;generalize T[i % n]'(by omega)=x at *;have hrem:lbin .rem (.int .i64 (i:Nat)) (.int .i64 (n:Nat))=some (.int .i64 ((i % n:Nat):Int)):=by
   rw[lbin_rem (by omega),Int.tmod_eq_emod_of_nonneg (by omega)];rfl
  have hquo:lbin .quo (.int .i64 (i:Nat)) (.int .i64 (n:Nat))=some (.int .i64 ((i / n:Nat):Int)):=by
   rw[lbin_quo (by omega),Int.tdiv_eq_ediv_of_nonneg (by omega),←Int.natCast_ediv];generalize i / n=Q at hq0 ⊢;rw[wrap_i64 (by omega) (by omega)]
  rw[vr20EncodeC3S,lbin_lss,ob_some,decide_eq_true (by omega),cnd_true];simp only[(hT.keep hK).len,hn,ob_some,hrem,hquo,a1,a2,a3,lbin_geq];by_cases c:i / n<x.length
  ·have gc:=getE c;obtain⟨q,b1,b2⟩:=a4 _ _ gc;rw[gc,Option.toList_some]at hfl;generalize x[i / n]=cc at *;have hz:lbldS H 7 1 [(.int .i64 0),(.int .i64 0),(.int .i64 0),(.int .i64 0),(.int .i64 0),(.str []),(.str [])] [(0,.agg cc.cells)]=some (.slice H.length 0 1 1 true 7,H++[.row cc.cells false]):=rfl;have hll:(flatR n T i).length<=i:=by
    unfold flatR;have:=List.length_filterMap_le (fun i=>(T[i % n]?.getD [])[i / n]?) (List.range i);rw[List.length_range]at this;exact this
   obtain⟨w',H',c1,c2,c3⟩:=app_call hw hK.2 (by omega) cc;have wi:IntKind.wrap .i64 ((i:Int)+1)=((i+1:Nat):Int):=by rw[wrap_i64 (by omega) (by omega)];omega
   rw[decide_eq_false (by omega),cnd_false];simp only[b1,b2,hz,ob_some,c1,lbin_add,wi];refine ih (i+1) m w' H' (by omega) (by omega) (hK.trans c3) (fun j hj=> ?_) (by rw[hfl];exact c2);rcases Nat.lt_or_ge j i with h | h
   ·exact hl j h
   ·obtain rfl:j=i:=by omega
    exact hli.2 c
  ·rw[decide_eq_true (by omega),cnd_true];exact Wp.ret (hN H hK ⟨i,by omega,fun h=>c (hli.1 h)⟩)
theorem lies_deal {M:Nat}(hn:T.length=n)(hn0:0<n)(hM:(T.map List.length).sum=M):((∀i,i<M->lies T n i)->T=deal n (inter n T)/\flatR n T M=inter n T)/\(T=deal n (inter n T)->∀i,i<M->lies T n i):=by
 subst hM;constructor
 ·intro h;have e:=deal_ofR hn0 hn h;have h2:inter n T=flatR n T (T.map List.length).sum:=by
   have:=inter_deal hn0 (flatR n T (T.map List.length).sum);rw[←e]at this;exact this
  rw[←h2]at e;exact⟨e,h2.symm⟩
 ·intro h i hi;unfold lies;have ht:=Nat.mod_lt i hn0;have hs:=deal_sum hn0 (inter n T);rw[←h]at hs;have:(T[i % n]?.getD [])=thr n (inter n T) (i % n):=by
   have:=deal_get ht (inter n T);rw[←h]at this;rw[this];rfl
  rw[this,thr_len ht,cnt_lt ht,Nat.mul_comm,Nat.div_add_mod];omega
theorem sum_le64 (hlen:∀(t:Nat) (x:List Cl),T[t]? =some x->x.length<=1000):(T.map List.length).sum<=T.length*1000:=by
 induction T with
 | nil=>simp
 | cons x T ih =>
  have h1:=hlen 0 x rfl;have h2:=ih fun t y h=>hlen (t+1) y h;simp only[List.map_cons,List.sum_cons,List.length_cons,Nat.add_mul];omega
theorem refEnc_s (hS:RScrOk O fs)(hN:64001<N){p:List UInt8}(hT:TV H v0 T)(hl0:low H.length v0)(hp:BS H v1 p)(hl1:low H.length v1)(hlen:∀(t:Nat) (x:List Cl),T[t]? =some x->x.length<=1000) :
  Wp (vr20EncodeS cal O N fs v0 v1 H) (EncP T p H):=by
 unfold vr20EncodeS vr20EncodeC11S vr20EncodeC10S;rw[hT.len,ob_some,lbin_eql,ob_some];have bad:¬(1<=T.length/\T.length<=64/\p.length<=255)->Wp (some ((IV.tuple [.nilSlice,.int .i64 22]),H)) (EncP T p H):=fun h=>Wp.ret ⟨Kp.refl _,.inr ⟨fun c=>h ⟨c.1,c.2.1,c.2.2.1⟩,rfl⟩⟩;by_cases h1:T.length<1
 ·simp only[decide_eq_true (show((T.length:Nat):Int)=0 by omega),isB_tf,gq_false,ob_some,lpick_true,cnd_true];exact bad (by omega)
 simp only[decide_eq_false (show ¬((T.length:Nat):Int)=0 by omega),isB_ff,gq_true,ob_some,hT.len,lbin_gtr,lpick_false];by_cases h2:64<T.length
 ·simp only[decide_eq_true (show(64:Int)<((T.length:Nat):Int) by omega),isB_tf,gq_false,ob_some,lpick_true,cnd_true];exact bad (by omega)
 simp only[decide_eq_false (show ¬(64:Int)<((T.length:Nat):Int) by omega),isB_ff,gq_true,ob_some,lpick_false,hp.len,lbin_gtr];refine Wp.dec (fun h=>bad (by omega)) (fun h3=> ?_);have hs:=sum_le64 hlen;have hs2:T.length*1000<=64*1000:=Nat.mul_le_mul (by omega) (Nat.le_refl _);unfold vr20EncodeC9S vr20EncodeC8S vr20EncodeC2S vr20EncodeC1S;generalize hn:T.length=n at *;refine ref_len hT hn (by omega) hlen ?_ (by omega) n 0 N (Nat.zero_add _) (by omega);generalize hM:(T.map List.length).sum=M at *;obtain⟨d1,d2⟩:=lies_deal hn (show 0<n by omega) hM;unfold vr20EncodeC7S;dsimp only;have z0:lbldS H 7 0 [(.int .i64 0),(.int .i64 0),(.int .i64 0),(.int .i64 0),(.int .i64 0),(.str []),(.str [])] []=some (.slice H.length 0 0 0 true 7,H++[.row [] false]):=rfl;rw[z0,ob_some];simp only;unfold vr20EncodeC6S vr20EncodeC5S vr20EncodeC4S;refine ref_calls (H0:=H) hT hn (by omega) (by omega) (fun w H1 k1 hli b1=> ?_) (fun H1 k1 ⟨i,hi,hli⟩=>⟨k1,.inr ⟨fun c=>hli ?_,rfl⟩⟩) M 0 N _ _ (Nat.zero_add _) (by omega) (Kp.push _ _) (fun j hj=>by omega) (newBuf 7 H)
 ·obtain⟨e1,e2⟩:=d1 hli;rw[e2]at b1;refine Wp.call (hS H1 w _ b1.low b1.calls) ?_;rintro⟨r,H2⟩ ⟨k2,h⟩;have kk:=Kp.tr k1 k2;simp only at h k2 kk ⊢;rcases h with⟨ok,v',rfl,hb,hl⟩ | ⟨ok,rfl⟩
  ·have z:decide ((0:Int)=0)=true:=rfl;have ws:IntKind.wrap .i64 ((n:Int) - 1)=(n:Int) - 1:=wrap_i64 (by omega) (by omega);simp only[iextract_tuple,List.getElem?_cons_zero,List.getElem?_cons_succ,ob_some,lbin_neq,z,Bool.not_true,cnd_false,(hT.keep kk).len,hn,lbin_sub,ws,lcvt_int,wrap_u8,(hp.keep' hl1 kk).len];have hz:∀x y:UInt8,lbldS H2 1 2 [(.int .u8 0)] [(0,.int .u8 (x.toNat:Int)),(1,.int .u8 (y.toNat:Int))]=some (.slice H2.length 0 2 2 true 1,H2++[.row (bytes [x,y]) false]):=fun _ _=>rfl;obtain⟨w1,K1,w2,K2,c1,c2,c3,c4,c5⟩:=enc_tail (x:=ub ((n:Int) - 1)) (y:=ub (p.length:Int)) (hp.keep' hl1 kk) (by omega) (low_mono hl1 kk.2) hb hl (encs_okLen ok);simp only[hz,ob_some,c1,c2];refine Wp.ret ⟨Kp.tr kk c5,.inl ⟨⟨by omega,by omega,by omega,by rw[hn];exact e1,by rw[hn];exact ok⟩,w2,rfl,?_,c4⟩⟩;unfold encB;rw[hn];exact c3
  ·have z:decide ((22:Int)=0)=false:=rfl;simp only[iextract_tuple,List.getElem?_cons_zero,List.getElem?_cons_succ,ob_some,lbin_neq,z,Bool.not_false,cnd_true];refine Wp.ret ⟨kk,.inr ⟨fun c=> ?_,rfl⟩⟩;have:=c.2.2.2.2;rw[hn,ok]at this;cases this
 ·have:=c.2.2.2.1;rw[hn]at this;exact d2 this i hi
end
end Go.Shade
namespace Go.Shade
variable {H H0 : Heap} {R : Out -> Prop} {bs : List UInt8} {v : IV}
theorem rdT_pad {m:Nat}:rdT bs 2 m=padN m (bs.drop 2):=by
 apply List.ext_getElem?;intro i;by_cases h:i<m
 ·rw[padN_get h];simp[rdT,h,List.getD_eq_getElem?_getD]
 ·rw[List.getElem?_eq_none (by rw[rdT_length];omega),List.getElem?_eq_none (by rw[padN_len];omega)]
theorem app_byte {B:Nat}{w:IV}{L:List UInt8}(hw:Buf B 1 H w (bytes L))(hB:B<=H.length)(hL:L.length<=1000000)(x:UInt8) :
  ∃w' H',lapp (H++[IObj.row (bytes [x]) false]) 1 1 w (.slice H.length 0 1 1 true 1)=some (w',H')/\Buf B 1 H' w' (bytes (L++[x]))/\Keep B H H':=by
 have k1:Keep H.length H (H++[IObj.row (bytes [x]) false]):=Keep.push _ _ (Nat.le_refl _);have hw1:=hw.keep k1 fun r n m ex e=>by
  rcases hw with⟨e',_⟩ | ⟨r',n',ex',e',_,hr,_⟩
  ·rw[e]at e';cases e'
  ·rw[e]at e';cases e';exact(ges hr).1
 have hx:BS (H++[IObj.row (bytes [x]) false]) (.slice H.length 0 1 1 true 1) [x] :=
  ((show Buf 0 1 _ _ _ from .inr ⟨_,1,true,rfl,Nat.zero_le _,newRow,rfl⟩):Buf 0 1 (H++[IObj.row (bytes [x]) false]) (.slice H.length 0 1 1 true 1) (bytes [x])).bs.1
 obtain⟨w',H',a1,a2,a3⟩:=app_bs hw1 (Nat.le_trans hB k1.2) hx (by simp;omega);exact⟨w',H',a1,a2,(k1.mono hB).trans a3⟩
def R20DecOk (O:Oracle)(f:FuncId):Prop:=∀(H:Heap) (v:IV) (bs:List UInt8),low H.length v->BS H v bs->bs.length<=16384->Wp (O f [v] H) fun r=>∃tv pv,r.1=.tuple [tv,pv]/\TV r.2 tv (deal (scN bs) (scL bs))/\BS r.2 pv (scP bs)/\Kp H r.2
section
variable {cal : FuncId -> Bool} {O : Oracle} {N : Nat} {fa fd : FuncId}
theorem at20_s (hb:BS H v bs)(i:Nat):vr20AtS cal O N v (.int .i64 (i:Nat)) H=some (.int .i64 ((bs.getD i 0).toNat:Int),H):=ref_at (cal:=cal) (O:=O) (N:=N) hb i
theorem rd_picks (ha:RAtOk O fa){v0 v4:IV}{m:Nat}{gE:IV->IV->IV->IV->Heap->Option (IV×Heap)}(hl:low H0.length v0)(hb:BS H0 v0 bs)(hm:m<=255)
  (hE:∀w H,Kp H0 H->Buf H0.length 1 H w (bytes (rdT bs 2 m))->Wp (gE v0 v4 (.int .i64 (m:Nat)) w H) R) :
  ∀(d i k:Nat) (w:IV) (H:Heap),i+d=m->d<k->Kp H0 H->Buf H0.length 1 H w (bytes (rdT bs 2 i))->Wp (vr20DecodeC0S cal O N fa fd gE k v0 v4 (.int .i64 (m:Nat)) w (.int .i64 (i:Nat)) H) R:=by
 intro d
 induction d with
 | zero =>
  intro i k w H hi hk hK hw;obtain⟨k,rfl⟩:∃j,k=j+1:=⟨k - 1,by omega⟩;obtain rfl:i=m:=by omega
  rw[vr20DecodeC0S,lbin_lss,ob_some,decide_eq_false (by omega),cnd_false];exact hE w H hK hw
 | succ d ih =>
  intro i k w H hi hk hK hw;obtain⟨k,rfl⟩:∃j,k=j+1:=⟨k - 1,by omega⟩;have wi:IntKind.wrap .i64 ((i:Int)+1)=((i+1:Nat):Int):=by rw[wrap_i64 (by omega) (by omega)];omega
  have w2:IntKind.wrap .i64 (2+(i:Int))=((2+i:Nat):Int):=by rw[wrap_i64 (by omega) (by omega)];omega
  have hz:∀x:UInt8,lbldS H 1 1 [(.int .u8 0)] [(0,.int .u8 (x.toNat:Int))]=some (.slice H.length 0 1 1 true 1,H++[.row (bytes [x]) false]):=fun _=>rfl;obtain⟨w',H',c1,c2,c3⟩:=app_byte hw hK.2 (by rw[rdT_length];omega) (bs.getD (2+i) 0);rw[vr20DecodeC0S,lbin_lss,ob_some,decide_eq_true (by omega),cnd_true];simp only[lbin_add,w2,ob_some,ha H v0 bs (2+i) (hb.keep' hl hK),lcvt_int,wrap_u8,ub_toNat,hz,c1,wi];exact ih (i+1) k w' H' (by omega) (by omega) (hK.trans c3) (by rw[rdT_succ];exact c2)
theorem rd_rest {v0 v4 v6:IV}{a:Nat}{gE:IV->IV->IV->Heap->Option (IV×Heap)}(hl:low H0.length v0)(hb:BS H0 v0 bs)(hbl:bs.length<=16384)(hE:∀w H,Kp H0 H->Buf H0.length 1 H w (bytes (bs.drop a))->Wp (gE v4 v6 w H) R) :
  ∀(d i k:Nat) (w:IV) (H:Heap),a+i+d=max bs.length (a+i)->d<k->Kp H0 H->Buf H0.length 1 H w (bytes ((bs.drop a).take i))->a<=1000->i<=16384->Wp (vr20DecodeC3S cal O N fa fd gE k v0 v4 v6 w (.int .i64 ((a+i:Nat):Int)) H) R:=by
 intro d
 induction d with
 | zero =>
  intro i k w H hi hk hK hw ha hi2;obtain⟨k,rfl⟩:∃j,k=j+1:=⟨k - 1,by omega⟩;rw[vr20DecodeC3S,(hb.keep' hl hK).len,ob_some,lbin_lss,ob_some,decide_eq_false (by omega),cnd_false];rw[List.take_of_length_le (by rw[List.length_drop];omega)]at hw;exact hE w H hK hw
 | succ d ih =>
  intro i k w H hi hk hK hw ha hi2;obtain⟨k,rfl⟩:∃j,k=j+1:=⟨k - 1,by omega⟩;have hlt:a+i<bs.length:=by omega
  have wi:IntKind.wrap .i64 (((a+i:Nat):Int)+1)=((a+(i+1):Nat):Int):=by rw[wrap_i64 (by omega) (by omega)];omega
  have hz:∀x:UInt8,lbldS H 1 1 [(.int .u8 0)] [(0,.int .u8 (x.toNat:Int))]=some (.slice H.length 0 1 1 true 1,H++[.row (bytes [x]) false]):=fun _=>rfl;obtain⟨p,e1,e2⟩:=(hb.keep' hl hK).at hlt;obtain⟨w',H',c1,c2,c3⟩:=app_byte hw hK.2 (by rw[List.length_take];omega) (bs.getD (a+i) 0);rw[vr20DecodeC3S,(hb.keep' hl hK).len,ob_some,lbin_lss,ob_some,decide_eq_true (by omega),cnd_true];simp only[e1,e2,ob_some,hz,c1,lbin_add,wi];refine ih (i+1) k w' H' (by omega) (by omega) (hK.trans c3) ?_ ha (by omega);have:(bs.drop a).take (i+1)=(bs.drop a).take i++[bs.getD (a+i) 0]:=by
   rw[List.take_add_one,List.getElem?_drop,List.getD_eq_getElem?_getD,List.getElem?_eq_getElem hlt];rfl
  rw[this];exact c2
theorem rd_thr {n t:Nat}{l:List Cl}{v10 v6 v11:IV}{H0:Heap}{gE:IV->IV->IV->IV->IV->IV->Heap->Option (IV×Heap)}{R:Out->Prop}(hn:t<n)(hn64:n<=64)(hl:low H0.length v10)(hc:CS H0 v10 l)(hll:l.length<=200)
  (hE:∀w H,Kp H0 H->Buf H0.length 7 H w (flat7 (thr n l t))->Wp (gE (.int .i64 (n:Nat)) v6 v10 v11 (.int .i64 (t:Nat)) w H) R) :
  ∀(d j k:Nat) (w:IV) (H:Heap),j+d=(thr n l t).length->d<k->Kp H0 H->Buf H0.length 7 H w (flat7 ((thr n l t).take j)) ->
   Wp (vr20DecodeC6S cal O N fa fd gE k (.int .i64 (n:Nat)) v6 v10 v11 (.int .i64 (t:Nat)) w (.int .i64 ((j*n+t:Nat):Int)) H) R:=by
 have hlen:=thr_len hn l;have hdl:(l.length+(n - 1 - t)) / n<=l.length+(n - 1 - t):=Nat.div_le_self _ _;intro d
 induction d with
 | zero =>
  intro j k w H hi hk hK hw;obtain⟨k,rfl⟩:∃j,k=j+1:=⟨k - 1,by omega⟩;have:¬j*n+t<l.length:=fun h=>by have:=(cnt_lt hn).2 h;omega
  rw[vr20DecodeC6S,(hc.keep' hl hK).len,ob_some,lbin_lss,ob_some,decide_eq_false (by omega),cnd_false];rw[List.take_of_length_le (by omega)]at hw;exact hE w H hK hw
 | succ d ih =>
  intro j k w H hi hk hK hw;obtain⟨k,rfl⟩:∃j,k=j+1:=⟨k - 1,by omega⟩;have hlt:j*n+t<l.length:=(cnt_lt hn).1 (by omega);have gc:=getE hlt;have gt:=thr_get hn l j;rw[gc]at gt;obtain⟨b,o,x1,x2⟩:=(hc.keep' hl hK).at gc;generalize l[j*n+t]=c at *;have hz:lbldS H 7 1 [(.int .i64 0),(.int .i64 0),(.int .i64 0),(.int .i64 0),(.int .i64 0),(.str []),(.str [])] [(0,.agg c.cells)]=some (.slice H.length 0 1 1 true 7,H++[.row c.cells false]):=rfl;obtain⟨w',H',c1,c2,c3⟩:=app_call hw hK.2 (by rw[List.length_take];omega) c;have wi:IntKind.wrap .i64 (((j*n+t:Nat):Int)+(n:Nat))=(((j+1)*n+t:Nat):Int):=by rw[wrap_i64 (by omega) (by omega),Nat.add_mul];omega
  rw[vr20DecodeC6S,(hc.keep' hl hK).len,ob_some,lbin_lss,ob_some,decide_eq_true (by omega),cnd_true];simp only[x1,x2,ob_some,hz,c1,lbin_add,wi];refine ih (j+1) k w' H' (by omega) (by omega) (hK.trans c3) ?_;rw[List.take_add_one,gt,Option.toList_some];exact c2
structure Thrs (B n:Nat)(l:List Cl)(H:Heap)(v:IV)(t:Nat):Prop where
 mk':∃q ws,B<=q/\TS 1 (fun j=>q<=j/\j<H.length) H v ws/\ws.length=t/\q<=H.length/\∀i w,ws[i]? =some w->CS H w (thr n l i)/\low q w
theorem Thrs.tv {B n:Nat}{l:List Cl}(h:Thrs B n l H v n):TV H v (deal n l):=by
 obtain⟨q,ws,h0,h1,h2,h3,h4⟩:=h.mk';rcases h1 with⟨rfl,e⟩ | ⟨r,k,ex,rfl,g1,g2,g3⟩
 ·subst e;refine .inl ⟨rfl,?_⟩;simp only[List.length_nil]at h2;subst h2;rfl
 ·have hk:k=n:=by omega
  subst hk;refine .inr ⟨r,0,k,k,ex,1,rfl,(ges g2).1,Nat.le_refl _,.inr rfl,deal_len _ _,fun t c hc=> ?_⟩;have ht:t<k:=by have:=(ges hc).1;rw[deal_len]at this;exact this
  rw[deal_get ht]at hc
  cases hc
  have gw:=List.getElem?_eq_getElem (l:=ws) (i:=t) (by omega);obtain⟨q1,q2⟩:=h4 t _ gw;exact⟨_,by rw[lload1_ptr,g2,Nat.zero_add];exact gw,q1,low_mono q2 h3⟩
theorem rd_thrs {n:Nat}{l:List Cl}{v10 v6:IV}{gE:IV->IV->Heap->Option (IV×Heap)}(hN:300<N)(hn64:n<=64)(hl:low H0.length v10)(hc:CS H0 v10 l)(hll:l.length<=200)(hE:∀w H,Kp H0 H->Thrs H0.length n l H w n->Wp (gE v6 w H) R) :
  ∀(d t k:Nat) (w:IV) (H:Heap),t+d=n->d<k->Kp H0 H->Thrs H0.length n l H w t ->
   Wp (vr20DecodeC14S cal O N fa fd gE k (.int .i64 (n:Nat)) v6 v10 w (.int .i64 (t:Nat)) H) R:=by
 intro d
 induction d with
 | zero =>
  intro t k w H hi hk hK hw;obtain⟨k,rfl⟩:∃j,k=j+1:=⟨k - 1,by omega⟩;obtain rfl:t=n:=by omega
  rw[vr20DecodeC14S,vr20DecodeC13S,lbin_lss,ob_some,decide_eq_false (by omega),cnd_false];exact hE w H hK hw
 | succ d ih =>
  intro t k w H hi hk hK hw;obtain⟨k,rfl⟩:∃j,k=j+1:=⟨k - 1,by omega⟩;rw[vr20DecodeC14S,vr20DecodeC13S,lbin_lss,ob_some,decide_eq_true (by omega),cnd_true];unfold vr20DecodeC12S vr20DecodeC11S vr20DecodeC10S;have z0:lbldS H 7 0 [(.int .i64 0),(.int .i64 0),(.int .i64 0),(.int .i64 0),(.int .i64 0),(.str []),(.str [])] []=some (.slice H.length 0 0 0 true 7,H++[.row [] false]):=rfl;rw[z0,ob_some];simp only;unfold vr20DecodeC9S vr20DecodeC8S vr20DecodeC7S;have hlen:=thr_len (show t<n by omega) l;have hdl:(l.length+(n - 1 - t)) / n<=l.length+(n - 1 - t):=Nat.div_le_self _ _;have z1:(IV.int .i64 (t:Nat))=.int .i64 ((0*n+t:Nat):Int):=by rw[Nat.zero_mul,Nat.zero_add]
  have key:=rd_thr (cal:=cal) (O:=O) (N:=N) (fa:=fa) (fd:=fd) (v6:=v6) (v11:=w) (R:=R) (H0:=H) (show t<n by omega) hn64 (low_mono hl hK.2) (hc.keep' hl hK) hll
   (gE:=fun v4 v6 v10 v11 v12 v13 H=>ob (lbldS H 1 1 [.nilSlice] [(0,v13)]) fun r1=>ob (lapp r1.2 1 24 v11 r1.1) fun r2=>ob (lbin .add v12 (.int .i64 1)) fun t1=>vr20DecodeC14S cal O N fa fd gE k v4 v6 v10 r2.1 t1 r2.2)
   (fun u H1 k1 b1=> ?_) (thr n l t).length 0 N (.slice H.length 0 0 0 true 7) (H++[.row [] false]) (Nat.zero_add _) (by omega) (Kp.push _ _) (newBuf 7 H)
  ·rw[←z1]at key;exact key
  ·skip
   have hu:u.one=true:=b1.one;have z2:lbldS H1 1 1 [.nilSlice] [(0,u)]=some (.slice H1.length 0 1 1 true 1,H1++[.row [u] false]):=by
    cases u<;>first | rfl | (simp[IV.one]at hu)
   rw[z2,ob_some];simp only;obtain⟨q,ws,h0,h1,h2,h3,h4⟩:=hw.mk';have kf:Frame NoF H (H1++[IObj.row [u] false]):=(Keep.frame' k1:Frame NoF H H1).tr (Frame.push _ _ _);have h1':=h1.frame kf fun _ _ h=>h;have hc1:lxcells (H1++[IObj.row [u] false]) 1 (.slice H1.length 0 1 1 true 1) 1=some [u]:=Buf.cells (B:=0) (.inr ⟨_,1,true,rfl,Nat.zero_le _,newRow,rfl⟩) rfl;obtain⟨⟨w',H2⟩,a1,a2,a3⟩:=h1'.app (b:=24) (by decide) (show xlen (.slice H1.length 0 1 1 true 1)=some 1 from rfl) hc1 rfl (by simp[hu]) (by omega);simp only at a2 a3;have wi:IntKind.wrap .i64 ((t:Int)+1)=((t+1:Nat):Int):=by rw[wrap_i64 (by omega) (by omega)];omega
   rw[a1,ob_some];simp only[lbin_add,ob_some,wi];have f2:Frame (fun j=>q<=j/\j<H.length) H H2:=kf.no.tr a2;have hle:H.length<=(H1++[IObj.row [u] false]).length:=kf.1;have hle2:(H1++[IObj.row [u] false]).length<=H2.length:=a2.1;refine ih (t+1) k w' H2 (by omega) (by omega) ?_ ⟨_,ws++[u],by have:=hK.2;omega,a3,by simp[h2],hle2,fun i x hx=> ?_⟩
   ·refine⟨fun i hi=> ?_,by have:=hK.2;omega⟩;rw[f2.2 i (by have:=hK.2;omega) (fun h=>by omega)];exact hK.1 i hi
   ·rcases Nat.lt_or_ge i ws.length with c | c
    ·rw[List.getElem?_append_left c]at hx;obtain⟨q1,q2⟩:=h4 i x hx;exact⟨q1.keepB q2 fun j hj=>f2.2 j (by omega) (fun h=>by omega),low_mono q2 (by omega)⟩
    ·rw[List.getElem?_append_right c]at hx;have hi0:i=t:=by
      have:=(ges hx).1;simp at this;omega
     subst hi0;rw[h2,Nat.sub_self,List.getElem?_cons_zero]at hx
     cases hx
     have bb:=b1.frame (Frame.push (fun _=>False) H1 [IObj.row [u] false]) (fun _ h=>h.elim);have b2:=bb.frame a2 fun j hj=>.inl hj.2;exact⟨b2.calls,low_mono bb.low (Nat.le_refl _)⟩
theorem refDec_s (ha:RAtOk O fa)(hD:RDecOk O fd)(hN:17000<N)(hl:low H.length v)(hb:BS H v bs)(hbl:bs.length<=16384) :
  Wp (vr20DecodeS cal O N fa fd v H) fun r=>∃tv pv,r.1=.tuple [tv,pv]/\TV r.2 tv (deal (scN bs) (scL bs))/\BS r.2 pv (scP bs)/\Kp H r.2:=by
 unfold vr20DecodeS vr20DecodeC26S vr20DecodeC25S;have c0:(bs.getD 0 0).toNat<256:=(bs.getD 0 0).toNat_lt;have c1:(bs.getD 1 0).toNat<256:=(bs.getD 1 0).toNat_lt;have hnn:lbin .rem (.int .i64 ((bs.getD 0 0).toNat:Int)) (.int .i64 64)=some (.int .i64 (((bs.getD 0 0).toNat % 64:Nat):Int)):=by
  rw[lbin_rem (by omega),Int.tmod_eq_emod_of_nonneg (by omega)];rfl
 have hadd:lbin .add (.int .i64 1) (.int .i64 (((bs.getD 0 0).toNat % 64:Nat):Int))=some (.int .i64 ((scN bs:Nat):Int)):=by
  rw[lbin_add,wrap_i64 (by omega) (by omega)];unfold scN
  congr 2
 have hsn:0<scN bs/\scN bs<=64:=by unfold scN;omega
 have a0:=ha H v bs 0 hb;have a1:=ha H v bs 1 hb;rw[show(IV.int .i64 ((0:Nat):Int))=.int .i64 0 from rfl]at a0;rw[show(IV.int .i64 ((1:Nat):Int))=.int .i64 1 from rfl]at a1;rw[a0,ob_some];simp only[hnn,hadd,ob_some];unfold vr20DecodeC24S;rw[a1,ob_some];simp only;have hm:scM bs<=255:=by unfold scM;omega
 rw[show((bs.getD 1 0).toNat:Int)=((scM bs:Nat):Int)from rfl];generalize hM:scM bs=m at *;generalize hn:scN bs=n at *;have hP:scP bs=rdT bs 2 m:=by rw[rdT_pad];unfold scP;rw[hM]
 have hL:scL bs=dec 200 (bs.drop (2+m)):=by unfold scL;rw[hM,List.drop_drop]
 have hll:(scL bs).length<=200:=dec_len 200 _;unfold vr20DecodeC23S;have z0:∀K:Heap,lbldS K 1 0 [(.int .u8 0)] []=some (.slice K.length 0 0 0 true 1,K++[.row [] false]):=fun _=>rfl;rw[z0,ob_some];simp only;unfold vr20DecodeC22S vr20DecodeC2S vr20DecodeC1S;refine rd_picks (m:=m) ha hl hb hm (fun w H1 k1 b1=> ?_) m 0 N _ _ (Nat.zero_add _) (by omega) (Kp.push _ _) (newBuf 1 H);unfold vr20DecodeC21S;dsimp only;rw[z0,ob_some];simp only;unfold vr20DecodeC20S vr20DecodeC5S;have w2:IntKind.wrap .i64 (2+(m:Int))=((2+m:Nat):Int):=by rw[wrap_i64 (by omega) (by omega)];omega
 rw[lbin_add,ob_some,w2];unfold vr20DecodeC4S;have kA:=Kp.tr k1 (Kp.push H1 [IObj.row [] false]);have key:=rd_rest (cal:=cal) (O:=O) (N:=N) (fa:=fa) (fd:=fd) (a:=2+m) (H0:=H1) (v4:=.int .i64 (n:Nat)) (v6:=w) (gE:=fun v4 v6 v8 H=>vr20DecodeC19S cal O N fa fd v4 v6 v8 H)
  (R:=fun r=>∃tv pv,r.1=.tuple [tv,pv]/\TV r.2 tv (deal n (scL bs))/\BS r.2 pv (scP bs)/\Kp H r.2)
  (low_mono hl k1.2) (hb.keep' hl k1) hbl (fun u H2 k2 b2=> ?_) (max bs.length (2+m) - (2+m)) 0 N (.slice H1.length 0 0 0 true 1) (H1++[.row [] false]) (by omega) (by omega) (Kp.push _ _) (by rw[List.take_zero];exact newBuf 1 H1) (by omega) (by omega)
 ·exact key
 have k12:=Kp.tr k1 k2;unfold vr20DecodeC19S;have hrl:(bs.drop (2+m)).length<=65536:=by rw[List.length_drop];omega
 refine Wp.call (hD H2 u _ b2.low b2.bs.1 hrl) ?_;rintro⟨cv,H3⟩ ⟨c3,l3,k3⟩;rw[←hL]at c3;simp only at c3 l3 k3 ⊢;unfold vr20DecodeC18S;have z1:lbldS H3 1 0 [.nilSlice] []=some (.slice H3.length 0 0 0 true 1,H3++[.row [] false]):=rfl;rw[z1,ob_some];simp only;unfold vr20DecodeC17S vr20DecodeC16S vr20DecodeC15S;have hw1:BS H1 w (scP bs):=by rw[hP];exact b1.bs.1
 refine rd_thrs (H0:=H3) (l:=scL bs) (by omega) hsn.2 l3 c3 hll (fun x H4 k4 t4=> ?_) n 0 N _ _ (Nat.zero_add _) (by omega) (Kp.push _ _) ⟨H3.length,[],Nat.le_refl _,.inr ⟨_,0,true,rfl,⟨Nat.le_refl _,by simp⟩,newRow,rfl⟩,rfl,by simp,fun i w h=>by simp at h⟩;have k24:=Kp.tr k2 (Kp.tr k3 k4);exact Wp.ret ⟨_,_,rfl,t4.tv,hw1.keep' b1.low k24,Kp.tr k1 k24⟩
end
end Go.Shade
namespace Go.Shade
variable {H : Heap} {R : Out -> Prop} {T : List (List Cl)} {bs : List UInt8} {l : List Cl} {n : Nat} {v v0 v1 : IV}
theorem sc_enc {p:List UInt8}(h:encOk T p)(more:List UInt8) :
  scN (encB T p++more)=T.length/\scM (encB T p++more)=p.length/\scP (encB T p++more)=p/\scL (encB T p++more)=inter T.length T++dec (200 - (inter T.length T).length) more:=by
 obtain⟨h1,h2,h3,h4,h5⟩:=h;have e:encB T p++more=ub ((T.length:Int) - 1)::ub (p.length:Int)::(p++(encs (inter T.length T)++more)):=by simp[encB]
 have n1:=ub_val (x:=(T.length:Int) - 1) (by omega) (by omega);have n2:=ub_val (x:=(p.length:Int)) (by omega) (by omega);rw[e];generalize inter T.length T=L at *;have hM:∀a b:UInt8,∀r:List UInt8,scM (a::b::r)=b.toNat:=fun _ _ _=>rfl;have hN:∀a b:UInt8,∀r:List UInt8,scN (a::b::r)=1+a.toNat % 64:=fun _ _ _=>rfl;have hP:∀a b:UInt8,∀r:List UInt8,scP (a::b::r)=padN b.toNat r:=fun _ _ _=>rfl;have hL:∀a b:UInt8,∀r:List UInt8,scL (a::b::r)=dec 200 (r.drop b.toNat):=fun _ _ _=>rfl;have e2:(ub (p.length:Int)).toNat=p.length:=by omega
 refine⟨by rw[hN];omega,by rw[hM,e2],?_,?_⟩
 ·rw[hP,e2];unfold padN;rw[List.take_left,List.length_append,show p.length - (p.length+(encs L++more).length)=0 by omega,List.replicate_zero,List.append_nil]
 ·obtain⟨q1,q2⟩:=okScr_len h5;rw[hL,e2,List.drop_left];exact dec_encs L 200 more q2 q1
theorem scP_len (bs:List UInt8):(scP bs).length=scM bs:=padN_len _ _
theorem scM_le (bs:List UInt8):scM bs<=255:=by unfold scM;have:=(bs.getD 1 0).toNat_lt;omega
theorem scN_le (bs:List UInt8):0<scN bs/\scN bs<=64:=by unfold scN;omega
theorem enc_dec (bs:List UInt8):encOk (deal (scN bs) (scL bs)) (scP bs):=by
 have hn:=scN_le bs;have hm:=scM_le bs;unfold encOk;rw[deal_len,scP_len,inter_deal hn.1];exact⟨hn.1,hn.2,hm,rfl,okScr_dec _⟩
theorem TV.low {H:Heap}{v:IV}{T:List (List Cl)}(h:TV H v T):Shade.low H.length v:=by
 rcases h with⟨rfl,_⟩ | ⟨b,o,n,lb,ex,sz,rfl,h2,_⟩
 ·exact lowNil
 ·exact lowAt h2
theorem BS.one' {l:List UInt8}(h:BS H v l):v.one=true:=by
 rcases h with⟨rfl,_⟩ | ⟨b,o,n,lb,ex,sz,rfl,_⟩<;>rfl
theorem rowBS {p m:Nat}{l:List UInt8}(h:H[p]? =some (.row (bytes l) false))(hl:l.length=m):BS H (.slice p 0 m m true 1) l/\low H.length (.slice p 0 m m true 1):=by
 have hb:Buf 0 1 H (.slice p 0 m m true 1) (bytes l):=.inr ⟨p,m,true,rfl,Nat.zero_le _,h,by rw[bytes_length];omega⟩;exact⟨hb.bs.1,hb.bs.2.2⟩
theorem deal_lens (hn:0<n)(hl:l.length<=200)(hn64:n<=64):∀(t:Nat) (x:List Cl),(deal n l)[t]? =some x->x.length<=1000:=fun t x h=>by
 have ht:t<n:=by have:=(ges h).1;rw[deal_len]at this;exact this
 rw[deal_get ht]at h
 cases h
 rw[thr_len ht];have:=Nat.div_le_self (l.length+(n - 1 - t)) n;omega
section
variable {cal : FuncId -> Bool} {O : Oracle} {N : Nat} {fa fd fe fs rd re : FuncId}
theorem back20_l (hA:AwkOk O fa)(hD:ScrDecOk O fd)(hE:ScrEncOk O fe)(hS:SameTOk O fs)(hv:v.one=true)(hl:low H.length v)(hb:BS H v bs) :
  Wp (veneerlaw20ScriptBackS cal O N fa fd fe fs v H) fun r=>r.1=.bool true:=by
 unfold veneerlaw20ScriptBackS;simp only[hA H,ob_some,iun_not,Bool.not_true,cnd_false];rw[hb.len,ob_some,lbin_gtr,ob_some];refine Wp.dec (fun _=>Wp.ret rfl) (fun hsz=> ?_);refine Wp.call (hD H v bs hv hl hb) ?_;rintro⟨w,K⟩ ⟨tv,p,rfl,hT,hp,rp,kK⟩;have hn:=scN_le bs;have hll:(scL bs).length<=200:=dec_len 200 _;have ok:=enc_dec bs;obtain⟨pb,pl⟩:=rowBS rp (scP_len bs);simp only[iextract_tuple,List.getElem?_cons_zero,List.getElem?_cons_succ,ob_some]at hT rp pb pl kK ⊢;refine Wp.call (hE K tv _ _ (scP bs) hT hT.low pb pl (deal_lens hn.1 hll hn.2)) ?_;rintro⟨w2,K2⟩ ⟨k2,h⟩;simp only at k2 h ⊢;rcases h with⟨_,v',rfl,hb2,hl2⟩ | ⟨no,_⟩
 rotate_left
 ·exact absurd ok no
 have z:decide ((0:Int)=0)=true:=rfl;simp only[iextract_tuple,List.getElem?_cons_zero,List.getElem?_cons_succ,ob_some,lbin_neq,z,Bool.not_true,cnd_false];refine Wp.call (hD K2 v' _ hb2.one' hl2 hb2) ?_;rintro⟨w3,K3⟩ ⟨tv3,p3,rfl,hT3,hp3,rp3,k3⟩;obtain⟨e1,e2,e3,e4⟩:=sc_enc ok [];rw[List.append_nil]at e1 e2 e3 e4;rw[deal_len]at e1 e4;rw[dec_nil',List.append_nil,inter_deal hn.1]at e4;obtain⟨pb3,pl3⟩:=rowBS rp3 (scP_len _);rw[e1,e4]at hT3;rw[e3]at pb3;have k23:=Kp.tr k2 k3;have pk:=pb.keep' pl k23;simp only[iextract_tuple,List.getElem?_cons_zero,List.getElem?_cons_succ,ob_some]at hT3 pb3 k23 pk ⊢;simp only[hS K3 tv tv3 _ _ (hT.keep k23) hT3 (by rw[deal_len];omega) (deal_lens hn.1 hll hn.2),decide_true,isB_tt,gq_true,ob_some,pk.b2s,pb3.b2s,lbin_seq,lpick_true];exact Wp.ret rfl
theorem ahead_in {i:Nat}{k:List Cl}{v5 v9 a1:IV}{gE:IV->IV->IV->IV->Heap->Option (IV×Heap)}(hi:i<n)(h5:TV H v5 (deal n l))(h9:TV H v9 (deal n (l++k)))(hll:(thr n l i).length<=1000)
  (hE:Wp (gE v5 v9 a1 (.int .i64 (i:Nat)) H) R) :
  ∀(d j m:Nat),j+d=(thr n l i).length->d<m->Wp (veneerlaw20ScriptAheadC0S cal O N fa fd fe gE m v5 v9 (.int .i64 (i:Nat)) a1 (.int .i64 (i:Nat)) (.int .i64 ((thr n l i).length:Nat)) (.int .i64 (j:Nat)) H) R:=by
 obtain⟨p,w,b1,b2,b3,b4⟩:=h5.call (deal_get hi l);obtain⟨q,u,c1,c2,c3,c4⟩:=h9.call (deal_get hi (l++k));intro d
 induction d with
 | zero =>
  intro j m hj hm;obtain⟨m,rfl⟩:∃j,m=j+1:=⟨m - 1,by omega⟩;rw[veneerlaw20ScriptAheadC0S,lbin_lss,ob_some,decide_eq_false (by omega),cnd_false];exact hE
 | succ d ih =>
  intro j m hj hm;obtain⟨m,rfl⟩:∃j,m=j+1:=⟨m - 1,by omega⟩;have hlt:j<(thr n l i).length:=by omega
  have g1:=getE hlt;have g2:=(thr_app hi l k hlt).trans g1;obtain⟨r,x1,x2⟩:=b4 j _ g1;obtain⟨s,y1,y2⟩:=c4 j _ g2;have wi:IntKind.wrap .i64 ((j:Int)+1)=((j+1:Nat):Int):=by rw[wrap_i64 (by omega) (by omega)];omega
  rw[veneerlaw20ScriptAheadC0S,lbin_lss,ob_some,decide_eq_true (by omega),cnd_true];simp only[b1,b2,c1,c2,x1,x2,y1,y2,ob_some,call_eq,leqv_t,decide_true,Bool.not_true,cnd_false,lbin_add,wi];exact ih (j+1) m (by omega) (by omega)
theorem ahead_out {k:List Cl}{v5 v9:IV}(hN:1000<N)(hn:n<=64)(h5:TV H v5 (deal n l))(h9:TV H v9 (deal n (l++k)))(hll:∀i,i<n->(thr n l i).length<=1000/\(thr n (l++k) i).length<=1000) :
  ∀(d i m:Nat),i+d=n->d<m->Wp (veneerlaw20ScriptAheadC9S cal O N fa fd fe (fun H=>some (.bool true,H)) m v5 v9 (.int .i64 (n:Nat)) (.int .i64 (i:Nat)) H) fun r=>r.1=.bool true:=by
 intro d
 induction d with
 | zero =>
  intro i m hi hm;obtain⟨m,rfl⟩:∃j,m=j+1:=⟨m - 1,by omega⟩;rw[veneerlaw20ScriptAheadC9S,veneerlaw20ScriptAheadC8S,lbin_lss,ob_some,decide_eq_false (by omega),veneerlaw20ScriptAheadC7S,cnd_false];exact Wp.ret rfl
 | succ d ih =>
  intro i m hi hm;obtain⟨m,rfl⟩:∃j,m=j+1:=⟨m - 1,by omega⟩;have hlt:i<n:=by omega
  obtain⟨p,w,b1,b2,b3,b4⟩:=h5.call (deal_get hlt l);obtain⟨q,u,c1,c2,c3,c4⟩:=h9.call (deal_get hlt (l++k));have hmo:=thr_mono hlt l k;obtain⟨q1,q2⟩:=hll i hlt;rw[veneerlaw20ScriptAheadC9S,veneerlaw20ScriptAheadC8S,lbin_lss,ob_some,decide_eq_true (by omega),veneerlaw20ScriptAheadC7S,cnd_true];unfold veneerlaw20ScriptAheadC6S veneerlaw20ScriptAheadC5S veneerlaw20ScriptAheadC4S veneerlaw20ScriptAheadC3S;simp only[b1,b2,b3,c1,c2,c3,ob_some,lbin_lss];rw[decide_eq_false (by omega),cnd_false];unfold veneerlaw20ScriptAheadC2S veneerlaw20ScriptAheadC1S;simp only[b1,b2,b3,ob_some];refine ahead_in hlt h5 h9 q1 ?_ _ 0 N (Nat.zero_add _) (by omega);have wi:IntKind.wrap .i64 ((i:Int)+1)=((i+1:Nat):Int):=by rw[wrap_i64 (by omega) (by omega)];omega
  simp only[lbin_add,ob_some,wi];exact ih (i+1) m (by omega) (by omega)
theorem ahead20_l (hA:AwkOk O fa)(hD:ScrDecOk O fd)(hE:ScrEncOk O fe)(hN:1000<N){more:List UInt8}(hv:v0.one=true)(hl:low H.length v0)(hb:BS H v0 bs)(hl1:low H.length v1)(hb1:BS H v1 more) :
  Wp (veneerlaw20ScriptAheadS cal O N fa fd fe v0 v1 H) fun r=>r.1=.bool true:=by
 unfold veneerlaw20ScriptAheadS veneerlaw20ScriptAheadC20S veneerlaw20ScriptAheadC19S;simp only[hA H,ob_some,iun_not,Bool.not_true,cnd_false];unfold veneerlaw20ScriptAheadC18S;rw[hb.len,ob_some,lbin_gtr,ob_some];by_cases s0:8192<bs.length
 ·simp only[decide_eq_true (show(8192:Int)<((bs.length:Nat):Int) by omega),isB_tf,gq_false,ob_some,lpick_true,cnd_true];exact Wp.ret rfl
 simp only[decide_eq_false (show ¬(8192:Int)<((bs.length:Nat):Int) by omega),isB_ff,gq_true,ob_some,hb1.len,lbin_gtr,lpick_false];refine Wp.dec (fun _=>Wp.ret rfl) (fun s1=> ?_);unfold veneerlaw20ScriptAheadC17S;refine Wp.call (hD H v0 bs hv hl hb) ?_;rintro⟨w,K⟩ ⟨tv,p,rfl,hT,hp,rp,kK⟩;have hn:=scN_le bs;have hll:(scL bs).length<=200:=dec_len 200 _;have ok:=enc_dec bs;obtain⟨pb,pl⟩:=rowBS rp (scP_len bs);simp only[iextract_tuple,List.getElem?_cons_zero,List.getElem?_cons_succ,ob_some]at hT rp pb pl kK ⊢;unfold veneerlaw20ScriptAheadC16S;refine Wp.call (hE K tv _ _ (scP bs) hT hT.low pb pl (deal_lens hn.1 hll hn.2)) ?_;rintro⟨w2,K2⟩ ⟨k2,h⟩;simp only at k2 h ⊢;rcases h with⟨_,v',rfl,hb2,hl2⟩ | ⟨no,_⟩
 rotate_left
 ·exact absurd ok no
 have z:decide ((0:Int)=0)=true:=rfl;simp only[iextract_tuple,List.getElem?_cons_zero,List.getElem?_cons_succ,ob_some];unfold veneerlaw20ScriptAheadC15S;simp only[ob_some,lbin_neq,z,Bool.not_true,cnd_false];unfold veneerlaw20ScriptAheadC14S;have z0:∀K:Heap,lbldS K 1 0 [(.int .u8 0)] []=some (.slice K.length 0 0 0 true 1,K++[.row [] false]):=fun _=>rfl;rw[z0,ob_some];simp only;have hbl:(encB (deal (scN bs) (scL bs)) (scP bs)).length<=2000000:=by
  unfold encB;have:=encs_okLen ok.2.2.2.2;have h3:=ok.2.2.1;simp only[List.length_cons,List.length_append];omega
 have k3:Kp K2 (K2++[IObj.row [] false]):=Kp.push _ _;obtain⟨x1,K3,a1,b1,q1⟩:=app_bs (acc:=[]) (newBuf 1 K2) k3.2 (hb2.keep' hl2 k3) (by simp;omega);have k4:Kp K2 K3:=k3.trans q1;have kA:Kp H K2:=Kp.tr kK k2;obtain⟨x2,K4,a2,b2,q2⟩:=app_bs b1 k4.2 ((hb1.keep' hl1 kA).keep' (low_mono hl1 kA.2) k4) (by simp;omega);have k5:Kp K2 K4:=k4.trans q2;rw[a1,ob_some];simp only;rw[a2,ob_some];simp only;rw[List.nil_append]at b2;obtain⟨g1,g2,g3⟩:=b2.bs;refine Wp.call (hD K4 x2 _ g2 g3 g1) ?_;rintro⟨w5,K5⟩ ⟨tv5,p5,rfl,hT5,hp5,rp5,k6⟩;obtain⟨e1,e2,e3,e4⟩:=sc_enc ok more;rw[deal_len]at e1 e4;rw[inter_deal hn.1]at e4;obtain⟨pb5,pl5⟩:=rowBS rp5 (scP_len _);have hl5:(scL (encB (deal (scN bs) (scL bs)) (scP bs)++more)).length<=200:=dec_len 200 _;rw[e4]at hl5;rw[e1,e4]at hT5;rw[e3]at pb5;have kk:=Kp.tr k2 (Kp.tr k5 k6);have pk:=pb.keep' pl kk;have hT':=hT.keep kk;simp only[iextract_tuple,List.getElem?_cons_zero,List.getElem?_cons_succ,ob_some]at hT5 pb5 pk hT' ⊢;unfold veneerlaw20ScriptAheadC13S;generalize dec (200 - (scL bs).length) more=ex at *;have z2:decide (((scN bs:Nat):Int)=((scN bs:Nat):Int))=true:=decide_eq_true rfl;simp only[hT5.len,hT'.len,deal_len,ob_some,lbin_neq,z2,Bool.not_true,isB_ff,gq_true,pk.b2s,pb5.b2s,lbin_sneq,decide_true,lpick_false,cnd_false];unfold veneerlaw20ScriptAheadC12S veneerlaw20ScriptAheadC11S veneerlaw20ScriptAheadC10S;simp only[hT'.len,deal_len,ob_some];refine ahead_out hN hn.2 hT' hT5 (fun i hi=>⟨?_,?_⟩) _ 0 N (Nat.zero_add _) (by omega)
 ·exact deal_lens hn.1 hll hn.2 i _ (deal_get hi _)
 ·exact deal_lens hn.1 hl5 hn.2 i _ (deal_get hi _)
theorem xor_u8 (a:Int):∃y,lbin .xor (.int .u8 a) (.int .u8 1)=some (.int .u8 y):=⟨_,rfl⟩
theorem dec_flip {v3:IV}{p m:Nat}{K:Heap}{gE:IV->IV->Heap->Option (IV×Heap)}(hm:m<=255)(hE:∀H,Keep p K H->Wp (gE v0 v3 H) R) :
  ∀(d i k:Nat) (H:Heap),i+d=m->d<k->Keep p K H->(∃cs,H[p]? =some (.row cs false)/\cs.length=m/\∀j,j<m->∃a,cs[j]? =some (.int .u8 a)) ->
   Wp (veneerlaw20ScriptDecodesC0S cal O N fa fd rd fs gE k v0 v3 (.slice p 0 m m true 1) (.int .i64 (m:Nat)) (.int .i64 (i:Nat)) H) R:=by
 intro d
 induction d with
 | zero =>
  intro i k H hi hk hK hr;obtain⟨k,rfl⟩:∃j,k=j+1:=⟨k - 1,by omega⟩;rw[veneerlaw20ScriptDecodesC0S,lbin_lss,ob_some,decide_eq_false (by omega),cnd_false];exact hE H hK
 | succ d ih =>
  intro i k H hi hk hK ⟨cs,r1,r2,r3⟩;obtain⟨k,rfl⟩:∃j,k=j+1:=⟨k - 1,by omega⟩;have hix:lix 1 (.slice p 0 m m true 1) (.int .i64 (i:Nat))=some (.ptr p i):=by
   rw[lix_slice,if_pos (by omega),Int.toNat_natCast,Nat.mul_one,Nat.zero_add]
  obtain⟨a,ha⟩:=r3 i (by omega);obtain⟨y,hy⟩:=xor_u8 a;have hld:lload1 H (.ptr p i)=some (.int .u8 a):=by rw[ld1 r1];exact ha
  have wi:IntKind.wrap .i64 ((i:Int)+1)=((i+1:Nat):Int):=by rw[wrap_i64 (by omega) (by omega)];omega
  rw[veneerlaw20ScriptDecodesC0S,lbin_lss,ob_some,decide_eq_true (by omega),cnd_true];simp only[hix,hld,ob_some,hy];rw[st1 r1 rfl (by omega),ob_some];simp only[lbin_add,ob_some,wi];refine ih (i+1) k _ (by omega) (by omega) (hK.trans (Keep.set _ _ (Nat.le_refl _))) ⟨_,setAt r1,by simp[r2],fun j hj=> ?_⟩;rw[List.getElem?_set];by_cases e:i=j
  ·rw[if_pos e,if_pos (by omega)];exact⟨y,rfl⟩
  ·rw[if_neg e];exact r3 j hj
theorem decodes20_l (hA:AwkOk O fa)(hD:ScrDecOk O fd)(hR:R20DecOk O rd)(hS:SameTOk O fs)(hN:1000<N)(hl:low H.length v)(hb:BS H v bs) :
  Wp (veneerlaw20ScriptDecodesS cal O N fa fd rd fs v H) fun r=>r.1=.bool true:=by
 unfold veneerlaw20ScriptDecodesS veneerlaw20ScriptDecodesC10S veneerlaw20ScriptDecodesC9S;simp only[hA H,ob_some,iun_not,Bool.not_true,cnd_false];unfold veneerlaw20ScriptDecodesC8S;rw[hb.len,ob_some,lbin_gtr,ob_some];refine Wp.dec (fun _=>Wp.ret rfl) (fun hsz=> ?_);unfold veneerlaw20ScriptDecodesC7S;have z0:lbldS H 1 0 [(.int .u8 0)] []=some (.slice H.length 0 0 0 true 1,H++[.row [] false]):=rfl;rw[z0,ob_some];simp only;have k0:Kp H (H++[IObj.row [] false]):=Kp.push _ _;obtain⟨w,H1,a1,b1,q1⟩:=app_bs (acc:=[]) (newBuf 1 H) k0.2 (hb.keep' hl k0) (by simp;omega);have k1:Kp H H1:=k0.trans q1;rw[a1,ob_some];simp only;rw[List.nil_append]at b1;obtain⟨g1,g2,g3⟩:=b1.bs;unfold veneerlaw20ScriptDecodesC6S;refine Wp.call (hD H1 w bs g2 g3 g1) ?_;rintro⟨w2,K⟩ ⟨tv,p,rfl,hT,hp,rp,kK⟩;have hn:=scN_le bs;have hm:=scM_le bs;have hll:(scL bs).length<=200:=dec_len 200 _;obtain⟨pb,pl⟩:=rowBS rp (scP_len bs);simp only[iextract_tuple,List.getElem?_cons_zero,List.getElem?_cons_succ,ob_some]at hT rp pb pl kK ⊢;unfold veneerlaw20ScriptDecodesC5S;have kHK:Kp H K:=Kp.tr k1 kK;refine Wp.call (hR K v bs (low_mono hl kHK.2) (hb.keep' hl kHK) (by omega)) ?_;rintro⟨w3,K3⟩ ⟨tv3,pv3,rfl,hT3,hp3,k3⟩;have pk:=pb.keep' pl k3;have hT':=hT.keep k3;have rp3:=k3.get rp;simp only[iextract_tuple,List.getElem?_cons_zero,List.getElem?_cons_succ,ob_some]at hT3 hp3 pk hT' rp3 ⊢;unfold veneerlaw20ScriptDecodesC4S;simp only[pk.b2s,hp3.b2s,ob_some,lbin_sneq,decide_true,Bool.not_true,isB_ff,gq_true,ge_true,hS K3 tv tv3 _ _ hT' hT3 (by rw[deal_len];omega) (deal_lens hn.1 hll hn.2),iun_not,lpick_false,cnd_false];unfold veneerlaw20ScriptDecodesC3S veneerlaw20ScriptDecodesC2S veneerlaw20ScriptDecodesC1S;rw[llen_slice,ob_some];have hpK:p<=K3.length:=by have:=(ges rp3).1;omega
 refine dec_flip (K:=K3) hm (fun H4 k4=> ?_) _ 0 N K3 (Nat.zero_add _) (by omega) (Keep.refl _ _) ⟨_,rp3,by rw[bytes_length,scP_len],fun j hj=> ?_⟩
 ·have kB:Keep H1.length H1 H4:=(Kp.tr kK k3).trans (k4.mono hp);have x1:=(hb.keep' hl k1).keep' (low_mono hl k1.2) kB;have x2:=g1.keep' g3 kB;simp only[x1.b2s,x2.b2s,ob_some,lbin_seq,decide_true];exact Wp.ret rfl
 ·exact⟨_,bytes_get (List.getElem?_eq_getElem (by rw[scP_len];exact hj))⟩
theorem enc_guard {gE:IV->IV->Heap->Option (IV×Heap)}(hT:TV H v0 T)(hR:R (.bool true,H))(hE:T.length<=70->(∀(t:Nat) (x:List Cl),T[t]? =some x->x.length<=1000)->Wp (gE v0 v1 H) R) :
  ∀(d i m s:Nat),i+d=70->d<m->s<=300->i<=T.length->(∀(t:Nat) (x:List Cl),t<i->T[t]? =some x->x.length<=1000) ->
   Wp (veneerlaw20ScriptEncodesC0S cal O N fa fe re gE m v0 v1 (.int .i64 (s:Nat)) (.int .i64 (T.length:Nat)) (.int .i64 (i:Nat)) H) R:=by
 intro d
 induction d with
 | zero =>
  intro i m s hi hm hs hiT hx;obtain⟨m,rfl⟩:∃j,m=j+1:=⟨m - 1,by omega⟩;rw[veneerlaw20ScriptEncodesC0S,lbin_lss,ob_some];by_cases c:i<T.length
  ·obtain⟨p,w,a1,a2,a3,a4⟩:=hT.call (getE c);have hi71:i=70:=by omega
   have him:=imin_nat (T[i]'c).length 400;rw[show(IV.int .i64 ((400:Nat):Int))=.int .i64 400 from rfl]at him;have hmn:min (T[i]'c).length 400<=400:=Nat.min_le_right _ _;generalize min (T[i]'c).length 400=q at *;have ws:IntKind.wrap .i64 ((s:Int)+(q:Nat))=((s+q:Nat):Int):=by rw[wrap_i64 (by omega) (by omega)];omega
   rw[decide_eq_true (by omega),cnd_true];simp only[a1,a2,a3,ob_some,him,lbin_add,ws,lbin_gtr];by_cases c2:300<s+q
   ·simp only[decide_eq_true (show(300:Int)<((s+q:Nat):Int) by omega),isB_tf,gq_false,ob_some,lpick_true,cnd_true];exact Wp.ret hR
   ·simp only[decide_eq_false (show ¬(300:Int)<((s+q:Nat):Int) by omega),isB_ff,gq_true,ob_some,lbin_geq,decide_eq_true (show(70:Int)<=((i:Nat):Int) by omega),lpick_false,cnd_true];exact Wp.ret hR
  ·rw[decide_eq_false (by omega),cnd_false];exact hE (by omega) fun t x h=>hx t x (by have:=(ges h).1;omega) h
 | succ d ih =>
  intro i m s hi hm hs hiT hx;obtain⟨m,rfl⟩:∃j,m=j+1:=⟨m - 1,by omega⟩;rw[veneerlaw20ScriptEncodesC0S,lbin_lss,ob_some];by_cases c:i<T.length
  ·obtain⟨p,w,a1,a2,a3,a4⟩:=hT.call (getE c);have him:=imin_nat (T[i]'c).length 400;rw[show(IV.int .i64 ((400:Nat):Int))=.int .i64 400 from rfl]at him;have hmn:min (T[i]'c).length 400<=400:=Nat.min_le_right _ _;have hmm:min (T[i]'c).length 400<400->(T[i]'c).length<=1000:=fun h=>by omega
   generalize min (T[i]'c).length 400=q at *;have ws:IntKind.wrap .i64 ((s:Int)+(q:Nat))=((s+q:Nat):Int):=by rw[wrap_i64 (by omega) (by omega)];omega
   rw[decide_eq_true (by omega),cnd_true];simp only[a1,a2,a3,ob_some,him,lbin_add,ws,lbin_gtr];by_cases c2:300<s+q
   ·simp only[decide_eq_true (show(300:Int)<((s+q:Nat):Int) by omega),isB_tf,gq_false,ob_some,lpick_true,cnd_true];exact Wp.ret hR
   ·simp only[decide_eq_false (show ¬(300:Int)<((s+q:Nat):Int) by omega),isB_ff,gq_true,ob_some,lbin_geq,lpick_false];refine Wp.dec (fun _=>Wp.ret hR) (fun c3=> ?_);have wi:IntKind.wrap .i64 ((i:Int)+1)=((i+1:Nat):Int):=by rw[wrap_i64 (by omega) (by omega)];omega
    rw[wi];refine ih (i+1) m (s+q) (by omega) (by omega) (by omega) (by omega) fun t x ht hx'=> ?_;rcases Nat.lt_or_ge t i with h | h
    ·exact hx t x h hx'
    ·obtain rfl:t=i:=by omega
     rw[getE c]at hx'
     cases hx'
     exact hmm (by omega)
  ·rw[decide_eq_false (by omega),cnd_false];exact hE (by omega) fun t x h=>hx t x (by have:=(ges h).1;omega) h
theorem encodes20_l (hA:AwkOk O fa)(hE:ScrEncOk O fe)(hR:ScrEncOk O re)(hN:1000<N){p:List UInt8}(hT:TV H v0 T)(hl1:low H.length v1)(hp:BS H v1 p) :
  Wp (veneerlaw20ScriptEncodesS cal O N fa fe re v0 v1 H) fun r=>r.1=.bool true:=by
 unfold veneerlaw20ScriptEncodesS veneerlaw20ScriptEncodesC6S veneerlaw20ScriptEncodesC5S;simp only[hA H,ob_some,iun_not,Bool.not_true,cnd_false];unfold veneerlaw20ScriptEncodesC4S veneerlaw20ScriptEncodesC3S veneerlaw20ScriptEncodesC2S;rw[hT.len,ob_some];unfold veneerlaw20ScriptEncodesC1S;refine enc_guard (R:=fun r=>r.1=.bool true) hT rfl (fun h70 hlen=> ?_) 70 0 N 0 (Nat.zero_add _) (by omega) (by omega) (Nat.zero_le _) (fun t x h=>by omega);simp only;rw[hp.len,ob_some,lbin_gtr,ob_some];refine Wp.dec (fun _=>Wp.ret rfl) (fun hsz=> ?_);refine Wp.call (hE H v0 v1 T p hT hT.low hp hl1 hlen) ?_;rintro⟨w,K⟩ ⟨kK,h⟩;simp only at kK h ⊢;have hT1:=hT.keep kK;have hp1:=hp.keep' hl1 kK;rcases h with⟨ok,v',rfl,hb,hl⟩ | ⟨no,rfl⟩
 ·simp only[iextract_tuple,List.getElem?_cons_zero,List.getElem?_cons_succ,ob_some];refine Wp.call (hR K v0 v1 T p hT1 hT1.low hp1 (low_mono hl1 kK.2) hlen) ?_;rintro⟨w2,K2⟩ ⟨k2,h⟩;simp only at k2 h ⊢;rcases h with⟨_,v2,rfl,hb2,hl2⟩ | ⟨no,_⟩
  rotate_left
  ·exact absurd ok no
  have z:decide ((0:Int)=0)=true:=rfl;simp only[iextract_tuple,List.getElem?_cons_zero,List.getElem?_cons_succ,ob_some,(hb.keep' hl k2).b2s,hb2.b2s,lbin_seq,decide_true,isB_tt,gq_true,lbin_eql,z,lpick_true];exact Wp.ret rfl
 ·simp only[iextract_tuple,List.getElem?_cons_zero,List.getElem?_cons_succ,ob_some];refine Wp.call (hR K v0 v1 T p hT1 hT1.low hp1 (low_mono hl1 kK.2) hlen) ?_;rintro⟨w2,K2⟩ ⟨k2,h⟩;simp only at k2 h ⊢;rcases h with⟨ok,_⟩ | ⟨_,rfl⟩
  ·exact absurd ok no
  have z:decide ((22:Int)=22)=true:=rfl;have z1:lb2s K2 .nilSlice=some (.str []):=rfl;simp only[iextract_tuple,List.getElem?_cons_zero,List.getElem?_cons_succ,ob_some,z1,lbin_seq,decide_true,isB_tt,gq_true,lbin_eql,z,lpick_true];exact Wp.ret rfl
end
end Go.Shade
namespace Go.Proofs.YtmpdeebjhmgpgaaGreatDoor
open Go.Shade
theorem lo41 :LoF Tryz.prog 41 vr08At:=⟨⟨Tryz.f41,Tryz.func41,by kernel_rfl⟩,by kernel_rfl⟩
theorem lo42 :LoF Tryz.prog 42 (vr08Text 41):=⟨⟨Tryz.f42,Tryz.func42,by kernel_rfl⟩,by kernel_rfl⟩
theorem lo70 :LoF Tryz.prog 70 vr08Two:=⟨⟨Tryz.f70,Tryz.func70,by kernel_rfl⟩,by kernel_rfl⟩
theorem lo69 :LoF Tryz.prog 69 vr08May:=⟨⟨Tryz.f69,Tryz.func69,by kernel_rfl⟩,by kernel_rfl⟩
theorem lo44 :LoF Tryz.prog 44 (vr08Encode 69 70):=⟨⟨Tryz.f44,Tryz.func44,by kernel_rfl⟩,by kernel_rfl⟩
theorem lo20 :LoF Tryz.prog 20 (vr08Decode 41 42):=⟨⟨Tryz.f20,Tryz.func20,by kernel_rfl⟩,by kernel_rfl⟩
theorem lo22 :LoF Tryz.prog 22 (vr08Script 44):=⟨⟨Tryz.f22,Tryz.func22,by kernel_rfl⟩,by kernel_rfl⟩
theorem lo19 :LoF Tryz.prog 19 vr20At:=⟨⟨Tryz.f19,Tryz.func19,by kernel_rfl⟩,by kernel_rfl⟩
theorem lo11 :LoF Tryz.prog 11 (vr20Decode 19 20):=⟨⟨Tryz.f11,Tryz.func11,by kernel_rfl⟩,by kernel_rfl⟩
theorem lo12 :LoF Tryz.prog 12 vr20Same:=⟨⟨Tryz.f12,Tryz.func12,by kernel_rfl⟩,by kernel_rfl⟩
theorem lo13 :LoF Tryz.prog 13 (scriptEncode 21):=⟨⟨Tryz.f13,Tryz.func13,by kernel_rfl⟩,by kernel_rfl⟩
theorem lo14 :LoF Tryz.prog 14 (vr20Encode 22):=⟨⟨Tryz.f14,Tryz.func14,by kernel_rfl⟩,by kernel_rfl⟩
theorem lo3 :LoF Tryz.prog 3 (veneerlaw20ScriptDecodes 9 10 11 12):=⟨⟨Tryz.f3,Tryz.func3,by kernel_rfl⟩,by kernel_rfl⟩
theorem lo4 :LoF Tryz.prog 4 (veneerlaw20ScriptEncodes 9 13 14):=⟨⟨Tryz.f4,Tryz.func4,by kernel_rfl⟩,by kernel_rfl⟩
theorem lo5 :LoF Tryz.prog 5 (veneerlaw20ScriptBack 9 10 13 12):=⟨⟨Tryz.f5,Tryz.func5,by kernel_rfl⟩,by kernel_rfl⟩
theorem lo6 :LoF Tryz.prog 6 (veneerlaw20ScriptAhead 9 10 13):=⟨⟨Tryz.f6,Tryz.func6,by kernel_rfl⟩,by kernel_rfl⟩
theorem okRAt :RAtOk dd 41:=fun H v bs i hb=>denLo rfl lo41 0 (nble rfl) (by rw[vr08AtEq];exact ref_at hb i)
theorem okRText :RTextOk dd 42:=fun H v bs i m hl hb hi hm=>denWp rfl lo42 65 (nble rfl) (by rw[vr08TextEq];exact ref_text (by omega) okRAt hl hb hi hm)
theorem okRTwo :RTwoOk dd 70:=fun x H h1 h2=>denLo rfl lo70 0 (nble rfl) (by rw[vr08TwoEq];exact ref_two h1 h2 H)
theorem okRMay :RMayOk dd 69:=fun c H=>denLo rfl lo69 0 (nble rfl) (by rw[vr08MayEq];exact ref_may c H)
theorem okREnc :REncOk dd 44:=fun c H=>denWp rfl lo44 0 (nble rfl) (by rw[vr08EncodeEq];exact ref_enc okRMay okRTwo c H)
theorem okRDec :RDecOk dd 20:=fun H v bs hl hb hn=>denWp rfl lo20 201 (nble rfl) (by rw[vr08DecodeEq];exact ref_dec (by omega) okRAt okRText hl hb hn)
theorem okRScr :RScrOk dd 22:=fun H v l hl hc=>denWp rfl lo22 201 (nble rfl) (by rw[vr08ScriptEq];exact ref_script (by omega) okREnc hl hc)
theorem okAt20 :RAtOk dd 19:=fun H v bs i hb=>denLo rfl lo19 0 (nble rfl) (by rw[vr20AtEq];exact at20_s hb i)
theorem okDec20 :R20DecOk dd 11:=fun H v bs hl hb hn=>denWp rfl lo11 17001 (nble rfl) (by rw[vr20DecodeEq];exact refDec_s okAt20 okRDec (by omega) hl hb hn)
theorem okSame :SameTOk dd 12:=fun H v0 v1 T U h0 h1 hT hx=>denLo rfl lo12 1001 (nble rfl) (by rw[vr20SameEq];exact sameT_s (by omega) h0 h1 hT hx)
theorem okEnc :ScrEncOk dd 13:=fun H v0 v1 T p hT hl0 hp hl1 hx=>denWp rfl lo13 1002 (nble rfl) (by rw[scriptEncodeEq];exact scrEnc_s (scr_p (okScript (T:=uu) (f:=21) rfl)) (by omega) hT hl0 hp hl1 hx)
theorem okEnc20 :ScrEncOk dd 14:=fun H v0 v1 T p hT hl0 hp hl1 hx=>denWp rfl lo14 64002 (nble rfl) (by rw[vr20EncodeEq];exact refEnc_s okRScr (by omega) hT hl0 hp hl1 hx)
end Go.Proofs.YtmpdeebjhmgpgaaGreatDoor
